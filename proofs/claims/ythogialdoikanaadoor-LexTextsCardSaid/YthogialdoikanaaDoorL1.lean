/- walks: awake, fails, LexKnown. -/
import Derived.Test.YthogialdoikanaaDoorP1
import Derived.Test.YthogialdoikanaaDoorS1
namespace Go.Proofs.YthogialdoikanaaDoor
open Go.RowKit

def awToks : List Tok := [⟨1, [97], 0, 0⟩, ⟨4, [60, 61], 0, 1⟩, ⟨2, [], -5, 3⟩, ⟨0, [], 0, 5⟩]
theorem aw_lex : lexS [97, 60, 61, 45, 53] = (awToks, 0, 0) := by kernel_rfl
theorem aw_print : printS awToks = (0, [97, 32, 60, 61, 32, 45, 53]) := by kernel_rfl
def knToks : List Tok := [⟨1, [97], 0, 0⟩, ⟨4, [46], 0, 1⟩, ⟨2, [], 1, 2⟩, ⟨0, [], 0, 3⟩]
theorem kn_lex : lexS [97, 46, 49] = (knToks, 0, 0) := by kernel_rfl
theorem kn_f1 : lexS [49, 97] = ([], 1, 14) := by kernel_rfl
theorem kn_f2 : lexS [48, 49] = ([], 0, 12) := by kernel_rfl
theorem kn_f3 : lexS [34, 97] = ([], 0, 14) := by kernel_rfl
theorem kn_f4 : lexS [97, 32, 63, 32, 98] = ([], 2, 14) := by kernel_rfl

def LexOK : Prop := ∀ (s : ByteArray) (W : World), Tabs W → Calls Tryd.prog 9 #[.string s] W (LexPost s W)

theorem aw_text : ∀ t ∈ awToks, TextOK t := by
  intro t ht W hW
  refine text_plain t W hW ?_ ?_
  · simp only [awToks, List.mem_cons, List.not_mem_nil, or_false] at ht
    rcases ht with rfl | rfl | rfl | rfl <;> exact ⟨by decide, by decide⟩
  · simp only [awToks, List.mem_cons, List.not_mem_nil, or_false] at ht
    rcases ht with rfl | rfl | rfl | rfl <;> (rintro ⟨h, _⟩; revert h; decide)
theorem aw_small : ∀ t ∈ awToks, (textS t).2.length ≤ 6291500 := by
  intro t ht
  simp only [awToks, List.mem_cons, List.not_mem_nil, or_false] at ht
  rcases ht with rfl | rfl | rfl | rfl <;> (refine Nat.le_trans (m := 100) ?_ (by omega); exact of_decide_eq_true (by kernel_rfl))

theorem HasToks.new (w : World) (l : List Tok) (T : TypeId) : HasToks (w.alloc (.cells (toksC l).toArray T)) (w.alloc (.cells (toksC l).toArray T)).heap.size (some ⟨w.heap.size, 0, none⟩) l :=
  fun _ => ⟨_, rfl, by simp, news_new w (toksC l) T⟩

set_option maxHeartbeats 2000000 in
set_option maxRecDepth 100000 in
theorem fails_true (HL : LexOK) (s : ByteArray) (p : Nat) (c : Int) (w : World) (hT : Tabs w) (hs : lexS s.data.toList = ([], p, c)) : Calls Tryd.prog 11 #[.string s, .int .i64 c, .int .i64 p] w fun e w' => e = .returned (.bool true) ∧ Below w.heap.size w w' := by
  have hlx := HL s w hT
  have hlx2 : Calls Tryd.prog 9 #[.string s] w fun e w' => ∃ v, e = .returned (.tuple #[v, .int .i64 p, .int .i64 c]) ∧ OwnToks w' w.heap.size v [] ∧ Below w.heap.size w w' :=
    hlx.mono (fun e w' ⟨v, h1, h2, h3⟩ => ⟨v, by rw [hs] at h1; exact h1, by rw [hs] at h2; exact h2, h3⟩)
  have HLX := Lib.hid hlx2
  clear hlx hlx2 hs HL
  go_enter Tryd.func11, Tryd.ntmps11
  go_wp2_with fail
  refine HLX.out.mono ?_
  rintro e w1 ⟨v, rfl, hown, hb⟩
  obtain ⟨A, ca, rfl, -, -⟩ := hown.has
  clear hown
  go_wp2
  go_ret
  exact ⟨rfl, hb⟩

set_option maxHeartbeats 2000000 in
set_option maxRecDepth 100000 in
theorem awake_any (HL : LexOK) (w : World) (hT : Tabs w) : Calls Tryd.prog 10 #[] w fun e w' => e = .returned (.bool true) ∧ Below w.heap.size w w' := by
  have hlx2 : Calls Tryd.prog 9 #[.string ⟨#[97, 60, 61, 45, 53]⟩] w fun e w' => ∃ v, e = .returned (.tuple #[v, .int .i64 0, .int .i64 0]) ∧ OwnToks w' w.heap.size v awToks ∧ Below w.heap.size w w' :=
    (HL ⟨#[97, 60, 61, 45, 53]⟩ w hT).mono (fun e w' h => by
      obtain ⟨v, h1, h2, h3⟩ := h
      have e0 : lexS (⟨#[97, 60, 61, 45, 53]⟩ : ByteArray).data.toList = (awToks, 0, 0) := aw_lex
      rw [e0] at h1 h2
      exact ⟨v, h1, h2, h3⟩)
  have HLX := Lib.hid hlx2
  clear hlx2 HL
  go_enter Tryd.func10, Tryd.ntmps10
  go_wp2_with fail
  refine HLX.out.mono ?_
  rintro e w1 ⟨v, rfl, hown, hb⟩
  obtain ⟨A, ca, rfl, hca, hA⟩ := hown.has
  have hpr := print_any w1 (hT.here hb) A ca awToks hA (by decide) aw_small aw_text
  rw [aw_print] at hpr
  have hpr2 : Calls Tryd.prog 14 #[.slice A 4 ca] w1 fun e w' => e = .returned (.tuple #[.string ⟨#[97, 32, 60, 61, 32, 45, 53]⟩, .int .i64 0]) ∧ Below w1.heap.size w1 w' := hpr
  have HPR := Lib.hid hpr2
  have HA := Lib.hid hA
  clear hown hpr hpr2 hA
  go_wp2_with fail
  refine HPR.out.mono ?_
  rintro e w2 ⟨rfl, hb2⟩
  have hA2 := HA.out.below hb2
  have HA2 := Lib.hid hA2
  clear hA2
  go_wp2_with fail
  refine (same_any _ _ _ _ _ awToks awToks true (((HA2.out.more hb2.size).below (below_alloc w2 _)).more (by simp)) (HasToks.new w2 awToks 29) (by decide) (by decide)).mono ?_
  rintro e w3 ⟨rfl, hb3⟩
  have hbb := (hb.trans (hb2.mono hb.size)).trans ((below_alloc w2 (.cells (toksC awToks).toArray 29)).mono (Nat.le_trans hb.size hb2.size))
  have hbc := hbb.trans (hb3.mono hbb.size)
  rw [show sameF true awToks awToks = true by kernel_rfl]
  go_wp2
  go_ret
  exact ⟨rfl, hbc⟩

set_option maxHeartbeats 2000000 in
set_option maxRecDepth 100000 in
theorem known_any (HL : LexOK) (w : World) (hT : Tabs w) : Calls Tryd.prog 3 #[] w fun e w' => e = .returned (.bool true) ∧ Below w.heap.size w w' := by
  have hlx2 : Calls Tryd.prog 9 #[.string ⟨#[97, 46, 49]⟩] w fun e w' => ∃ v, e = .returned (.tuple #[v, .int .i64 0, .int .i64 0]) ∧ OwnToks w' w.heap.size v knToks ∧ Below w.heap.size w w' :=
    (HL ⟨#[97, 46, 49]⟩ w hT).mono (fun e w' h => by
      obtain ⟨v, h1, h2, h3⟩ := h
      have e0 : lexS (⟨#[97, 46, 49]⟩ : ByteArray).data.toList = (knToks, 0, 0) := kn_lex
      rw [e0] at h1 h2
      exact ⟨v, h1, h2, h3⟩)
  have HLX := Lib.hid hlx2
  have HF : ∀ (s : ByteArray) (p : Nat) (c : Int) (W : World), Tabs W → lexS s.data.toList = ([], p, c) → Calls Tryd.prog 11 #[.string s, .int .i64 c, .int .i64 p] W fun e w' => e = .returned (.bool true) ∧ Below W.heap.size W w' := fun s p c W h1 h2 => fails_true HL s p c W h1 h2
  have h1 : ∀ W, Tabs W → Calls Tryd.prog 11 #[.string ⟨#[49, 97]⟩, .int .i64 14, .int .i64 1] W fun e w' => e = .returned (.bool true) ∧ Below W.heap.size W w' := fun W h => HF ⟨#[49, 97]⟩ 1 14 W h kn_f1
  have h2 : ∀ W, Tabs W → Calls Tryd.prog 11 #[.string ⟨#[48, 49]⟩, .int .i64 12, .int .i64 0] W fun e w' => e = .returned (.bool true) ∧ Below W.heap.size W w' := fun W h => HF ⟨#[48, 49]⟩ 0 12 W h kn_f2
  have h3 : ∀ W, Tabs W → Calls Tryd.prog 11 #[.string ⟨#[34, 97]⟩, .int .i64 14, .int .i64 0] W fun e w' => e = .returned (.bool true) ∧ Below W.heap.size W w' := fun W h => HF ⟨#[34, 97]⟩ 0 14 W h kn_f3
  have h4 : ∀ W, Tabs W → Calls Tryd.prog 11 #[.string ⟨#[97, 32, 63, 32, 98]⟩, .int .i64 14, .int .i64 2] W fun e w' => e = .returned (.bool true) ∧ Below W.heap.size W w' := fun W h => HF ⟨#[97, 32, 63, 32, 98]⟩ 2 14 W h kn_f4
  have hA : ∀ W, Tabs W → Calls Tryd.prog 10 #[] W fun e w' => e = .returned (.bool true) ∧ Below W.heap.size W w' := fun W h => awake_any HL W h
  have H1 := Lib.hid h1
  have H2 := Lib.hid h2
  have H3 := Lib.hid h3
  have H4 := Lib.hid h4
  have HA := Lib.hid hA
  clear hlx2 HL HF h1 h2 h3 h4 hA
  go_enter Tryd.func3, Tryd.ntmps3
  go_wp2_with fail
  refine HLX.out.mono ?_
  rintro e w1 ⟨v, rfl, hown, hb1⟩
  obtain ⟨A, ca, rfl, hca, hHas⟩ := hown.has
  rw [show knToks.length = 4 from rfl]
  have hHH := Lib.hid hHas
  clear hown hHas
  go_wp2_with fail
  refine (HA.out _ (hT.here hb1)).mono ?_
  rintro e w2 ⟨rfl, hb2'⟩
  have hb2 := hb1.trans (hb2'.mono hb1.size)
  go_wp2_with fail
  refine (H1.out _ (hT.here hb2)).mono ?_
  rintro e w3 ⟨rfl, hb3'⟩
  have hb3 := hb2.trans (hb3'.mono hb2.size)
  go_wp2_with fail
  refine (H2.out _ (hT.here hb3)).mono ?_
  rintro e w4 ⟨rfl, hb4'⟩
  have hb4 := hb3.trans (hb4'.mono hb3.size)
  go_wp2_with fail
  refine (H3.out _ (hT.here hb4)).mono ?_
  rintro e w5 ⟨rfl, hb5'⟩
  have hb5 := hb4.trans (hb5'.mono hb4.size)
  go_wp2_with fail
  refine (H4.out _ (hT.here hb5)).mono ?_
  rintro e w6 ⟨rfl, hb6'⟩
  have hb6 := hb5.trans (hb6'.mono hb5.size)
  have hH6 := ((((hHH.out.below hb2').below (hb3'.mono hb2'.size)).below (hb4'.mono (Nat.le_trans hb2'.size hb3'.size))).below (hb5'.mono (Nat.le_trans (Nat.le_trans hb2'.size hb3'.size) hb4'.size))).below (hb6'.mono (Nat.le_trans (Nat.le_trans (Nat.le_trans hb2'.size hb3'.size) hb4'.size) hb5'.size))
  obtain ⟨ad, rfl, c0, c1, c2, c3⟩ := hH6.at_ (i := 2) (by decide)
  clear c0 c1 c3
  have c2' : w6.cell? ⟨ad.block, ad.off + 8 + 2, none⟩ = some (.int .i64 1) := c2
  clear c2
  go_wp2
  go_ret
  exact ⟨rfl, hb6⟩
end Go.Proofs.YthogialdoikanaaDoor
