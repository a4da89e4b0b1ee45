/- walk: LexTexts. -/
import Derived.Test.YthogialdoikanaaDoorX4
import Derived.Test.YthogialdoikanaaDoorG5
import Derived.Test.YthogialdoikanaaDoorL1
namespace Go.Proofs.YthogialdoikanaaDoor
open Go.RowKit

theorem rlex_any (s : ByteArray) (W : World) : Calls Tryd.prog 12 #[.string s] W (LexPost s W) := by
  by_cases h : s.size ≤ 8192
  · exact rlex_go s W h
  · exact rlex_big s W (by omega)
theorem sameF_self (p : Bool) : ∀ l : List Tok, sameF p l l = true
  | [] => rfl
  | a :: r => by
    simp only [sameF]
    rw [sameF_self p r]
    simp [sameT]

set_option maxHeartbeats 4000000 in
set_option maxRecDepth 100000 in
theorem texts_any (HL : LexOK) (s : ByteArray) (w : World) (hT : Tabs w) : Calls Tryd.prog 4 #[.string s] w fun e w' => e = .returned (.bool true) ∧ Below w.heap.size w w' := by
  have AW := Lib.hid (fun W (hW : Tabs W) => awake_any HL W hW)
  have L1 := HL s w hT
  have L2 := fun W => rlex_any s W
  have hlen := lexS_len s.data.toList
  unfold LexPost at L1 L2
  generalize lexS s.data.toList = R at L1 L2 hlen
  obtain ⟨l, p, c⟩ := R
  simp only at L1 L2 hlen
  have same := fun (W : World) (A B : Option Addr) (c1 c2 : Nat) (h1 : HasToks W W.heap.size A l) (h2 : HasToks W W.heap.size B l) => same_any W A B c1 c2 l l true h1 h2 (by omega) (by omega)
  rw [sameF_self true l] at same
  have HL1 := Lib.hid L1
  have HL2 := Lib.hid L2
  have SAME := Lib.hid same
  clear L1 L2 same HL
  obtain ⟨n, hn⟩ : ∃ n, l.length = n := ⟨_, rfl⟩
  have HN := Lib.hid hn
  clear hn
  go_enter Tryd.func4, Tryd.ntmps4
  go_wp2_with fail
  refine HL1.out.mono ?_
  rintro e w1 ⟨v1, rfl, hown1, hb1⟩
  obtain ⟨A1, c1, rfl, hc1, hA1⟩ := hown1.has
  have HA1 := Lib.hid hA1
  clear hown1 hA1
  go_wp2_with fail
  refine (HL2.out _).mono ?_
  rintro e w2 ⟨v2, rfl, hown2, hb2'⟩
  obtain ⟨A2, c2, rfl, hc2, hA2⟩ := hown2.has
  have hb2 := hb1.trans (hb2'.mono hb1.size)
  have HA12 := Lib.hid ((HA1.out.below hb2').more hb2'.size)
  have HA2 := Lib.hid hA2
  clear hown2 hA2
  go_wp2_with fail
  refine (AW.out _ (hT.here hb2)).mono ?_
  rintro e w3 ⟨rfl, hb3'⟩
  have hb3 := hb2.trans (hb3'.mono hb2.size)
  have HA13 := Lib.hid ((HA12.out.below hb3').more hb3'.size)
  have HA23 := Lib.hid ((HA2.out.below hb3').more hb3'.size)
  go_wp2_with (go_at_call 13; refine (SAME.out _ A1 A2 _ _ HA13.out HA23.out).mono ?_; rintro e w4 ⟨rfl, hb4'⟩)
  go_ret
  exact ⟨rfl, hb3.trans (hb4'.mono hb3.size)⟩
end Go.Proofs.YthogialdoikanaaDoor
