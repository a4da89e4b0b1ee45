/- walk: text. -/
import Derived.Test.YthogialdoikanaaDoorW9
import Derived.Test.YthogialdoikanaaDoorD
import Derived.Deep.QuietTactic
import Derived.BigQuiet
import Derived.Lib.CleanWalkFns
import Derived.Lib.AppendIntMem
namespace Go.Proofs.YthogialdoikanaaDoor
open Go.RowKit

/-- a token as a value -/
def tokV (t : Tok) : Value := .agg #[.int .i64 t.k, .string ⟨t.s.toArray⟩, .int .i64 t.n, .int .i64 t.p]

theorem below_alloc (w : World) (o : Obj) : Below w.heap.size w (w.alloc o) := (Below.refl _ w).alloc (Nat.le_refl _) o
theorem below_dr {B : Nat} {a w : World} (h : Below B a w) (n : Nat) : Below B a (w.drewN n) := ⟨h.os, h.tape, h.output, h.size, h.block⟩

abbrev TextPost (x : Int × List UInt8) (w : World) (e : Ending) (w' : World) : Prop := e = .returned (.tuple #[.string ⟨x.2.toArray⟩, .int .i64 x.1]) ∧ Below w.heap.size w w'

set_option maxHeartbeats 2000000 in
set_option maxRecDepth 100000 in
theorem text_word (P : Int) (S : List UInt8) (w : World) (hw : isWordS S = true) : Calls Tryd.prog 30 #[tokV ⟨1, S, 0, P⟩] w (TextPost (0, S) w) := by
  have HW := fun (w : World) => isWord_any ⟨S.toArray⟩ w
  simp only [hw] at HW
  have HWW := Lib.hid HW
  clear HW hw
  unfold tokV
  go_enter Tryd.func30, Tryd.ntmps30
  go_wp2_with (go_at_call 46; refine (HWW.out _).mono ?_; rintro e w1 ⟨rfl, hb1⟩; have hc1 : w1.cell? ⟨w.heap.size, 1, none⟩ = some (.string ⟨S.toArray⟩) := (hb1.cell (by simp)).trans (by simp))
  go_ret2
  exact ⟨rfl, (below_alloc w _).trans (hb1.mono (by simp))⟩

set_option maxHeartbeats 2000000 in
set_option maxRecDepth 100000 in
theorem text_noword (P : Int) (S : List UInt8) (w : World) (hw : isWordS S = false) : Calls Tryd.prog 30 #[tokV ⟨1, S, 0, P⟩] w (TextPost (1, []) w) := by
  have HW := fun (w : World) => isWord_any ⟨S.toArray⟩ w
  simp only [hw] at HW
  have HWW := Lib.hid HW
  clear HW hw
  unfold tokV
  go_enter Tryd.func30, Tryd.ntmps30
  go_wp2_with (go_at_call 46; refine (HWW.out _).mono ?_; rintro e w1 ⟨rfl, hb1⟩; have hc0 : w1.cell? ⟨w.heap.size, 0, none⟩ = some (.int .i64 1) := (hb1.cell (by simp)).trans (by simp); have hc1 : w1.cell? ⟨w.heap.size, 1, none⟩ = some (.string ⟨S.toArray⟩) := (hb1.cell (by simp)).trans (by simp); have hc2 : w1.cell? ⟨w.heap.size, 2, none⟩ = some (.int .i64 0) := (hb1.cell (by simp)).trans (by simp))
  go_quiet (fail)
  go_wp2
  go_ret2
  exact ⟨rfl, below_dr ((below_alloc w _).trans (hb1.mono (by simp))) _⟩

set_option maxHeartbeats 2000000 in
set_option maxRecDepth 100000 in
theorem text_no1 (P N : Int) (S : List UInt8) (w : World) (hN : (N == 0) = false) : Calls Tryd.prog 30 #[tokV ⟨1, S, N, P⟩] w (TextPost (1, []) w) := by
  unfold tokV
  go_enter Tryd.func30, Tryd.ntmps30
  go_wp2
  go_quiet (fail)
  go_wp2
  go_ret2
  exact ⟨rfl, below_dr (below_alloc w _) _⟩

set_option maxHeartbeats 2000000 in
set_option maxRecDepth 100000 in
theorem text_no4 (P N : Int) (S : List UInt8) (w : World) (hN : (N == 0) = false) : Calls Tryd.prog 30 #[tokV ⟨4, S, N, P⟩] w (TextPost (1, []) w) := by
  unfold tokV
  go_enter Tryd.func30, Tryd.ntmps30
  go_wp2
  go_quiet (fail)
  go_wp2
  go_ret2
  exact ⟨rfl, below_dr (below_alloc w _) _⟩

set_option maxHeartbeats 2000000 in
set_option maxRecDepth 100000 in
theorem text_no4e (P : Int) (w : World) : Calls Tryd.prog 30 #[tokV ⟨4, [], 0, P⟩] w (TextPost (1, []) w) := by
  unfold tokV
  go_enter Tryd.func30, Tryd.ntmps30
  go_wp2
  go_quiet (fail)
  go_wp2
  go_ret2
  exact ⟨rfl, below_dr (below_alloc w _) _⟩

set_option maxHeartbeats 2000000 in
set_option maxRecDepth 100000 in
theorem text_no2 (P N : Int) (S : List UInt8) (w : World) (hS : S.isEmpty = false) : Calls Tryd.prog 30 #[tokV ⟨2, S, N, P⟩] w (TextPost (1, []) w) := by
  unfold tokV
  go_enter Tryd.func30, Tryd.ntmps30
  go_wp2
  go_quiet (fail)
  go_wp2
  go_ret2
  exact ⟨rfl, below_dr (below_alloc w _) _⟩

set_option maxHeartbeats 2000000 in
set_option maxRecDepth 100000 in
theorem text_no3 (P N : Int) (S : List UInt8) (w : World) (hN : (N == 0) = false) : Calls Tryd.prog 30 #[tokV ⟨3, S, N, P⟩] w (TextPost (1, []) w) := by
  unfold tokV
  go_enter Tryd.func30, Tryd.ntmps30
  go_wp2
  go_quiet (fail)
  go_wp2
  go_ret2
  exact ⟨rfl, below_dr (below_alloc w _) _⟩

set_option maxHeartbeats 2000000 in
set_option maxRecDepth 100000 in
theorem text_nok (K P N : Int) (S : List UInt8) (w : World) (h1 : (K == 1) = false) (h2 : (K == 2) = false) (h3 : (K == 3) = false) (h4 : (K == 4) = false) : Calls Tryd.prog 30 #[tokV ⟨K, S, N, P⟩] w (TextPost (1, []) w) := by
  unfold tokV
  go_enter Tryd.func30, Tryd.ntmps30
  go_wp2
  go_quiet (fail)
  go_wp2
  go_ret2
  exact ⟨rfl, below_dr (below_alloc w _) _⟩

set_option maxHeartbeats 2000000 in
set_option maxRecDepth 100000 in
theorem text_sign (P : Int) (S : List UInt8) (w : World) (hS : S.isEmpty = false) (hs : signS S = S) : Calls Tryd.prog 30 #[tokV ⟨4, S, 0, P⟩] w (TextPost (0, S) w) := by
  have HW := fun (w : World) => (sign_any ⟨S.toArray⟩ w).mono (fun e w' (h : _ ∧ w = w') => (⟨h.1, h.2.symm⟩ : e = _ ∧ w' = w))
  simp only [hs] at HW
  have HWW := Lib.hid HW
  clear HW hs
  unfold tokV
  go_enter Tryd.func30, Tryd.ntmps30
  go_wp2
  go_quiet (first | (go_at_call 19; refine Calls.quiet_of_same (HWW.out _)))
  go_wp2
  go_ret2
  exact ⟨rfl, below_dr (below_alloc w _) _⟩

set_option maxHeartbeats 2000000 in
set_option maxRecDepth 100000 in
theorem text_nosign (P : Int) (S X : List UInt8) (w : World) (hS : S.isEmpty = false) (hs : signS S = X) (hX : (X == S) = false) : Calls Tryd.prog 30 #[tokV ⟨4, S, 0, P⟩] w (TextPost (1, []) w) := by
  have HW := fun (w : World) => (sign_any ⟨S.toArray⟩ w).mono (fun e w' (h : _ ∧ w = w') => (⟨h.1, h.2.symm⟩ : e = _ ∧ w' = w))
  simp only [hs] at HW
  have HWW := Lib.hid HW
  clear HW hs
  unfold tokV
  go_enter Tryd.func30, Tryd.ntmps30
  go_wp2
  go_quiet (first | (go_at_call 19; refine Calls.quiet_of_same (HWW.out _)))
  go_wp2

  go_ret2
  exact ⟨rfl, below_dr (below_alloc w _) _⟩

set_option maxHeartbeats 2000000 in
set_option maxRecDepth 100000 in
theorem text_num (P N : Int) (w : World) (hT : Tabs w) (h0 : -9223372036854775808 ≤ N) (h1 : N ≤ 9223372036854775807) : Calls Tryd.prog 30 #[tokV ⟨2, [], N, P⟩] w (TextPost (0, Lib.itoa N) w) := by
  unfold tokV
  have HF := fun (W : World) (h : Tabs W) => Tryd.strconv_FormatInt_10 N h0 h1 W h.p10
  have HFF := Lib.hid HF
  clear HF h0 h1
  go_enter Tryd.func30, Tryd.ntmps30
  go_wp2
  go_quiet (fail)
  have hb := below_dr (below_alloc w (.cells #[.int .i64 2, .string ⟨#[]⟩, .int .i64 N, .int .i64 P] 29)) nq
  have HT := hT.here hb
  go_wp2_with fail
  refine (HFF.out _ HT).mono ?_
  rintro e w1 ⟨rfl, k, os, rfl⟩
  have hb2 := hb.trans (Lib.below_grow w.heap.size _ hb.size k os)
  rw [World.drewN_drewN] at hb2
  go_wp2
  go_ret2
  exact ⟨rfl, hb2⟩

theorem byte_beq_false {X S : List UInt8} (h : X ≠ S) : (X == S) = false := by rw [beq_eq_false_iff_ne]; exact h
def In64 (n : Int) : Prop := -9223372036854775808 ≤ n ∧ n ≤ 9223372036854775807

theorem text_plain (t : Tok) (w : World) (hT : Tabs w) (hn : In64 t.n) (hk : ¬ (t.k = 3 ∧ t.n = 0)) : Calls Tryd.prog 30 #[tokV t] w (TextPost (textS t) w) := by
  obtain ⟨K, S, N, P⟩ := t
  simp only at hn hk
  have bf : ∀ {a b : Int}, a ≠ b → (a == b) = false := fun h => by rw [beq_eq_false_iff_ne]; exact h
  by_cases k1 : K = 1
  · subst k1
    by_cases n0 : N = 0
    · subst n0
      cases hw : isWordS S with
      | true =>
        have e : textS ⟨1, S, 0, P⟩ = (0, S) := by simp [textS, hw]
        rw [e]; exact text_word P S w hw
      | false =>
        have e : textS ⟨1, S, 0, P⟩ = (1, []) := by simp [textS, hw]
        rw [e]; exact text_noword P S w hw
    · have e : textS ⟨1, S, N, P⟩ = (1, []) := by simp [textS, n0]
      rw [e]; exact text_no1 P N S w (bf n0)
  · by_cases k4 : K = 4
    · subst k4
      by_cases n0 : N = 0
      · subst n0
        by_cases hS : S = []
        · subst hS
          have e : textS ⟨4, [], 0, P⟩ = (1, []) := by simp [textS]
          rw [e]; exact text_no4e P w
        · have hS' : S.isEmpty = false := by simpa using hS
          by_cases hs : signS S = S
          · have e : textS ⟨4, S, 0, P⟩ = (0, S) := by simp [textS, hs, hS]
            rw [e]; exact text_sign P S w hS' hs
          · have e : textS ⟨4, S, 0, P⟩ = (1, []) := by simp [textS, hs]
            rw [e]; exact text_nosign P S _ w hS' rfl (byte_beq_false hs)
      · have e : textS ⟨4, S, N, P⟩ = (1, []) := by simp [textS, n0]
        rw [e]; exact text_no4 P N S w (bf n0)
    · by_cases k2 : K = 2
      · subst k2
        by_cases hS : S = []
        · subst hS
          have e : textS ⟨2, [], N, P⟩ = (0, Lib.itoa N) := by simp [textS]
          rw [e]; exact text_num P N w hT hn.1 hn.2
        · have e : textS ⟨2, S, N, P⟩ = (1, []) := by simp [textS, hS]
          rw [e]; exact text_no2 P N S w (by simpa using hS)
      · by_cases k3 : K = 3
        · subst k3
          have n0 : N ≠ 0 := fun h => hk ⟨rfl, h⟩
          have e : textS ⟨3, S, N, P⟩ = (1, []) := by simp [textS, n0]
          rw [e]; exact text_no3 P N S w (bf n0)
        · have e : textS ⟨K, S, N, P⟩ = (1, []) := by simp [textS, k1, k2, k3, k4]
          rw [e]; exact text_nok K P N S w (bf k1) (bf k2) (bf k3) (bf k4)
end Go.Proofs.YthogialdoikanaaDoor
