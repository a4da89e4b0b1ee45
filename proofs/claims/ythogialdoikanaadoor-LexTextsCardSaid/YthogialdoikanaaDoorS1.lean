/- walk: Same. -/
import Derived.Test.YthogialdoikanaaDoorR1
namespace Go.Proofs.YthogialdoikanaaDoor
open Go.RowKit

def sameT (p : Bool) (a b : Tok) : Bool := a.k == b.k && (a.s == b.s && (a.n == b.n && (!p || a.p == b.p)))
def sameF (p : Bool) : List Tok → List Tok → Bool
  | [], [] => true
  | a :: r, b :: q => sameT p a b && sameF p r q
  | _, _ => false
theorem sameF_len (p : Bool) : ∀ a b : List Tok, a.length ≠ b.length → sameF p a b = false
  | [], [], h => absurd rfl h
  | [], _ :: _, _ => rfl
  | _ :: _, [], _ => rfl
  | a :: r, b :: q, h => by
    simp only [sameF]
    rw [sameF_len p r q (by simpa using h), Bool.and_false]
theorem sameF_drop (p : Bool) (a b : List Tok) (i : Nat) (ha : i < a.length) (hb : i < b.length) : sameF p (a.drop i) (b.drop i) = (sameT p a[i] b[i] && sameF p (a.drop (i + 1)) (b.drop (i + 1))) := by
  rw [List.drop_eq_getElem_cons ha, List.drop_eq_getElem_cons hb]
  rfl

set_option maxHeartbeats 2000000 in
set_option maxRecDepth 100000 in
theorem same_any (w : World) (A B : Option Addr) (ca cb : Nat) (a b : List Tok) (p : Bool) (hA : HasToks w w.heap.size A a) (hB : HasToks w w.heap.size B b) (h63a : a.length ≤ 9223372036854775806) (_h63b : b.length ≤ 9223372036854775806) :
    Calls Tryd.prog 13 #[.slice A a.length ca, .slice B b.length cb, .bool p] w fun e w' => e = .returned (.bool (sameF p a b)) ∧ Below w.heap.size w w' := by
  by_cases hl : a.length = b.length
  · have hal : ∃ n, a.length = n := ⟨_, rfl⟩
    obtain ⟨n, hn⟩ := hal
    have HB := Lib.hid hB
    have HA := Lib.hid hA
    rw [hn] at h63a
    have hbn : b.length = n := hl ▸ hn
    rw [hn, hbn]
    have HN := Lib.hid hn
    have HBN := Lib.hid hbn
    clear hB hA hl hn hbn _h63b
    go_enter Tryd.func13, Tryd.ntmps13
    go_wp2
    go_loopw [7] (fun vi wr => ∃ k m : Nat, vi = .int .i64 k ∧ k ≤ n ∧ wr = w.drewN m ∧ sameF p (a.drop k) (b.drop k) = sameF p a b) (fun vi _ => n - (intOf vi).toNat)
    case atStart => exact ⟨0, 0, rfl, by omega, rfl, rfl⟩
    case round =>
      obtain ⟨k, m, rfl, hk, hwr, hf⟩ := hrel
      have HF := Lib.hid hf
      have HW := Lib.hid hwr
      clear hf
      by_cases hlt : k < n
      · have hka : k < a.length := by have := HN.out; omega
        have hkb : k < b.length := by have := HBN.out; omega
        have hba : HasToks wr w.heap.size A a := HA.out.below (by rw [HW.out]; exact below_dr (Below.refl _ _) _)
        have hbb : HasToks wr w.heap.size B b := HB.out.below (by rw [HW.out]; exact below_dr (Below.refl _ _) _)
        obtain ⟨ada, rfl, c0, c1, c2, c3⟩ := hba.at_ hka
        obtain ⟨adb, rfl, d0, d1, d2, d3⟩ := hbb.at_ hkb
        have hst := sameF_drop p a b k hka hkb
        rw [HF.out] at hst
        have HST := Lib.hid hst
        clear hst hba hbb hwr
        generalize a[k] = x at *
        generalize b[k] = y at *
        obtain ⟨x0, x1, x2, x3⟩ := x
        obtain ⟨y0, y1, y2, y3⟩ := y
        simp only at c0 c1 c2 c3 d0 d1 d2 d3
        have hst := HST.out
        simp only [sameT] at hst
        have HST2 := Lib.hid hst
        clear hst HST
        have fin : ∀ q, Below w.heap.size w (wr.drewN q) := fun q => by rw [HW.out]; exact below_dr (below_dr (Below.refl _ _) _) _
        have HFIN := Lib.hid fin
        clear fin
        by_cases e0 : x0 = y0
        · subst e0
          by_cases e1 : x1 = y1
          · subst e1
            by_cases e2 : x2 = y2
            · subst e2
              cases p with
              | false =>
                have hres : sameF false a b = sameF false (a.drop (k + 1)) (b.drop (k + 1)) := by rw [HST2.out]; simp
                have HRES := Lib.hid hres
                clear hres
                go_wp2
                go_quiet (fail)
                go_wp2
                go_roundw
                case rel => exact ⟨k + 1, m + nq, by go_num, by omega, by rw [HW.out, World.drewN_drewN], HRES.out.symm⟩
                case measure => simp [intOf]; omega
              | true =>
                by_cases e3 : x3 = y3
                · subst e3
                  have hres : sameF true a b = sameF true (a.drop (k + 1)) (b.drop (k + 1)) := by rw [HST2.out]; simp
                  have HRES := Lib.hid hres
                  clear hres
                  go_wp2
                  go_quiet (fail)
                  go_wp2
                  go_roundw
                  case rel => exact ⟨k + 1, m + nq, by go_num, by omega, by rw [HW.out, World.drewN_drewN], HRES.out.symm⟩
                  case measure => simp [intOf]; omega
                · have n3 : (x3 == y3) = false := by rw [beq_eq_false_iff_ne]; exact e3
                  have m3 : (x3 != y3) = true := by rw [bne, n3]; rfl
                  have hres : sameF true a b = false := by rw [HST2.out]; simp [e3]
                  have HRES := Lib.hid hres
                  clear hres e3
                  go_wp2
                  go_quiet (fail)
                  go_wp2
                  go_ret
                  exact ⟨ret_bool HRES.out.symm, HFIN.out _⟩
            · have n2 : (x2 == y2) = false := by rw [beq_eq_false_iff_ne]; exact e2
              have m2 : (x2 != y2) = true := by rw [bne, n2]; rfl
              have hres : sameF p a b = false := by rw [HST2.out]; simp [e2]
              have HRES := Lib.hid hres
              clear hres e2
              go_wp2
              go_quiet (fail)
              go_wp2
              go_ret
              exact ⟨ret_bool HRES.out.symm, HFIN.out _⟩
          · have n1 : (x1 == y1) = false := by rw [beq_eq_false_iff_ne]; exact e1
            have m1 : (x1 != y1) = true := by rw [bne, n1]; rfl
            have hres : sameF p a b = false := by rw [HST2.out]; simp [e1]
            have HRES := Lib.hid hres
            clear hres e1
            go_wp2
            go_quiet (fail)
            go_wp2
            go_ret
            exact ⟨ret_bool HRES.out.symm, HFIN.out _⟩
        · have n0 : (x0 == y0) = false := by rw [beq_eq_false_iff_ne]; exact e0
          have m0 : (x0 != y0) = true := by rw [bne, n0]; rfl
          have hres : sameF p a b = false := by rw [HST2.out]; simp [e0]
          have HRES := Lib.hid hres
          clear hres e0
          go_wp2
          go_quiet (fail)
          go_wp2
          go_ret
          exact ⟨ret_bool HRES.out.symm, HFIN.out _⟩
      · obtain rfl : k = n := by omega
        have hres : sameF p a b = true := by
          rw [← HF.out, List.drop_eq_nil_of_le (by rw [HN.out]; omega), List.drop_eq_nil_of_le (by rw [HBN.out]; omega)]
          rfl
        have HRES := Lib.hid hres
        have hend : Below w.heap.size w wr := by rw [HW.out]; exact below_dr (Below.refl _ _) _
        clear hres hwr hlt hk
        go_wp2
        go_ret
        exact ⟨ret_bool HRES.out.symm, hend⟩
  · have hb : Below w.heap.size w w := Below.refl _ _
    have hs := sameF_len p a b hl
    have HS := Lib.hid hs
    have hne : ((a.length : Int) == (b.length : Int)) = false := by rw [beq_eq_false_iff_ne]; omega
    have hne' : ((a.length : Int) != (b.length : Int)) = true := by rw [bne, hne]; rfl
    have hli : ¬ ((a.length : Int) = (b.length : Int)) := by omega
    clear hs hA hB
    go_enter Tryd.func13, Tryd.ntmps13
    go_wp2
    go_ret
    exact ⟨ret_bool HS.out.symm, hb⟩
end Go.Proofs.YthogialdoikanaaDoor
