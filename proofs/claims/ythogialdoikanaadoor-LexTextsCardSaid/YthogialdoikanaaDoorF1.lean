/- walks: the answer's own IsWord. -/
import Derived.Test.YthogialdoikanaaDoorW2
namespace Go.Proofs.YthogialdoikanaaDoor
open Go.RowKit

theorem not_dig_of_let {c : Int} (h : isLet c = true) : isDig c = false := by
  unfold isLet at h
  unfold isDig
  rw [decide_eq_true_eq] at h
  rw [decide_eq_false_iff_not]
  omega
theorem aln_let {c : Int} (h : isLet c = true) : isAln c = true := by unfold isAln; rw [h]; rfl
theorem aln_dig {c : Int} (h : isDig c = true) : isAln c = true := by unfold isAln; rw [h, Bool.or_true]
theorem aln_not {c : Int} (h1 : isLet c = false) (h2 : isDig c = false) : isAln c = false := by unfold isAln; rw [h1, h2]; rfl
/-- one byte more -/
theorem runS_at {p : Int → Bool} (s : ByteArray) (k : Nat) (h : k < s.size) (hk : k ≤ runS p s.data.toList) : (p (s[k].toNat : Int) = true → k + 1 ≤ runS p s.data.toList) ∧ (p (s[k].toNat : Int) = false → runS p s.data.toList = k) := by
  have e := runS_split p s.data.toList k hk
  rw [drop_at s k h, runS] at e
  refine ⟨fun ht => ?_, fun hf => ?_⟩
  · rw [if_pos ht] at e; omega
  · rw [if_neg (by rw [hf]; decide)] at e; omega

set_option maxHeartbeats 1000000 in
set_option maxRecDepth 100000 in
theorem risWord_any (s : ByteArray) (w : World) (hs : s.size ≤ 9223372036854775000) : Calls Tryd.prog 32 #[.string s] w fun e w' => e = .returned (.bool (isWordS s.data.toList)) ∧ w = w' := by
  by_cases h0 : s.size = 0
  · have hl : s.data.toList = [] := List.eq_nil_of_length_eq_zero (by rw [← Lib.size_eq]; exact h0)
    have hem : s.toList.isEmpty = true := by rw [Lib.toList_data, hl]; rfl
    have HL := Lib.hid hl
    clear h0 hl
    go_enter Tryd.func32, Tryd.ntmps32
    go_wp2
    go_ret
    exact ⟨ret_bool (by rw [HL.out]; rfl), rfl⟩
  · have hp : 0 < s.size := by omega
    have hd := drop_at s 0 hp
    rw [List.drop_zero] at hd
    have hem : s.toList.isEmpty = false := by rw [Lib.toList_data, hd]; rfl
    have hw : isWordS s.data.toList = (!isDig (s[0].toNat : Int) && decide (runS isAln s.data.toList = s.size)) := by
      rw [Lib.size_eq]
      generalize hr : runS isAln s.data.toList = r
      generalize hn : s.data.toList.length = n
      rw [hd] at hr hn ⊢
      simp only [isWordS]
      rw [hr, hn]
    have hz : runS isAln s.data.toList ≤ s.size := by rw [Lib.size_eq]; exact runS_le _ _
    by_cases hlet : isLet (s[0].toNat : Int) = true
    · have h1 := (runS_at (p := isAln) s 0 hp (by omega)).1 (aln_let hlet)
      have HW := Lib.hid hw
      have HND := Lib.hid (not_dig_of_let hlet)
      clear hd h0 hw
      go_enter Tryd.func32, Tryd.ntmps32
      go_wp2_with (go_at_call 25; refine (rletter_any _ _).mono ?_; rintro e w1 ⟨rfl, rfl⟩)
      go_loop [3] (fun i => ∃ k : Nat, i = .int .i64 k ∧ 1 ≤ k ∧ k ≤ runS isAln s.data.toList) (fun i => s.size - (intOf i).toNat)
      case atStart => exact ⟨1, rfl, by omega, by omega⟩
      case round =>
        obtain ⟨k, rfl, hk1, hk⟩ := hrel
        by_cases hlt : k < s.size
        · obtain ⟨ht, hf⟩ := runS_at (p := isAln) s k hlt hk
          have HTT := Lib.hid ht
          have HFF := Lib.hid hf
          have HZ := Lib.hid hz
          clear ht hf hz
          cases hl2 : isLet (s[k].toNat : Int) with
          | true =>
            have := HTT.out (aln_let hl2)
            have h3 := HZ.out
            go_wp2_with (go_at_call 25; refine (rletter_any _ _).mono ?_; rintro e w1 ⟨rfl, rfl⟩)
            go_round
            case rel => exact ⟨k + 1, by go_num, by omega, by omega⟩
            case measure => simp [intOf]; omega
          | false =>
            cases hd2 : isDig (s[k].toNat : Int) with
            | true =>
              have := HTT.out (aln_dig hd2)
              have h3 := HZ.out
              go_wp2_with (first | (go_at_call 25; refine (rletter_any _ _).mono ?_; rintro e w1 ⟨rfl, rfl⟩) | (go_at_call 26; refine (rdigit_any _ _).mono ?_; rintro e w1 ⟨rfl, rfl⟩))
              go_round
              case rel => exact ⟨k + 1, by go_num, by omega, by omega⟩
              case measure => simp [intOf]; omega
            | false =>
              have hres : isWordS s.data.toList = false := by
                rw [HW.out, HFF.out (aln_not hl2 hd2), decide_eq_false (by omega), Bool.and_false]
              have HRES := Lib.hid hres
              clear hres
              go_wp2_with (first | (go_at_call 25; refine (rletter_any _ _).mono ?_; rintro e w1 ⟨rfl, rfl⟩) | (go_at_call 26; refine (rdigit_any _ _).mono ?_; rintro e w1 ⟨rfl, rfl⟩))
              go_ret
              exact ⟨ret_bool HRES.out.symm, rfl⟩
        · have hres : isWordS s.data.toList = true := by
            rw [HW.out, HND.out, decide_eq_true (by omega)]; rfl
          have HRES := Lib.hid hres
          clear hres
          go_wp2
          go_ret
          exact ⟨ret_bool HRES.out.symm, rfl⟩
    · have hlet : isLet (s[0].toNat : Int) = false := by simpa using hlet
      have hres : isWordS s.data.toList = false := by
        rw [hw]
        cases hdg : isDig (s[0].toNat : Int) with
        | true => rfl
        | false =>
          have := (runS_at (p := isAln) s 0 hp (by omega)).2 (aln_not hlet hdg)
          rw [this, decide_eq_false (by omega)]; rfl
      have HRES := Lib.hid hres
      clear hres hw hz hd h0
      go_enter Tryd.func32, Tryd.ntmps32
      go_wp2_with (go_at_call 25; refine (rletter_any _ _).mono ?_; rintro e w1 ⟨rfl, rfl⟩)
      go_ret
      exact ⟨ret_bool HRES.out.symm, rfl⟩
end Go.Proofs.YthogialdoikanaaDoor
