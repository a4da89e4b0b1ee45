/- walks: sign, quoted, IsWord. -/
import Derived.Test.YthogialdoikanaaDoorW1
import Derived.Test.YthogialdoikanaaDoorB
import Derived.Test.YthogialdoikanaaDoorShelf
import Derived.WalkSpells
namespace Go.Proofs.YthogialdoikanaaDoor
open Go.RowKit

set_option maxHeartbeats 400000 in
theorem quoted_any (s : ByteArray) (w : World) (hs : s.size ≤ 9223372036854775000) : Calls Tryd.prog 23 #[.string s] w fun e w' => e = .returned (.int .i64 (quotS true s.data.toList)) ∧ Below w.heap.size w w' := by
  go_enter Tryd.func23, Tryd.ntmps23
  go_wp2
  go_loopw [3] (fun t w' => ∃ (pos : Nat) (tb : Bool), t = .bool tb ∧ w' = w.iter s pos ∧ pos ≤ s.size ∧ quotS true s.data.toList = pos + quotS tb (s.data.toList.drop pos)) (fun _ w' => s.size - w'.iterPos w.heap.size)
  case atStart => exact ⟨0, true, rfl, rfl, by omega, by simp⟩
  case round =>
    obtain ⟨pos, tb, rfl, rfl, hpos, hq⟩ := hrel
    have HQ := Lib.hid hq
    clear hq
    by_cases hp : pos < s.size
    · have hnx : ∀ ty, (Instr.next (.pointer (some ⟨w.heap.size, 0, none⟩)) true ty).run Tryd.prog (w.iter s pos) = _ := fun ty => run_next_any w s pos ty hp
      obtain ⟨h34, h92, hno, hle, hone⟩ := quot_char s pos hp
      have H34 := Lib.hid h34
      have H92 := Lib.hid h92
      have HNO := Lib.hid hno
      clear h34 h92 hno
      cases tb
      · go_wp2
        · go_ret
          refine ⟨ret_int ?_, (Below.refl _ _).alloc (Nat.le_refl _) _⟩
          rw [HQ.out, (H34.out ‹_›).2.1]; omega
        · go_roundw
          case rel =>
            obtain ⟨e1, e2⟩ := H92.out ‹_›
            exact ⟨_, true, rfl, rfl, hle, by rw [HQ.out, e2, e1]; simp; omega⟩
          case measure => simp; omega
        · go_roundw
          case rel => exact ⟨_, false, rfl, rfl, hle, by rw [HQ.out, HNO.out ‹_› ‹_›]; omega⟩
          case measure => simp; omega
      · go_wp2
        · go_roundw
          case rel =>
            obtain ⟨e1, e2, e3⟩ := H34.out ‹_›
            exact ⟨_, false, rfl, rfl, hle, by rw [HQ.out, e3, e1]; omega⟩
          case measure => simp; omega
        · go_roundw
          case rel =>
            obtain ⟨e1, e2⟩ := H92.out ‹_›
            exact ⟨_, false, rfl, rfl, hle, by rw [HQ.out, e2, e1]; simp; omega⟩
          case measure => simp; omega
        · go_roundw
          case rel => exact ⟨_, false, rfl, rfl, hle, by rw [HQ.out, HNO.out ‹_› ‹_›]; omega⟩
          case measure => simp; omega
    · have hnx : ∀ ty, (Instr.next (.pointer (some ⟨w.heap.size, 0, none⟩)) true ty).run Tryd.prog (w.iter s pos) = _ := fun ty => run_next_end w s pos ty hp
      go_wp2
      go_ret
      refine ⟨ret_int ?_, (Below.refl _ _).alloc (Nat.le_refl _) _⟩
      rw [HQ.out, List.drop_eq_nil_of_le (by rw [← Lib.size_eq]; omega), quotS]
      omega

theorem wrap32_byte (b : UInt8) : wrap32 (b.toNat : Int) = b.toNat := by
  have := b.toNat_lt
  unfold wrap32; omega

set_option maxHeartbeats 400000 in
theorem isWord_any (s : ByteArray) (w : World) : Calls Tryd.prog 46 #[.string s] w fun e w' => e = .returned (.bool (isWordS s.data.toList)) ∧ Below w.heap.size w w' := by
  by_cases h0 : s.size = 0
  · have hl : s.data.toList = [] := List.eq_nil_of_length_eq_zero (by rw [← Lib.size_eq]; exact h0)
    have hem : s.toList.isEmpty = true := by rw [Lib.toList_data, hl]; rfl
    have HL := Lib.hid hl
    clear h0 hl
    go_enter Tryd.func46, Tryd.ntmps46
    go_wp2
    go_ret
    exact ⟨ret_bool (by rw [HL.out]; rfl), Below.refl _ _⟩
  · have hp : 0 < s.size := by omega
    have hd := drop_at s 0 hp
    rw [List.drop_zero] at hd
    have hem : s.toList.isEmpty = false := by rw [Lib.toList_data, hd]; rfl
    have HD := Lib.hid hd
    have HS := Lib.hid (Lib.size_eq s)
    clear hd h0
    go_enter Tryd.func46, Tryd.ntmps46
    go_wp2_with (first | (go_at_call 18; refine (digit_any _ _).mono ?_; rintro e w' ⟨rfl, rfl⟩) | (go_at_call 20; refine (run_aln2 _ _).mono ?_; rintro e w' ⟨rfl, hb⟩))
    · have hf := ‹isDig (wrap32 ↑s[0].toNat) = false›
      go_ret
      refine ⟨ret_bool ?_, by first | assumption | exact Below.refl _ _⟩
      rw [wrap32_byte] at hf
      have : isWordS s.data.toList = (!isDig (s[0].toNat : Int) && decide (runS isAln s.data.toList = s.data.toList.length)) := by
        generalize hr : runS isAln s.data.toList = r
        generalize hn : s.data.toList.length = n
        rw [HD.out] at hr hn ⊢
        simp only [isWordS]
        rw [hr, hn]
      rw [this, hf, ← HS.out]
      rw [Bool.eq_iff_iff]; simp; omega
    · have hf := ‹isDig (wrap32 ↑s[0].toNat) = true›
      go_ret
      refine ⟨ret_bool ?_, by first | assumption | exact Below.refl _ _⟩
      rw [wrap32_byte] at hf
      rw [HD.out]
      simp [isWordS, hf]

theorem sign_ix0 (w : World) : (Instr.index 59 (.agg #[.string ⟨#[33, 61]⟩, .string ⟨#[60, 61]⟩, .string ⟨#[62, 61]⟩, .string ⟨#[123]⟩, .string ⟨#[125]⟩, .string ⟨#[91]⟩, .string ⟨#[93]⟩, .string ⟨#[40]⟩, .string ⟨#[41]⟩, .string ⟨#[44]⟩, .string ⟨#[58]⟩, .string ⟨#[46]⟩, .string ⟨#[61]⟩, .string ⟨#[60]⟩, .string ⟨#[62]⟩]) (.int .i64 0)).run Tryd.prog w = .ok (.string ⟨#[33, 61]⟩) w := by kernel_rfl
theorem sign_ix1 (w : World) : (Instr.index 59 (.agg #[.string ⟨#[33, 61]⟩, .string ⟨#[60, 61]⟩, .string ⟨#[62, 61]⟩, .string ⟨#[123]⟩, .string ⟨#[125]⟩, .string ⟨#[91]⟩, .string ⟨#[93]⟩, .string ⟨#[40]⟩, .string ⟨#[41]⟩, .string ⟨#[44]⟩, .string ⟨#[58]⟩, .string ⟨#[46]⟩, .string ⟨#[61]⟩, .string ⟨#[60]⟩, .string ⟨#[62]⟩]) (.int .i64 1)).run Tryd.prog w = .ok (.string ⟨#[60, 61]⟩) w := by kernel_rfl
theorem sign_ix2 (w : World) : (Instr.index 59 (.agg #[.string ⟨#[33, 61]⟩, .string ⟨#[60, 61]⟩, .string ⟨#[62, 61]⟩, .string ⟨#[123]⟩, .string ⟨#[125]⟩, .string ⟨#[91]⟩, .string ⟨#[93]⟩, .string ⟨#[40]⟩, .string ⟨#[41]⟩, .string ⟨#[44]⟩, .string ⟨#[58]⟩, .string ⟨#[46]⟩, .string ⟨#[61]⟩, .string ⟨#[60]⟩, .string ⟨#[62]⟩]) (.int .i64 2)).run Tryd.prog w = .ok (.string ⟨#[62, 61]⟩) w := by kernel_rfl
theorem sign_ix3 (w : World) : (Instr.index 59 (.agg #[.string ⟨#[33, 61]⟩, .string ⟨#[60, 61]⟩, .string ⟨#[62, 61]⟩, .string ⟨#[123]⟩, .string ⟨#[125]⟩, .string ⟨#[91]⟩, .string ⟨#[93]⟩, .string ⟨#[40]⟩, .string ⟨#[41]⟩, .string ⟨#[44]⟩, .string ⟨#[58]⟩, .string ⟨#[46]⟩, .string ⟨#[61]⟩, .string ⟨#[60]⟩, .string ⟨#[62]⟩]) (.int .i64 3)).run Tryd.prog w = .ok (.string ⟨#[123]⟩) w := by kernel_rfl
theorem sign_ix4 (w : World) : (Instr.index 59 (.agg #[.string ⟨#[33, 61]⟩, .string ⟨#[60, 61]⟩, .string ⟨#[62, 61]⟩, .string ⟨#[123]⟩, .string ⟨#[125]⟩, .string ⟨#[91]⟩, .string ⟨#[93]⟩, .string ⟨#[40]⟩, .string ⟨#[41]⟩, .string ⟨#[44]⟩, .string ⟨#[58]⟩, .string ⟨#[46]⟩, .string ⟨#[61]⟩, .string ⟨#[60]⟩, .string ⟨#[62]⟩]) (.int .i64 4)).run Tryd.prog w = .ok (.string ⟨#[125]⟩) w := by kernel_rfl
theorem sign_ix5 (w : World) : (Instr.index 59 (.agg #[.string ⟨#[33, 61]⟩, .string ⟨#[60, 61]⟩, .string ⟨#[62, 61]⟩, .string ⟨#[123]⟩, .string ⟨#[125]⟩, .string ⟨#[91]⟩, .string ⟨#[93]⟩, .string ⟨#[40]⟩, .string ⟨#[41]⟩, .string ⟨#[44]⟩, .string ⟨#[58]⟩, .string ⟨#[46]⟩, .string ⟨#[61]⟩, .string ⟨#[60]⟩, .string ⟨#[62]⟩]) (.int .i64 5)).run Tryd.prog w = .ok (.string ⟨#[91]⟩) w := by kernel_rfl
theorem sign_ix6 (w : World) : (Instr.index 59 (.agg #[.string ⟨#[33, 61]⟩, .string ⟨#[60, 61]⟩, .string ⟨#[62, 61]⟩, .string ⟨#[123]⟩, .string ⟨#[125]⟩, .string ⟨#[91]⟩, .string ⟨#[93]⟩, .string ⟨#[40]⟩, .string ⟨#[41]⟩, .string ⟨#[44]⟩, .string ⟨#[58]⟩, .string ⟨#[46]⟩, .string ⟨#[61]⟩, .string ⟨#[60]⟩, .string ⟨#[62]⟩]) (.int .i64 6)).run Tryd.prog w = .ok (.string ⟨#[93]⟩) w := by kernel_rfl
theorem sign_ix7 (w : World) : (Instr.index 59 (.agg #[.string ⟨#[33, 61]⟩, .string ⟨#[60, 61]⟩, .string ⟨#[62, 61]⟩, .string ⟨#[123]⟩, .string ⟨#[125]⟩, .string ⟨#[91]⟩, .string ⟨#[93]⟩, .string ⟨#[40]⟩, .string ⟨#[41]⟩, .string ⟨#[44]⟩, .string ⟨#[58]⟩, .string ⟨#[46]⟩, .string ⟨#[61]⟩, .string ⟨#[60]⟩, .string ⟨#[62]⟩]) (.int .i64 7)).run Tryd.prog w = .ok (.string ⟨#[40]⟩) w := by kernel_rfl
theorem sign_ix8 (w : World) : (Instr.index 59 (.agg #[.string ⟨#[33, 61]⟩, .string ⟨#[60, 61]⟩, .string ⟨#[62, 61]⟩, .string ⟨#[123]⟩, .string ⟨#[125]⟩, .string ⟨#[91]⟩, .string ⟨#[93]⟩, .string ⟨#[40]⟩, .string ⟨#[41]⟩, .string ⟨#[44]⟩, .string ⟨#[58]⟩, .string ⟨#[46]⟩, .string ⟨#[61]⟩, .string ⟨#[60]⟩, .string ⟨#[62]⟩]) (.int .i64 8)).run Tryd.prog w = .ok (.string ⟨#[41]⟩) w := by kernel_rfl
theorem sign_ix9 (w : World) : (Instr.index 59 (.agg #[.string ⟨#[33, 61]⟩, .string ⟨#[60, 61]⟩, .string ⟨#[62, 61]⟩, .string ⟨#[123]⟩, .string ⟨#[125]⟩, .string ⟨#[91]⟩, .string ⟨#[93]⟩, .string ⟨#[40]⟩, .string ⟨#[41]⟩, .string ⟨#[44]⟩, .string ⟨#[58]⟩, .string ⟨#[46]⟩, .string ⟨#[61]⟩, .string ⟨#[60]⟩, .string ⟨#[62]⟩]) (.int .i64 9)).run Tryd.prog w = .ok (.string ⟨#[44]⟩) w := by kernel_rfl
theorem sign_ix10 (w : World) : (Instr.index 59 (.agg #[.string ⟨#[33, 61]⟩, .string ⟨#[60, 61]⟩, .string ⟨#[62, 61]⟩, .string ⟨#[123]⟩, .string ⟨#[125]⟩, .string ⟨#[91]⟩, .string ⟨#[93]⟩, .string ⟨#[40]⟩, .string ⟨#[41]⟩, .string ⟨#[44]⟩, .string ⟨#[58]⟩, .string ⟨#[46]⟩, .string ⟨#[61]⟩, .string ⟨#[60]⟩, .string ⟨#[62]⟩]) (.int .i64 10)).run Tryd.prog w = .ok (.string ⟨#[58]⟩) w := by kernel_rfl
theorem sign_ix11 (w : World) : (Instr.index 59 (.agg #[.string ⟨#[33, 61]⟩, .string ⟨#[60, 61]⟩, .string ⟨#[62, 61]⟩, .string ⟨#[123]⟩, .string ⟨#[125]⟩, .string ⟨#[91]⟩, .string ⟨#[93]⟩, .string ⟨#[40]⟩, .string ⟨#[41]⟩, .string ⟨#[44]⟩, .string ⟨#[58]⟩, .string ⟨#[46]⟩, .string ⟨#[61]⟩, .string ⟨#[60]⟩, .string ⟨#[62]⟩]) (.int .i64 11)).run Tryd.prog w = .ok (.string ⟨#[46]⟩) w := by kernel_rfl
theorem sign_ix12 (w : World) : (Instr.index 59 (.agg #[.string ⟨#[33, 61]⟩, .string ⟨#[60, 61]⟩, .string ⟨#[62, 61]⟩, .string ⟨#[123]⟩, .string ⟨#[125]⟩, .string ⟨#[91]⟩, .string ⟨#[93]⟩, .string ⟨#[40]⟩, .string ⟨#[41]⟩, .string ⟨#[44]⟩, .string ⟨#[58]⟩, .string ⟨#[46]⟩, .string ⟨#[61]⟩, .string ⟨#[60]⟩, .string ⟨#[62]⟩]) (.int .i64 12)).run Tryd.prog w = .ok (.string ⟨#[61]⟩) w := by kernel_rfl
theorem sign_ix13 (w : World) : (Instr.index 59 (.agg #[.string ⟨#[33, 61]⟩, .string ⟨#[60, 61]⟩, .string ⟨#[62, 61]⟩, .string ⟨#[123]⟩, .string ⟨#[125]⟩, .string ⟨#[91]⟩, .string ⟨#[93]⟩, .string ⟨#[40]⟩, .string ⟨#[41]⟩, .string ⟨#[44]⟩, .string ⟨#[58]⟩, .string ⟨#[46]⟩, .string ⟨#[61]⟩, .string ⟨#[60]⟩, .string ⟨#[62]⟩]) (.int .i64 13)).run Tryd.prog w = .ok (.string ⟨#[60]⟩) w := by kernel_rfl
theorem sign_ix14 (w : World) : (Instr.index 59 (.agg #[.string ⟨#[33, 61]⟩, .string ⟨#[60, 61]⟩, .string ⟨#[62, 61]⟩, .string ⟨#[123]⟩, .string ⟨#[125]⟩, .string ⟨#[91]⟩, .string ⟨#[93]⟩, .string ⟨#[40]⟩, .string ⟨#[41]⟩, .string ⟨#[44]⟩, .string ⟨#[58]⟩, .string ⟨#[46]⟩, .string ⟨#[61]⟩, .string ⟨#[60]⟩, .string ⟨#[62]⟩]) (.int .i64 14)).run Tryd.prog w = .ok (.string ⟨#[62]⟩) w := by kernel_rfl
theorem sign_found {L : List UInt8} {k : Nat} {x : List UInt8} {r : List (List UInt8)} (hf : signs.find? (fun x => x.isPrefixOf L) = (signs.drop k).find? (fun x => x.isPrefixOf L)) (hd : signs.drop k = x :: r) (hp : Lib.hasPrefix L x = true) : signS L = x := by
  unfold signS
  rw [hf, hd, List.find?_cons_of_pos (by exact hp)]
  rfl
theorem sign_next {L : List UInt8} {k : Nat} {x : List UInt8} {r : List (List UInt8)} (hf : signs.find? (fun x => x.isPrefixOf L) = (signs.drop k).find? (fun x => x.isPrefixOf L)) (hd : signs.drop k = x :: r) (hp : Lib.hasPrefix L x = false) :
    signs.find? (fun x => x.isPrefixOf L) = (signs.drop (k + 1)).find? (fun x => x.isPrefixOf L) := by
  have : signs.drop (k + 1) = r := by rw [← List.drop_drop, hd]; rfl
  rw [hf, hd, this, List.find?_cons_of_neg (by show ¬ Lib.hasPrefix L x = true; rw [hp]; exact Bool.false_ne_true)]
theorem ret_str {a b : List UInt8} (h : a = b) : Ending.returned (.string ⟨a.toArray⟩) = .returned (.string ⟨b.toArray⟩) := by rw [h]

set_option maxHeartbeats 1000000 in
set_option maxRecDepth 100000 in
theorem sign_any (s : ByteArray) (w : World) : Calls Tryd.prog 19 #[.string s] w fun e w' => e = .returned (.string ⟨(signS s.data.toList).toArray⟩) ∧ w = w' := by
  go_enter Tryd.func19, Tryd.ntmps19
  go_wp2
  go_loop [6] (fun i => ∃ k : Nat, k ≤ 15 ∧ i = .int .i64 k ∧ signs.find? (fun x => x.isPrefixOf s.data.toList) = (signs.drop k).find? (fun x => x.isPrefixOf s.data.toList)) (fun i => 15 - (intOf i).toNat)
  case atStart => exact ⟨0, by omega, rfl, rfl⟩
  case round =>
    obtain ⟨k, hk, rfl, hf⟩ := hrel
    have HF := Lib.hid hf
    clear hf
    by_cases hlt : k < 15
    · have h15 : k = 0 ∨ k = 1 ∨ k = 2 ∨ k = 3 ∨ k = 4 ∨ k = 5 ∨ k = 6 ∨ k = 7 ∨ k = 8 ∨ k = 9 ∨ k = 10 ∨ k = 11 ∨ k = 12 ∨ k = 13 ∨ k = 14 := by omega
      clear hk hlt
      rcases h15 with rfl | rfl | rfl | rfl | rfl | rfl | rfl | rfl | rfl | rfl | rfl | rfl | rfl | rfl | rfl
      · have hix := sign_ix0
        go_wp2_with (go_at_call 38; refine (Tryd.strings_HasPrefix _ _ _).mono ?_; rintro e w' ⟨rfl, rfl⟩)
        · go_ret
          exact ⟨(ret_str (sign_found HF.out rfl ‹_›)).symm, rfl⟩
        · go_round
          case rel => exact ⟨1, by omega, rfl, sign_next HF.out rfl ‹_›⟩
          case measure => simp [intOf]
      · have hix := sign_ix1
        go_wp2_with (go_at_call 38; refine (Tryd.strings_HasPrefix _ _ _).mono ?_; rintro e w' ⟨rfl, rfl⟩)
        · go_ret
          exact ⟨(ret_str (sign_found HF.out rfl ‹_›)).symm, rfl⟩
        · go_round
          case rel => exact ⟨2, by omega, rfl, sign_next HF.out rfl ‹_›⟩
          case measure => simp [intOf]
      · have hix := sign_ix2
        go_wp2_with (go_at_call 38; refine (Tryd.strings_HasPrefix _ _ _).mono ?_; rintro e w' ⟨rfl, rfl⟩)
        · go_ret
          exact ⟨(ret_str (sign_found HF.out rfl ‹_›)).symm, rfl⟩
        · go_round
          case rel => exact ⟨3, by omega, rfl, sign_next HF.out rfl ‹_›⟩
          case measure => simp [intOf]
      · have hix := sign_ix3
        go_wp2_with (go_at_call 38; refine (Tryd.strings_HasPrefix _ _ _).mono ?_; rintro e w' ⟨rfl, rfl⟩)
        · go_ret
          exact ⟨(ret_str (sign_found HF.out rfl ‹_›)).symm, rfl⟩
        · go_round
          case rel => exact ⟨4, by omega, rfl, sign_next HF.out rfl ‹_›⟩
          case measure => simp [intOf]
      · have hix := sign_ix4
        go_wp2_with (go_at_call 38; refine (Tryd.strings_HasPrefix _ _ _).mono ?_; rintro e w' ⟨rfl, rfl⟩)
        · go_ret
          exact ⟨(ret_str (sign_found HF.out rfl ‹_›)).symm, rfl⟩
        · go_round
          case rel => exact ⟨5, by omega, rfl, sign_next HF.out rfl ‹_›⟩
          case measure => simp [intOf]
      · have hix := sign_ix5
        go_wp2_with (go_at_call 38; refine (Tryd.strings_HasPrefix _ _ _).mono ?_; rintro e w' ⟨rfl, rfl⟩)
        · go_ret
          exact ⟨(ret_str (sign_found HF.out rfl ‹_›)).symm, rfl⟩
        · go_round
          case rel => exact ⟨6, by omega, rfl, sign_next HF.out rfl ‹_›⟩
          case measure => simp [intOf]
      · have hix := sign_ix6
        go_wp2_with (go_at_call 38; refine (Tryd.strings_HasPrefix _ _ _).mono ?_; rintro e w' ⟨rfl, rfl⟩)
        · go_ret
          exact ⟨(ret_str (sign_found HF.out rfl ‹_›)).symm, rfl⟩
        · go_round
          case rel => exact ⟨7, by omega, rfl, sign_next HF.out rfl ‹_›⟩
          case measure => simp [intOf]
      · have hix := sign_ix7
        go_wp2_with (go_at_call 38; refine (Tryd.strings_HasPrefix _ _ _).mono ?_; rintro e w' ⟨rfl, rfl⟩)
        · go_ret
          exact ⟨(ret_str (sign_found HF.out rfl ‹_›)).symm, rfl⟩
        · go_round
          case rel => exact ⟨8, by omega, rfl, sign_next HF.out rfl ‹_›⟩
          case measure => simp [intOf]
      · have hix := sign_ix8
        go_wp2_with (go_at_call 38; refine (Tryd.strings_HasPrefix _ _ _).mono ?_; rintro e w' ⟨rfl, rfl⟩)
        · go_ret
          exact ⟨(ret_str (sign_found HF.out rfl ‹_›)).symm, rfl⟩
        · go_round
          case rel => exact ⟨9, by omega, rfl, sign_next HF.out rfl ‹_›⟩
          case measure => simp [intOf]
      · have hix := sign_ix9
        go_wp2_with (go_at_call 38; refine (Tryd.strings_HasPrefix _ _ _).mono ?_; rintro e w' ⟨rfl, rfl⟩)
        · go_ret
          exact ⟨(ret_str (sign_found HF.out rfl ‹_›)).symm, rfl⟩
        · go_round
          case rel => exact ⟨10, by omega, rfl, sign_next HF.out rfl ‹_›⟩
          case measure => simp [intOf]
      · have hix := sign_ix10
        go_wp2_with (go_at_call 38; refine (Tryd.strings_HasPrefix _ _ _).mono ?_; rintro e w' ⟨rfl, rfl⟩)
        · go_ret
          exact ⟨(ret_str (sign_found HF.out rfl ‹_›)).symm, rfl⟩
        · go_round
          case rel => exact ⟨11, by omega, rfl, sign_next HF.out rfl ‹_›⟩
          case measure => simp [intOf]
      · have hix := sign_ix11
        go_wp2_with (go_at_call 38; refine (Tryd.strings_HasPrefix _ _ _).mono ?_; rintro e w' ⟨rfl, rfl⟩)
        · go_ret
          exact ⟨(ret_str (sign_found HF.out rfl ‹_›)).symm, rfl⟩
        · go_round
          case rel => exact ⟨12, by omega, rfl, sign_next HF.out rfl ‹_›⟩
          case measure => simp [intOf]
      · have hix := sign_ix12
        go_wp2_with (go_at_call 38; refine (Tryd.strings_HasPrefix _ _ _).mono ?_; rintro e w' ⟨rfl, rfl⟩)
        · go_ret
          exact ⟨(ret_str (sign_found HF.out rfl ‹_›)).symm, rfl⟩
        · go_round
          case rel => exact ⟨13, by omega, rfl, sign_next HF.out rfl ‹_›⟩
          case measure => simp [intOf]
      · have hix := sign_ix13
        go_wp2_with (go_at_call 38; refine (Tryd.strings_HasPrefix _ _ _).mono ?_; rintro e w' ⟨rfl, rfl⟩)
        · go_ret
          exact ⟨(ret_str (sign_found HF.out rfl ‹_›)).symm, rfl⟩
        · go_round
          case rel => exact ⟨14, by omega, rfl, sign_next HF.out rfl ‹_›⟩
          case measure => simp [intOf]
      · have hix := sign_ix14
        go_wp2_with (go_at_call 38; refine (Tryd.strings_HasPrefix _ _ _).mono ?_; rintro e w' ⟨rfl, rfl⟩)
        · go_ret
          exact ⟨(ret_str (sign_found HF.out rfl ‹_›)).symm, rfl⟩
        · go_round
          case rel => exact ⟨15, by omega, rfl, sign_next HF.out rfl ‹_›⟩
          case measure => simp [intOf]
    · obtain rfl : k = 15 := by omega
      clear hk hlt
      go_wp2
      go_ret
      exact ⟨ret_str (by unfold signS; rw [HF.out]; rfl), rfl⟩
end Go.Proofs.YthogialdoikanaaDoor
