/- walks of the small tests. -/
import Derived.Test.YthogialdoikanaaDoorProg
import Derived.Test.YthogialdoikanaaDoorA
import Derived.WalkKit
import Derived.BigGuardPart
import Derived.Below
import Derived.Laws.RangeAny
import Derived.Lib.Strings
import Derived.Lib.Hide
namespace Go.Proofs.YthogialdoikanaaDoor
open Go.RowKit

theorem ret_bool {a b : Bool} (h : a = b) : Ending.returned (.bool a) = .returned (.bool b) := by rw [h]
theorem ret_int {k : IntKind} {a b : Int} (h : a = b) : Ending.returned (.int k a) = .returned (.int k b) := by rw [h]

set_option maxHeartbeats 400000 in
theorem digit_any (c : Int) (w : World) : Calls Tryd.prog 18 #[.int .i32 c] w fun e w' => e = .returned (.bool (isDig c)) ∧ w = w' := by
  go_enter Tryd.func18, Tryd.ntmps18
  go_wp2
  all_goals go_ret
  all_goals exact ⟨ret_bool (by unfold isDig; rw [Bool.eq_iff_iff]; simp; omega), rfl⟩
set_option maxHeartbeats 400000 in
theorem letter_any (c : Int) (w : World) : Calls Tryd.prog 17 #[.int .i32 c] w fun e w' => e = .returned (.bool (isLet c)) ∧ w = w' := by
  go_enter Tryd.func17, Tryd.ntmps17
  go_wp2
  all_goals go_ret
  all_goals exact ⟨ret_bool (by unfold isLet; rw [Bool.eq_iff_iff]; simp; omega), rfl⟩
theorem rdigit_any (c : Int) (w : World) : Calls Tryd.prog 26 #[.int .u8 c] w fun e w' => e = .returned (.bool (isDig c)) ∧ w = w' := by
  go_enter Tryd.func26, Tryd.ntmps26
  go_wp2
  all_goals go_ret
  all_goals exact ⟨ret_bool (by unfold isDig; rw [Bool.eq_iff_iff]; simp; omega), rfl⟩
set_option maxHeartbeats 400000 in
theorem rletter_any (c : Int) (w : World) : Calls Tryd.prog 25 #[.int .u8 c] w fun e w' => e = .returned (.bool (isLet c)) ∧ w = w' := by
  go_enter Tryd.func25, Tryd.ntmps25
  go_wp2
  all_goals go_ret
  all_goals exact ⟨ret_bool (by unfold isLet; rw [Bool.eq_iff_iff]; simp; omega), rfl⟩
set_option maxHeartbeats 400000 in
theorem aln_any (c : Int) (w : World) : Calls Tryd.prog 21 #[.int .i32 c] w fun e w' => e = .returned (.bool (isAln c)) ∧ w = w' := by
  go_enter Tryd.func21, Tryd.ntmps21
  go_wp2_with (first | (go_at_call 17; refine (letter_any _ _).mono ?_; rintro e w' ⟨rfl, rfl⟩) | (go_at_call 18; refine (digit_any _ _).mono ?_; rintro e w' ⟨rfl, rfl⟩))
  all_goals go_ret
  all_goals exact ⟨ret_bool (by unfold isAln; simp [*]), rfl⟩
set_option maxHeartbeats 400000 in
theorem aln2_any (c : Int) (w : World) : Calls Tryd.prog 63 #[.int .i32 c] w fun e w' => e = .returned (.bool (isAln c)) ∧ w = w' := by
  go_enter Tryd.func63, Tryd.ntmps63
  go_wp2_with (first | (go_at_call 17; refine (letter_any _ _).mono ?_; rintro e w' ⟨rfl, rfl⟩) | (go_at_call 18; refine (digit_any _ _).mono ?_; rintro e w' ⟨rfl, rfl⟩))
  all_goals go_ret
  all_goals exact ⟨ret_bool (by unfold isAln; simp [*]), rfl⟩

theorem isDig_high (x : Int) (h : 128 ≤ x) : isDig x = false := by unfold isDig; rw [decide_eq_false_iff_not]; omega
theorem isAln_high (x : Int) (h : 128 ≤ x) : isAln x = false := by unfold isAln isLet isDig; rw [Bool.or_eq_false_iff, decide_eq_false_iff_not, decide_eq_false_iff_not]; omega

/-- one round of the loop over a text's characters, in plain terms: at a place up to which all are such -/
theorem run_here {p : Int → Bool} (hp : ∀ x, 128 ≤ x → p x = false) (s : ByteArray) (pos : Nat) (h : pos < s.size) (hrel : pos ≤ runS p s.data.toList) :
    (p ((Utf8.decode s pos).1 : Int) = true → (Utf8.decode s pos).2 = 1 ∧ pos + 1 ≤ runS p s.data.toList) ∧ (p ((Utf8.decode s pos).1 : Int) = false → runS p s.data.toList = pos) := by
  have hl : pos < s.data.toList.length := by rw [← Lib.size_eq]; exact h
  have e1 := runS_split p s.data.toList pos hrel
  have e2 : s.data.toList.drop pos = s[pos] :: s.data.toList.drop (pos + 1) := by rw [List.drop_eq_getElem_cons hl]; rfl
  by_cases ha : (s[pos]'h).toNat < 128
  · rw [decode_ascii s pos h ha]
    refine ⟨fun ht => ⟨rfl, ?_⟩, fun hf => ?_⟩
    · rw [e1, e2, runS, if_pos ht]; omega
    · rw [e1, e2, runS, if_neg (by simp only [hf]; exact Bool.false_ne_true)]; rfl
  · have hd := decode_high s pos h (by omega)
    refine ⟨fun ht => ?_, fun _ => ?_⟩
    · rw [hp _ (by omega)] at ht; cases ht
    · rw [e1, e2, runS, if_neg (by rw [hp _ (by omega)]; exact Bool.false_ne_true)]; rfl

set_option maxHeartbeats 400000 in
theorem run_dig (s : ByteArray) (w : World) : Calls Tryd.prog 20 #[.string s, .func (.func 18) #[] #[]] w fun e w' => e = .returned (.int .i64 (runS isDig s.data.toList)) ∧ Below w.heap.size w w' := by
  have hle := runS_le isDig s.data.toList
  have hsz := Lib.size_eq s
  have HS := Lib.hid hsz
  clear hsz
  go_enter Tryd.func20, Tryd.ntmps20
  go_wp2
  go_loopw [] (fun w' => ∃ pos : Nat, w' = w.iter s pos ∧ pos ≤ runS isDig s.data.toList) (fun w' => s.size - w'.iterPos w.heap.size)
  case atStart => exact ⟨0, rfl, by omega⟩
  case round =>
    obtain ⟨pos, rfl, hpos⟩ := hrel
    by_cases hp : pos < s.size
    · have hnx : ∀ ty, (Instr.next (.pointer (some ⟨w.heap.size, 0, none⟩)) true ty).run Tryd.prog (w.iter s pos) = _ := fun ty => run_next_any w s pos ty hp
      obtain ⟨h1, h2⟩ := run_here isDig_high s pos hp hpos
      go_wp2_with (go_at_call 18; refine (digit_any _ _).mono ?_; rintro e w' ⟨rfl, rfl⟩)
      · go_ret
        have hf : isDig ((Utf8.decode s pos).1 : Int) = false := by simpa using ‹(!isDig ↑(Utf8.decode s pos).fst) = true›
        exact ⟨ret_int (by rw [h2 hf]), (Below.refl _ _).alloc (Nat.le_refl _) _⟩
      · have ht : isDig ((Utf8.decode s pos).1 : Int) = true := by simpa using ‹(!isDig ↑(Utf8.decode s pos).fst) = false›
        obtain ⟨h3, h4⟩ := h1 ht
        go_roundw
        case rel => exact ⟨pos + (Utf8.decode s pos).2, rfl, by omega⟩
        case measure => simp; omega
    · have hnx : ∀ ty, (Instr.next (.pointer (some ⟨w.heap.size, 0, none⟩)) true ty).run Tryd.prog (w.iter s pos) = _ := fun ty => run_next_end w s pos ty hp
      go_wp2
      go_ret
      exact ⟨ret_int (by have := HS.out; omega), (Below.refl _ _).alloc (Nat.le_refl _) _⟩
set_option maxHeartbeats 400000 in
theorem run_aln (s : ByteArray) (w : World) : Calls Tryd.prog 20 #[.string s, .func (.func 21) #[] #[]] w fun e w' => e = .returned (.int .i64 (runS isAln s.data.toList)) ∧ Below w.heap.size w w' := by
  have hle := runS_le isAln s.data.toList
  have hsz := Lib.size_eq s
  have HS := Lib.hid hsz
  clear hsz
  go_enter Tryd.func20, Tryd.ntmps20
  go_wp2
  go_loopw [] (fun w' => ∃ pos : Nat, w' = w.iter s pos ∧ pos ≤ runS isAln s.data.toList) (fun w' => s.size - w'.iterPos w.heap.size)
  case atStart => exact ⟨0, rfl, by omega⟩
  case round =>
    obtain ⟨pos, rfl, hpos⟩ := hrel
    by_cases hp : pos < s.size
    · have hnx : ∀ ty, (Instr.next (.pointer (some ⟨w.heap.size, 0, none⟩)) true ty).run Tryd.prog (w.iter s pos) = _ := fun ty => run_next_any w s pos ty hp
      obtain ⟨h1, h2⟩ := run_here isAln_high s pos hp hpos
      go_wp2_with (go_at_call 21; refine (aln_any _ _).mono ?_; rintro e w' ⟨rfl, rfl⟩)
      · go_ret
        have hf : isAln ((Utf8.decode s pos).1 : Int) = false := by simpa using ‹(!isAln ↑(Utf8.decode s pos).fst) = true›
        exact ⟨ret_int (by rw [h2 hf]), (Below.refl _ _).alloc (Nat.le_refl _) _⟩
      · have ht : isAln ((Utf8.decode s pos).1 : Int) = true := by simpa using ‹(!isAln ↑(Utf8.decode s pos).fst) = false›
        obtain ⟨h3, h4⟩ := h1 ht
        go_roundw
        case rel => exact ⟨pos + (Utf8.decode s pos).2, rfl, by omega⟩
        case measure => simp; omega
    · have hnx : ∀ ty, (Instr.next (.pointer (some ⟨w.heap.size, 0, none⟩)) true ty).run Tryd.prog (w.iter s pos) = _ := fun ty => run_next_end w s pos ty hp
      go_wp2
      go_ret
      exact ⟨ret_int (by have := HS.out; omega), (Below.refl _ _).alloc (Nat.le_refl _) _⟩
set_option maxHeartbeats 400000 in
theorem run_aln2 (s : ByteArray) (w : World) : Calls Tryd.prog 20 #[.string s, .func (.func 63) #[] #[]] w fun e w' => e = .returned (.int .i64 (runS isAln s.data.toList)) ∧ Below w.heap.size w w' := by
  have hle := runS_le isAln s.data.toList
  have hsz := Lib.size_eq s
  have HS := Lib.hid hsz
  clear hsz
  go_enter Tryd.func20, Tryd.ntmps20
  go_wp2
  go_loopw [] (fun w' => ∃ pos : Nat, w' = w.iter s pos ∧ pos ≤ runS isAln s.data.toList) (fun w' => s.size - w'.iterPos w.heap.size)
  case atStart => exact ⟨0, rfl, by omega⟩
  case round =>
    obtain ⟨pos, rfl, hpos⟩ := hrel
    by_cases hp : pos < s.size
    · have hnx : ∀ ty, (Instr.next (.pointer (some ⟨w.heap.size, 0, none⟩)) true ty).run Tryd.prog (w.iter s pos) = _ := fun ty => run_next_any w s pos ty hp
      obtain ⟨h1, h2⟩ := run_here isAln_high s pos hp hpos
      go_wp2_with (go_at_call 63; refine (aln2_any _ _).mono ?_; rintro e w' ⟨rfl, rfl⟩)
      · go_ret
        have hf : isAln ((Utf8.decode s pos).1 : Int) = false := by simpa using ‹(!isAln ↑(Utf8.decode s pos).fst) = true›
        exact ⟨ret_int (by rw [h2 hf]), (Below.refl _ _).alloc (Nat.le_refl _) _⟩
      · have ht : isAln ((Utf8.decode s pos).1 : Int) = true := by simpa using ‹(!isAln ↑(Utf8.decode s pos).fst) = false›
        obtain ⟨h3, h4⟩ := h1 ht
        go_roundw
        case rel => exact ⟨pos + (Utf8.decode s pos).2, rfl, by omega⟩
        case measure => simp; omega
    · have hnx : ∀ ty, (Instr.next (.pointer (some ⟨w.heap.size, 0, none⟩)) true ty).run Tryd.prog (w.iter s pos) = _ := fun ty => run_next_end w s pos ty hp
      go_wp2
      go_ret
      exact ⟨ret_int (by have := HS.out; omega), (Below.refl _ _).alloc (Nat.le_refl _) _⟩
end Go.Proofs.YthogialdoikanaaDoor
