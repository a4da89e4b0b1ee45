/- walks: the answer's own Part behind a backslash. -/
import Derived.Test.YthogialdoikanaaDoorZ6
namespace Go.Proofs.YthogialdoikanaaDoor
open Go.RowKit

def tab8 : List UInt8 := [34, 92, 47, 98, 102, 110, 114, 116]
def val8 : List Nat := [34, 92, 47, 8, 12, 10, 13, 9]
theorem lit8 : ∀ (j : Nat) (h : j < 8), ((⟨#[34, 92, 47, 98, 102, 110, 114, 116]⟩ : ByteArray)[j]'h) = tab8.getD j 0 := by decide
theorem tab8_long : ∀ c : UInt8, longS c.toNat = none → ∀ j, j < 8 → tab8.getD j 0 ≠ c := by
  intro c h j hj he
  have key : ∀ j, j < 8 → longS (tab8.getD j 0).toNat ≠ none := by decide
  exact key j hj (by rw [he]; exact h)
theorem tab8_ex {c : UInt8} {d : Nat} (h : longS c.toNat = some d) : ∃ i, i < 8 ∧ tab8.getD i 0 = c := by
  unfold longS at h
  have mk : ∀ i, i < 8 → (tab8.getD i 0).toNat = c.toNat → ∃ i, i < 8 ∧ tab8.getD i 0 = c := fun i hi he => ⟨i, hi, UInt8.toNat_inj.1 he⟩
  split at h
  · rename_i h1
    rcases h1 with h1 | h1 | h1
    · exact mk 0 (by decide) (by rw [h1]; rfl)
    · exact mk 1 (by decide) (by rw [h1]; rfl)
    · exact mk 2 (by decide) (by rw [h1]; rfl)
  · split at h
    · exact mk 3 (by decide) (by rw [‹c.toNat = 98›]; rfl)
    · split at h
      · exact mk 4 (by decide) (by rw [‹c.toNat = 102›]; rfl)
      · split at h
        · exact mk 5 (by decide) (by rw [‹c.toNat = 110›]; rfl)
        · split at h
          · exact mk 6 (by decide) (by rw [‹c.toNat = 114›]; rfl)
          · split at h
            · exact mk 7 (by decide) (by rw [‹c.toNat = 116›]; rfl)
            · cases h
theorem tab8_val : ∀ j, j < 8 → longS (tab8.getD j 0).toNat = some (val8.getD j 0) := by decide
theorem val8_lt : ∀ j, j < 8 → val8.getD j 0 < 256 := by decide
theorem idx_at (s : ByteArray) (q : Nat) (i : Int) (hq : q < s.size) (hi : i = q) : ∀ w : World, (Instr.index 9 (.string s) (.int .i64 i)).run Tryd.prog w = .ok (.int .u8 ((s[q]'hq).toNat : Int)) w := by
  intro w
  subst hi
  simp [run_index_string, Tryd.underlying9, hq]
theorem run_arr8 (w : World) (j : Nat) (hj : j < 8) : (Instr.index 91 (.agg #[.int .u8 34, .int .u8 92, .int .u8 47, .int .u8 8, .int .u8 12, .int .u8 10, .int .u8 13, .int .u8 9]) (.int .i64 j)).run Tryd.prog w = .ok (.int .u8 (val8.getD j 0 : Nat)) w := by
  have h5 : Tryd.t5.size = 1 := rfl
  match j, hj with
  | 0, _ => simp [Instr.index, part, asIntOf, sizeOf, val8, h5, go_sem]
  | 1, _ => simp [Instr.index, part, asIntOf, sizeOf, val8, h5, go_sem]
  | 2, _ => simp [Instr.index, part, asIntOf, sizeOf, val8, h5, go_sem]
  | 3, _ => simp [Instr.index, part, asIntOf, sizeOf, val8, h5, go_sem]
  | 4, _ => simp [Instr.index, part, asIntOf, sizeOf, val8, h5, go_sem]
  | 5, _ => simp [Instr.index, part, asIntOf, sizeOf, val8, h5, go_sem]
  | 6, _ => simp [Instr.index, part, asIntOf, sizeOf, val8, h5, go_sem]
  | 7, _ => simp [Instr.index, part, asIntOf, sizeOf, val8, h5, go_sem]
theorem part_long_end {r : Int × List UInt8 × Nat} {k d : Nat} {w w' : World} {x : Int} {p : Int} {C : Array Value} (h : r = (0, [d.toUInt8], 2)) (hd : d < 256) (hp : p = ((k + 2 : Nat) : Int)) (hb : Below w.heap.size w w') (hx : x = d) (hC : C = #[.int .u8 x]) :
    PartPost r k w (.returned (.tuple #[.slice (some ⟨w'.heap.size, 0, none⟩) 1 1, .int .i64 p, .int .i64 0])) (w'.alloc (.cells C 5)) := by
  subst hx
  have hc : C = (Lib.byteCells [d.toUInt8]).toArray := by
    subst hC
    unfold Lib.byteCells
    simp only [List.map_cons, List.map_nil]
    rw [byte_toNat hd]
  subst hc
  exact part_yes h hp (hb.alloc hb.size _) (shows_fresh w' [d.toUInt8] 5)

set_option maxHeartbeats 2000000 in
set_option maxRecDepth 100000 in
theorem part_last (s : ByteArray) (k : Nat) (w : World) (hk : k < s.size) (hs : s.size ≤ 1000000000000000000) (h : (s[k]'hk).toNat = 92) (hl : s.size ≤ k + 1) : Calls Tryd.prog 45 #[.string s, .int .i64 k] w (PartPost (partR (s.data.toList.drop k)) k w) := by
  have hr : (partR (s.data.toList.drop k)).1 = 4 := by
    rw [drop_at s k hk, List.drop_eq_nil_of_le (by rw [← Lib.size_eq]; omega)]; simp only [partR]; rw [if_neg (by omega), if_pos h]
  have HR := Lib.hid hr
  have n34 : ((s[k].toNat : Int) == 34) = false := by rw [beq_eq_false_iff_ne]; omega
  have n92 : ((s[k].toNat : Int) == 92) = true := by rw [beq_iff_eq]; omega
  have m92 : ((s[k].toNat : Int) != 92) = false := by rw [bne, n92]; rfl
  clear hr
  go_enter Tryd.func45, Tryd.ntmps45
  go_wp2
  go_ret3
  exact part_err HR.out (by decide) (by decide) (Below.refl _ _)

theorem drop_two (s : ByteArray) (k : Nat) (hk : k < s.size) (hk1 : k + 1 < s.size) : s.data.toList.drop k = s[k] :: s[k + 1] :: s.data.toList.drop (k + 2) := by
  rw [drop_at s k hk, drop_at s (k + 1) hk1]

set_option maxHeartbeats 4000000 in
set_option maxRecDepth 100000 in
theorem part_wrong (s : ByteArray) (k : Nat) (w : World) (hk : k < s.size) (hs : s.size ≤ 1000000000000000000) (h : (s[k]'hk).toNat = 92) (hk1 : k + 1 < s.size) (hl : longS (s[k + 1]'hk1).toNat = none) (h7 : (s[k + 1]'hk1).toNat ≠ 117) :
    Calls Tryd.prog 45 #[.string s, .int .i64 k] w (PartPost (partR (s.data.toList.drop k)) k w) := by
  have hr : (partR (s.data.toList.drop k)).1 = 4 := by
    rw [drop_two s k hk hk1]; simp only [partR]; rw [if_neg (by omega), if_pos h, hl]
    simp only
    rw [if_neg h7]
  have HR := Lib.hid hr
  have n34 : ((s[k].toNat : Int) == 34) = false := by rw [beq_eq_false_iff_ne]; omega
  have n92 : ((s[k].toNat : Int) == 92) = true := by rw [beq_iff_eq]; omega
  have m92 : ((s[k].toNat : Int) != 92) = false := by rw [bne, n92]; rfl
  have n117 : ((s[k + 1].toNat : Int) == 117) = false := by rw [beq_eq_false_iff_ne]; omega
  have m117 : ((s[k + 1].toNat : Int) != 117) = true := by rw [bne, n117]; rfl
  have HT := Lib.hid (tab8_long _ hl)
  have ix := idx_at s (k + 1) ((k : Int) + 1) hk1 (by omega)
  clear hr hl
  go_enter Tryd.func45, Tryd.ntmps45
  go_wp2
  go_loopw [11] (fun vi wr => ∃ j m : Nat, vi = .int .i64 j ∧ j ≤ 8 ∧ wr = w.drewN m) (fun vi _ => 8 - (intOf vi).toNat)
  case atStart => exact ⟨0, 0, rfl, by omega, rfl⟩
  case round =>
    obtain ⟨j, m, rfl, hj, hwr⟩ := hrel
    have HW := Lib.hid hwr
    clear hwr
    by_cases hlt : j < 8
    · have tb : ((s[k + 1].toNat : Int) == (((⟨#[34, 92, 47, 98, 102, 110, 114, 116]⟩ : ByteArray)[j]'hlt).toNat : Int)) = false := by
        rw [beq_eq_false_iff_ne, lit8 j hlt]; intro h; exact HT.out j hlt (UInt8.toNat_inj.1 (by omega))
      go_wp2
      go_quiet (fail)
      go_wp2
      go_roundw
      case rel => exact ⟨j + 1, _, by go_num, by omega, by rw [HW.out]; exact World.drewN_drewN _ _ _⟩
      case measure => simp [intOf]; omega
    · obtain rfl : j = 8 := by omega
      go_wp2
      go_ret3
      exact part_err HR.out (by decide) (by decide) (by rw [HW.out]; exact below_dr (Below.refl _ _) _)

set_option maxHeartbeats 8000000 in
set_option maxRecDepth 100000 in
theorem part_long (s : ByteArray) (k : Nat) (w : World) (hk : k < s.size) (hs : s.size ≤ 1000000000000000000) (h : (s[k]'hk).toNat = 92) (hk1 : k + 1 < s.size) (d : Nat) (hl : longS (s[k + 1]'hk1).toNat = some d) :
    Calls Tryd.prog 45 #[.string s, .int .i64 k] w (PartPost (partR (s.data.toList.drop k)) k w) := by
  have hr : partR (s.data.toList.drop k) = (0, [d.toUInt8], 2) := by
    rw [drop_two s k hk hk1]; simp only [partR]; rw [if_neg (by omega), if_pos h, hl]
  have HR := Lib.hid hr
  have n34 : ((s[k].toNat : Int) == 34) = false := by rw [beq_eq_false_iff_ne]; omega
  have n92 : ((s[k].toNat : Int) == 92) = true := by rw [beq_iff_eq]; omega
  have m92 : ((s[k].toNat : Int) != 92) = false := by rw [bne, n92]; rfl
  have ix := idx_at s (k + 1) ((k : Int) + 1) hk1 (by omega)
  obtain ⟨i0, hi0, hc0⟩ := tab8_ex hl
  have HC := Lib.hid hc0
  have HL := Lib.hid hl
  clear hr hl hc0
  go_enter Tryd.func45, Tryd.ntmps45
  go_wp2
  go_loopw [11] (fun vi wr => ∃ j m : Nat, vi = .int .i64 j ∧ j ≤ i0 ∧ wr = w.drewN m) (fun vi _ => 8 - (intOf vi).toNat)
  case atStart => exact ⟨0, 0, rfl, by omega, rfl⟩
  case round =>
    obtain ⟨j, m, rfl, hj, hwr⟩ := hrel
    have HW := Lib.hid hwr
    clear hwr
    have hlt : j < 8 := by omega
    by_cases he : tab8.getD j 0 = s[k + 1]
    · have tb : ((s[k + 1].toNat : Int) == (((⟨#[34, 92, 47, 98, 102, 110, 114, 116]⟩ : ByteArray)[j]'hlt).toNat : Int)) = true := by
        rw [beq_iff_eq, lit8 j hlt, he]
      have hd := tab8_val j hlt
      have hv := val8_lt j hlt
      rw [he, HL.out] at hd
      injection hd with hd
      have HD := Lib.hid hd
      have HV := Lib.hid hv
      clear hd hv he
      have ia := fun W => run_arr8 W j hlt
      go_wp2
      go_quiet (fail)
      go_wp2
      go_ret3
      exact part_long_end HR.out (by have := HD.out; have := HV.out; omega) (by omega) (by rw [HW.out]; exact below_dr (below_dr (Below.refl _ _) _) _) (by have := HD.out; rw [List.getD_eq_getElem?_getD] at this; rw [this]) rfl
    · have tb : ((s[k + 1].toNat : Int) == (((⟨#[34, 92, 47, 98, 102, 110, 114, 116]⟩ : ByteArray)[j]'hlt).toNat : Int)) = false := by
        rw [beq_eq_false_iff_ne, lit8 j hlt]; intro h; exact he (UInt8.toNat_inj.1 (by omega))
      have hji : j < i0 := by
        rcases Nat.lt_or_ge j i0 with h | h
        · exact h
        · obtain rfl : j = i0 := by omega
          exact absurd HC.out he
      clear he
      go_wp2
      go_quiet (fail)
      go_wp2
      go_roundw
      case rel => exact ⟨j + 1, _, by go_num, by omega, by rw [HW.out]; exact World.drewN_drewN _ _ _⟩
      case measure => simp [intOf]; omega
end Go.Proofs.YthogialdoikanaaDoor
