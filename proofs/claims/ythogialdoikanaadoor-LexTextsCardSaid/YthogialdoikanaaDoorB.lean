/- Plain facts on the model's own decode of a character, and what a scan by bytes makes of it. No program in sight. -/
import Derived.Test.YthogialdoikanaaDoorA
import Derived.Laws.RangeAny
import Derived.Lib.Strings
import Derived.Lib.TrimU
namespace Go.Proofs.YthogialdoikanaaDoor

theorem get!_lt (s : ByteArray) (i : Nat) (h : i < s.size) : s.get! i = s[i] := by
  simp [ByteArray.get!, getElem!_pos, h]
  rfl

/-- the bytes of a character that is not ASCII are all above 127 -/
theorem decode_wide (s : ByteArray) (pos : Nat) (h : pos < s.size) (ha : 128 ≤ (s[pos]'h).toNat) :
    ∀ j, j < (Utf8.decode s pos).2 → ∃ hj : pos + j < s.size, 128 ≤ (s[pos + j]'hj).toNat := by
  have hn : ¬ (s[pos]'h).toNat < 128 := by omega
  have hg : s.get! pos = s[pos] := get!_lt s pos h
  have key : ∀ k, ((decide (pos + k < s.size) && (s.get! (pos + k)).toNat / 64 == 2) = true) → ∃ hj : pos + k < s.size, 128 ≤ (s[pos + k]'hj).toNat := by
    intro k hk
    simp only [Bool.and_eq_true, decide_eq_true_eq, beq_iff_eq] at hk
    refine ⟨hk.1, ?_⟩
    rw [← get!_lt s _ hk.1]
    omega
  have zero : ∃ hj : pos + 0 < s.size, 128 ≤ (s[pos + 0]'hj).toNat := ⟨by omega, by simpa using ha⟩
  intro j hj
  simp only [Utf8.decode, Nat.add_zero, hg, hn, if_false] at hj
  split at hj
  · rename_i h1
    simp only [Bool.and_eq_true] at h1
    have k1 := key 1 (by simpa using h1.2)
    split at hj
    · rcases (by omega : j = 0 ∨ j = 1) with rfl | rfl
      · exact zero
      · exact k1
    · obtain rfl : j = 0 := by simpa using hj
      exact zero
  · split at hj
    · rename_i h1
      simp only [Bool.and_eq_true] at h1
      have k1 := key 1 (by simpa using h1.1.2)
      have k2 := key 2 (by simpa using h1.2)
      split at hj
      · rcases (by omega : j = 0 ∨ j = 1 ∨ j = 2) with rfl | rfl | rfl
        · exact zero
        · exact k1
        · exact k2
      · obtain rfl : j = 0 := by simpa using hj
        exact zero
    · split at hj
      · rename_i h1
        simp only [Bool.and_eq_true] at h1
        have k1 := key 1 (by simpa using h1.1.1.2)
        have k2 := key 2 (by simpa using h1.1.2)
        have k3 := key 3 (by simpa using h1.2)
        split at hj
        · rcases (by omega : j = 0 ∨ j = 1 ∨ j = 2 ∨ j = 3) with rfl | rfl | rfl | rfl
          · exact zero
          · exact k1
          · exact k2
          · exact k3
        · obtain rfl : j = 0 := by simpa using hj
          exact zero
      · obtain rfl : j = 0 := by simpa using hj
        exact zero

theorem drop_at (s : ByteArray) (pos : Nat) (h : pos < s.size) : s.data.toList.drop pos = s[pos] :: s.data.toList.drop (pos + 1) := by
  have hl : pos < s.data.toList.length := by rw [← Lib.size_eq]; exact h
  rw [List.drop_eq_getElem_cons hl]; rfl

theorem quot_one (s : ByteArray) (pos : Nat) (t : Bool) (h : pos < s.size) :
    quotS t (s.data.toList.drop pos) = if (s[pos]'h).toNat = 34 ∧ t = false then 1 else quotS (decide ((s[pos]'h).toNat = 92 ∧ t = false)) (s.data.toList.drop (pos + 1)) + 1 := by
  rw [drop_at s pos h, quotS]

theorem quot_high (s : ByteArray) : ∀ (d pos : Nat) (t : Bool), 0 < d → (∀ j, j < d → ∃ hj : pos + j < s.size, 128 ≤ (s[pos + j]'hj).toNat) →
    quotS t (s.data.toList.drop pos) = d + quotS false (s.data.toList.drop (pos + d))
  | 0, _, _, h, _ => by omega
  | 1, pos, t, _, h => by
    obtain ⟨h0, hb⟩ := h 0 (by omega)
    have hb' : 128 ≤ (s[pos]'(by omega)).toNat := by simpa using hb
    rw [quot_one s pos t (by omega), if_neg (by omega)]
    have : decide ((s[pos]'(by omega)).toNat = 92 ∧ t = false) = false := by rw [decide_eq_false_iff_not]; omega
    rw [this]; omega
  | d + 2, pos, t, _, h => by
    obtain ⟨h0, hb⟩ := h 0 (by omega)
    have hb' : 128 ≤ (s[pos]'(by omega)).toNat := by simpa using hb
    rw [quot_one s pos t (by omega), if_neg (by omega)]
    have : decide ((s[pos]'(by omega)).toNat = 92 ∧ t = false) = false := by rw [decide_eq_false_iff_not]; omega
    rw [this, quot_high s (d + 1) (pos + 1) false (by omega) (fun j hj => by
      obtain ⟨h1, h2⟩ := h (j + 1) (by omega)
      have e : pos + 1 + j = pos + (j + 1) := by omega
      exact ⟨by omega, by simpa only [e] using h2⟩)]
    have e : pos + 1 + (d + 1) = pos + (d + 2) := by omega
    rw [e]; omega

/-- a scan for the closing quote, character by character -/
theorem quot_char (s : ByteArray) (pos : Nat) (h : pos < s.size) :
    ((((Utf8.decode s pos).1 : Int) = 34) → (Utf8.decode s pos).2 = 1 ∧ quotS false (s.data.toList.drop pos) = 1 ∧ quotS true (s.data.toList.drop pos) = 1 + quotS false (s.data.toList.drop (pos + 1))) ∧
    ((((Utf8.decode s pos).1 : Int) = 92) → (Utf8.decode s pos).2 = 1 ∧ ∀ t, quotS t (s.data.toList.drop pos) = 1 + quotS (!t) (s.data.toList.drop (pos + 1))) ∧
    (¬ (((Utf8.decode s pos).1 : Int) = 34) → ¬ (((Utf8.decode s pos).1 : Int) = 92) → ∀ t, quotS t (s.data.toList.drop pos) = (Utf8.decode s pos).2 + quotS false (s.data.toList.drop (pos + (Utf8.decode s pos).2))) ∧
    pos + (Utf8.decode s pos).2 ≤ s.size ∧ 1 ≤ (Utf8.decode s pos).2 := by
  by_cases ha : (s[pos]'h).toNat < 128
  · rw [decode_ascii s pos h ha]
    refine ⟨fun h1 => ⟨rfl, ?_, ?_⟩, fun h1 => ⟨rfl, fun t => ?_⟩, fun h1 h2 t => ?_, by simp; omega, Nat.le_refl _⟩
    · rw [quot_one s pos _ h, if_pos ⟨by omega, rfl⟩]
    · rw [quot_one s pos _ h, if_neg (by simp)]
      simp; omega
    · have h1' : (s[pos]'h).toNat = 92 := by omega
      rw [quot_one s pos _ h, if_neg (by omega)]
      cases t <;> simp [h1'] <;> omega
    · have h1' : ¬ (s[pos]'h).toNat = 34 := by omega
      have h2' : ¬ (s[pos]'h).toNat = 92 := by omega
      rw [quot_one s pos _ h, if_neg (by omega)]
      simp [h2']; omega
  · have hd := decode_high s pos h (by omega)
    have hw := decode_wide s pos h (by omega)
    refine ⟨fun h1 => by omega, fun h1 => by omega, fun _ _ t => quot_high s _ pos t hd.2 hw, ?_, hd.2⟩
    obtain ⟨h1, _⟩ := hw ((Utf8.decode s pos).2 - 1) (by omega)
    omega
/-- a character has one byte or more, and no more than there are -/
theorem dec_bounds (l : List UInt8) (h : l ≠ []) : 1 ≤ (decL l).2 ∧ (decL l).2 ≤ l.length := by
  have hs : 0 < (⟨l.toArray⟩ : ByteArray).size := by
    show 0 < l.toArray.size
    rw [List.size_toArray]
    exact List.length_pos_iff.2 h
  have hl : (⟨l.toArray⟩ : ByteArray).size = l.length := by
    show l.toArray.size = _
    rw [List.size_toArray]
  unfold decL
  by_cases ha : ((⟨l.toArray⟩ : ByteArray)[0]'hs).toNat < 128
  · rw [decode_ascii _ 0 hs ha]
    exact ⟨Nat.le_refl _, by show 1 ≤ l.length; omega⟩
  · have hd := decode_high (⟨l.toArray⟩ : ByteArray) 0 hs (by omega)
    have hw := decode_wide (⟨l.toArray⟩ : ByteArray) 0 hs (by omega)
    refine ⟨hd.2, ?_⟩
    obtain ⟨h1, _⟩ := hw ((Utf8.decode (⟨l.toArray⟩ : ByteArray) 0).2 - 1) (by omega)
    omega
theorem extract_end (s : ByteArray) (k : Nat) : s.extract k s.size = ⟨(s.data.toList.drop k).toArray⟩ := by
  have h := Lib.extract_data s k s.size
  have h2 : (s.data.toList.drop k).take (s.size - k) = s.data.toList.drop k := List.take_of_length_le (by rw [List.length_drop, ← Lib.size_eq]; omega)
  rw [h2] at h
  have : (s.extract k s.size).data = (s.data.toList.drop k).toArray := by rw [← h]
  cases hx : s.extract k s.size with
  | mk d => rw [hx] at this; simp only at this; rw [this]
theorem decodeGo_at (s : ByteArray) (k : Nat) (h : k < s.size) : Lib.decodeGoB (s.extract k s.size) = decL (s.data.toList.drop k) := by
  rw [extract_end]
  unfold Lib.decodeGoB decL
  rw [if_neg]
  show ¬ (s.data.toList.drop k).toArray.size = 0
  rw [List.size_toArray, List.length_drop, ← Lib.size_eq]
  omega
end Go.Proofs.YthogialdoikanaaDoor
