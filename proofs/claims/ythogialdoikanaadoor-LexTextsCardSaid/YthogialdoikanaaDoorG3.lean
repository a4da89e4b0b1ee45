/- What is quoted comes back; what is unquoted is a text of whole characters. No program in sight. -/
import Derived.Test.YthogialdoikanaaDoorG1
import Derived.Test.YthogialdoikanaaDoorD
import Derived.Test.YthogialdoikanaaDoorU1
namespace Go.Proofs.YthogialdoikanaaDoor

/-- a step at a byte that is neither quote nor backslash -/
theorem unqStep_next {b : UInt8} {t acc : List UInt8} (h1 : b.toNat ≠ 34) (h2 : b.toNat ≠ 92) (h3 : ¬ b.toNat < 32) :
    unqStep (b :: t, acc) = match nextR (b :: t) with
      | none => .inl (11, [])
      | some (_, n) => .inr ((b :: t).drop n, acc ++ (b :: t).take n) := by
  rw [unqStep_other h1 h2 h3]
  cases h : nextR (b :: t) with
  | none => rw [decL_none h, if_pos ⟨rfl, rfl⟩]
  | some y =>
    obtain ⟨x, n⟩ := y
    obtain ⟨e, hn⟩ := decL_some h
    have h4 := (nextR_some h).1
    rw [e, if_neg hn]
    simp only
    rw [Nat.max_eq_right h4]

/-! ### what is unquoted is valid -/
theorem fourS_next {v : List UInt8} {x : Nat} (h : fourS v = some x) : x < 65536 := fourS_lt h
theorem longS_small {c d : Nat} (hc : c < 128) (h : longS c = some d) : d < 128 := by
  unfold longS at h
  repeat' split at h
  all_goals first | (injection h with h; omega) | cases h
theorem longS_some {c d : Nat} (h : longS c = some d) : d < 128 := by
  unfold longS at h
  repeat' split at h
  all_goals first | (injection h with h; omega) | cases h

/-- a piece that is taken: valid before whatever is valid -/
theorem unqStep_piece {r acc r' acc' : List UInt8} (h : unqStep (r, acc) = .inr (r', acc')) : ∃ pc, acc' = acc ++ pc ∧ ∀ z, Lib.validD (pc ++ z) = Lib.validD z := by
  cases r with
  | nil => cases h
  | cons b t =>
    by_cases h34 : b.toNat = 34
    · rw [unqStep_quote h34] at h
      split at h <;> cases h
    · by_cases h92 : b.toNat = 92
      · rw [unqStep_back h92] at h
        unfold unqB at h
        split at h
        · cases h
        · split at h
          · unfold unqU at h
            split at h
            · cases h
            · rename_i x hx
              have hx6 := fourS_lt hx
              split at h
              · rename_i hs
                split at h
                · cases h
                · rename_i hc
                  have hxh : x < 56320 := by
                    rcases Nat.lt_or_ge x 56320 with h | h
                    · exact h
                    · exact absurd (.inl h) hc
                  split at h
                  · cases h
                  · rename_i y hy
                    split at h
                    · cases h
                    · injection h with h; injection h with _ h
                      refine ⟨_, h.symm, fun z => ?_⟩
                      have e : (65536 + ((x : Int) - 55296) * 1024 + ((y : Int) - 56320)) = ((65536 + (x - 55296) * 1024 + (y - 56320) : Nat) : Int) := by omega
                      rw [e]
                      exact valid_encode _ (by omega) z
              · injection h with h; injection h with _ h
                exact ⟨_, h.symm, fun z => valid_encode _ (by omega) z⟩
          · split at h
            · cases h
            · rename_i d hd
              injection h with h; injection h with _ h
              refine ⟨_, h.symm, fun z => ?_⟩
              have := longS_some hd
              exact Lib.validD_cons _ _ (by rw [byte_toNat (by omega)]; exact this)
      · by_cases h32 : b.toNat < 32
        · rw [unqStep_small h34 h92 h32] at h; cases h
        · rw [unqStep_next h34 h92 h32] at h
          cases hx : nextR (b :: t) with
          | none => rw [hx] at h; cases h
          | some y =>
            obtain ⟨x, n⟩ := y
            rw [hx] at h
            simp only at h
            injection h with h; injection h with _ h
            refine ⟨_, h.symm, fun z => ?_⟩
            obtain ⟨h1, h2, h3, _⟩ := nextR_some hx
            have h4 := h3 z
            have hne : ∃ k, n = k + 1 := ⟨n - 1, by omega⟩
            obtain ⟨k, rfl⟩ := hne
            rw [List.take_succ_cons, List.cons_append] at h4 ⊢
            have h5 := valid_some h4
            rw [h5, List.drop_succ_cons]
            have hl : (t.take k).length = k := by rw [List.length_take]; simp at h2; omega
            have h6 : (t.take k ++ z).drop k = z := by
              have h7 := List.drop_left (l₁ := t.take k) (l₂ := z)
              rw [hl] at h7
              exact h7
            rw [h6]
theorem unq_valid : ∀ (n : Nat) (r acc y : List UInt8), r.length ≤ n → unq r acc = (0, y) → ∃ z, y = acc ++ z ∧ Lib.validD z = true := by
  intro n
  induction n with
  | zero =>
    intro r acc y hn h
    obtain rfl : r = [] := List.eq_nil_of_length_eq_zero (by omega)
    rw [unq_inl (show unqStep ([], acc) = .inl (4, []) from rfl)] at h
    cases h
  | succ n ih =>
    intro r acc y hn h
    cases hs : unqStep (r, acc) with
    | inl x =>
      rw [unq_inl hs] at h
      subst h
      rcases unqStep_code hs with (h | h) | ⟨h, _⟩
      · cases h
      · cases h
      · injection h with _ h
        exact ⟨[], by rw [h]; simp, rfl⟩
    | inr x =>
      obtain ⟨r', a'⟩ := x
      rw [unq_inr hs] at h
      have := unqStep_low _ _ hs
      simp only at this
      obtain ⟨z, hz, hv⟩ := ih r' a' y (by omega) h
      obtain ⟨pc, hp, hpv⟩ := unqStep_piece hs
      exact ⟨pc ++ z, by rw [hz, hp, List.append_assoc], by rw [hpv, hv]⟩
theorem unquoteS_valid {l y : List UInt8} (h : unquoteS l = (0, y)) : Lib.validD y = true := by
  unfold unquoteS at h
  split at h
  · cases h
  · split at h
    · obtain ⟨z, hz, hv⟩ := unq_valid _ _ _ _ (Nat.le_refl _) h
      rw [hz]; exact hv
    · cases h

/-! ### what is quoted comes back -/
theorem escB_high {b : UInt8} (h : 128 ≤ b.toNat) : escB b = [b] := by
  unfold escB shortS
  rw [if_neg (by rw [if_neg (by omega), if_neg (by omega), if_neg (by omega), if_neg (by omega), if_neg (by omega), if_neg (by omega)]; simp), if_neg (by omega)]
theorem escS_high : ∀ l : List UInt8, (∀ b ∈ l, 128 ≤ b.toNat) → escS l = l
  | [], _ => rfl
  | b :: r, h => by
    have e : escS (b :: r) = escB b ++ escS r := rfl
    rw [e, escB_high (h b (by simp)), escS_high r fun c hc => h c (by simp [hc])]
    rfl
theorem escS_append (a b : List UInt8) : escS (a ++ b) = escS a ++ escS b := by unfold escS; rw [List.flatMap_append]
/-- the three kinds of bytes below 128 -/
def shortOK (c : Nat) : Bool := shortS c == 0 || (decide ((shortS c).toUInt8.toNat ≠ 117) && longS (shortS c).toUInt8.toNat == some c)
theorem shortS_tab : ∀ x : Fin 256, shortOK x.val = true := by decide +kernel
def hexOK (c : Nat) : Bool := fourS [48, 48, hexD (c / 16), hexD (c % 16)] == some c
theorem hexd_tab : ∀ x : Fin 256, hexOK x.val = true := by decide +kernel
theorem fourF_more : ∀ (k n : Nat) (l z : List UInt8) (m : Nat), fourF k n l = some m → fourF k n (l ++ z) = some m
  | 0, _, _, _, _, h => h
  | _ + 1, _, [], _, _, h => by cases h
  | k + 1, n, b :: r, z, m, h => by
    show fourF (k + 1) n (b :: (r ++ z)) = _
    simp only [fourF] at h ⊢
    split at h
    · cases h
    · exact fourF_more k _ r z m h
theorem shortS_plain {c : Nat} (h : shortS c = 0) : c ≠ 34 ∧ c ≠ 92 := by
  constructor
  · rintro rfl; revert h; decide
  · rintro rfl; revert h; decide
theorem encode_small {c : Nat} (h : c < 128) : Lib.encodeRune (c : Int) = [c.toUInt8] := by
  unfold Lib.encodeRune
  rw [Lib.encodeRuneZ_one (by omega) (by omega)]
  simp
theorem byte_self (b : UInt8) : b.toNat.toUInt8 = b := by
  apply UInt8.toNat_inj.1
  exact byte_toNat b.toNat_lt
theorem unq_esc (b : UInt8) (hb : b.toNat < 128) (z acc : List UInt8) : unqStep (escB b ++ z, acc) = .inr (z, acc ++ [b]) := by
  unfold escB
  by_cases h0 : shortS b.toNat = 0
  · rw [if_neg (by simp [h0])]
    obtain ⟨h34, h92⟩ := shortS_plain h0
    by_cases h1 : b.toNat < 32 ∨ b.toNat = 127
    · rw [if_pos h1]
      have hx := hexd_tab ⟨b.toNat, b.toNat_lt⟩
      have hx : fourS [48, 48, hexD (b.toNat / 16), hexD (b.toNat % 16)] = some b.toNat := by simpa [hexOK] using hx
      have hx2 : fourS ([48, 48, hexD (b.toNat / 16), hexD (b.toNat % 16)] ++ z) = some b.toNat := fourF_more 4 0 _ z _ hx
      show unqStep (92 :: (117 :: ([48, 48, hexD (b.toNat / 16), hexD (b.toNat % 16)] ++ z)), acc) = _
      rw [unqStep_back rfl]
      show unqU ([48, 48, hexD (b.toNat / 16), hexD (b.toNat % 16)] ++ z) acc = _
      unfold unqU
      rw [hx2]
      simp only
      rw [if_neg (by omega), encode_small hb, byte_self]
      rfl
    · rw [if_neg h1]
      show unqStep (b :: z, acc) = _
      have hn : nextR (b :: z) = some (b.toNat, 1) := by simp only [nextR]; rw [if_pos hb]
      rw [unqStep_next h34 h92 (by omega), hn]
      rfl
  · rw [if_pos h0]
    have hx := shortS_tab ⟨b.toNat, b.toNat_lt⟩
    have hx : (shortS b.toNat).toUInt8.toNat ≠ 117 ∧ longS (shortS b.toNat).toUInt8.toNat = some b.toNat := by
      simpa [shortOK, h0] using hx
    show unqStep (92 :: ((shortS b.toNat).toUInt8 :: z), acc) = _
    rw [unqStep_back rfl]
    unfold unqB
    simp only
    rw [if_neg hx.1, hx.2]
    simp only
    rw [byte_self]
theorem unq_escS : ∀ (n : Nat) (x acc : List UInt8), x.length ≤ n → Lib.validD x = true → unq (escS x ++ [34]) acc = (0, acc ++ x) := by
  intro n
  induction n with
  | zero =>
    intro x acc hn _
    obtain rfl : x = [] := List.eq_nil_of_length_eq_zero (by omega)
    have h : unqStep ([34], acc) = .inl (0, acc) := by rw [unqStep_quote rfl, if_pos rfl]
    rw [List.append_nil]
    exact unq_inl h
  | succ n ih =>
    intro x acc hn hv
    cases x with
    | nil =>
      have h : unqStep ([34], acc) = .inl (0, acc) := by rw [unqStep_quote rfl, if_pos rfl]
      rw [List.append_nil]
      exact unq_inl h
    | cons b t =>
      by_cases hb : b.toNat < 128
      · have e : escS (b :: t) = escB b ++ escS t := rfl
        rw [e, List.append_assoc, unq_inr (unq_esc b hb _ acc), ih t _ (by simpa using hn) (by rw [← Lib.validD_cons b t hb]; exact hv), List.append_assoc]
        rfl
      · obtain ⟨v, k, hx, hv2⟩ := valid_true hv
        obtain ⟨h1, h2, h3, h4, _⟩ := nextR_some hx
        have hp := h4 (by omega)
        have e : escS (b :: t) ++ [34] = (b :: t).take k ++ (escS ((b :: t).drop k) ++ [34]) := by
          have e1 : escS (b :: t) = escS ((b :: t).take k) ++ escS ((b :: t).drop k) := by rw [← escS_append, List.take_append_drop]
          rw [e1, escS_high _ hp, List.append_assoc]
        have h5 := h3 (escS ((b :: t).drop k) ++ [34])
        have hl : ((b :: t).take k).length = k := by rw [List.length_take]; omega
        rw [e]
        obtain ⟨j, rfl⟩ : ∃ j, k = j + 1 := ⟨k - 1, by omega⟩
        have hs : unqStep ((b :: t).take (j + 1) ++ (escS ((b :: t).drop (j + 1)) ++ [34]), acc) = .inr (escS ((b :: t).drop (j + 1)) ++ [34], acc ++ (b :: t).take (j + 1)) := by
          generalize hz : escS ((b :: t).drop (j + 1)) ++ [34] = z at h5
          have hd := List.drop_left (l₁ := (b :: t).take (j + 1)) (l₂ := z)
          have ht := List.take_left (l₁ := (b :: t).take (j + 1)) (l₂ := z)
          rw [hl] at hd ht
          rw [List.take_succ_cons, List.cons_append] at h5 hd ht ⊢
          rw [unqStep_next (by omega) (by omega) (by omega), h5]
          simp only
          rw [hd, ht]
        rw [unq_inr hs, ih _ _ (by rw [List.length_drop]; simp at hn ⊢; omega) hv2, List.append_assoc, List.take_append_drop]
theorem unquote_quote {x : List UInt8} (h : Lib.validD x = true) : unquoteS (quoteS x).2 = (0, x) := by
  have e : (quoteS x).2 = 34 :: (escS x ++ [34]) := by unfold quoteS; rw [if_pos h]
  rw [e]
  unfold unquoteS
  simp only
  rw [if_pos (by decide), unq_escS _ x [] (Nat.le_refl _) h]
  rfl
end Go.Proofs.YthogialdoikanaaDoor
