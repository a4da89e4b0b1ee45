/- A character's bytes, read byte by byte; the model's own decode is that. No program in sight. -/
import Derived.Test.YthogialdoikanaaDoorB
import Derived.Lib.ValidLaws
import Derived.Lib.RuneBytes
namespace Go.Proofs.YthogialdoikanaaDoor

/-- so many bytes more of a character -/
def contR : Nat → Nat → List UInt8 → Option Nat
  | 0, v, _ => some v
  | _ + 1, _, [] => none
  | k + 1, v, d :: r => if d.toNat < 128 ∨ 192 ≤ d.toNat then none else contR k (v * 64 + d.toNat - 128) r
/-- the rest of a character, and whether it is one -/
def tailR (k v low : Nat) (t : List UInt8) : Option (Nat × Nat) :=
  match contR k v t with
  | none => none
  | some x => if low ≤ x ∧ x ≤ 1114111 ∧ (x < 55296 ∨ 57343 < x) then some (x, k + 1) else none
/-- the first character and its bytes -/
def nextR (l : List UInt8) : Option (Nat × Nat) :=
  match l with
  | [] => none
  | b :: t =>
    if b.toNat < 128 then some (b.toNat, 1)
    else if 192 ≤ b.toNat ∧ b.toNat < 224 then tailR 1 (b.toNat - 192) 128 t
    else if 224 ≤ b.toNat ∧ b.toNat < 240 then tailR 2 (b.toNat - 224) 2048 t
    else if 240 ≤ b.toNat ∧ b.toNat < 248 then tailR 3 (b.toNat - 240) 65536 t
    else none

theorem contR_some : ∀ (k v : Nat) (t : List UInt8) (x : Nat), contR k v t = some x → k ≤ t.length ∧ (∀ z, contR k v (t.take k ++ z) = some x) ∧ ∀ b ∈ t.take k, 128 ≤ b.toNat
  | 0, v, t, x, h => ⟨Nat.zero_le _, fun z => h, by simp⟩
  | k + 1, v, [], x, h => by cases h
  | k + 1, v, d :: r, x, h => by
    simp only [contR] at h
    split at h
    · cases h
    · rename_i hd
      obtain ⟨h1, h2, h3⟩ := contR_some k _ r x h
      refine ⟨by simp; omega, fun z => ?_, fun b hb => ?_⟩
      · show contR (k + 1) v (d :: (r.take k ++ z)) = _
        simp only [contR]
        rw [if_neg hd]
        exact h2 z
      · rw [List.take_succ_cons] at hb
        rcases List.mem_cons.1 hb with rfl | hb
        · omega
        · exact h3 b hb
theorem tailR_some {k v low : Nat} {t : List UInt8} {x n : Nat} (h : tailR k v low t = some (x, n)) :
    n = k + 1 ∧ k ≤ t.length ∧ (∀ z, tailR k v low (t.take k ++ z) = some (x, n)) ∧ (∀ b ∈ t.take k, 128 ≤ b.toNat) ∧ low ≤ x ∧ x ≤ 1114111 ∧ (x < 55296 ∨ 57343 < x) := by
  unfold tailR at h
  cases hc : contR k v t with
  | none => rw [hc] at h; cases h
  | some y =>
    rw [hc] at h
    simp only at h
    split at h
    · rename_i hy
      injection h with h; injection h with e1 e2
      subst e1; subst e2
      obtain ⟨h1, h2, h3⟩ := contR_some k v t y hc
      refine ⟨rfl, h1, fun z => ?_, h3, hy⟩
      unfold tailR
      rw [h2 z]
      simp only
      rw [if_pos hy]
    · cases h
/-- a character that is one: as many bytes, whatever comes behind -/
theorem nextR_some {b : UInt8} {t : List UInt8} {x n : Nat} (h : nextR (b :: t) = some (x, n)) :
    1 ≤ n ∧ n ≤ (b :: t).length ∧ (∀ z, nextR ((b :: t).take n ++ z) = some (x, n)) ∧ (128 ≤ b.toNat → ∀ c ∈ (b :: t).take n, 128 ≤ c.toNat) ∧ (128 ≤ b.toNat → 128 ≤ x) ∧ (b.toNat < 128 → x = b.toNat ∧ n = 1) := by
  have wide : ∀ (k v low : Nat) (_ : 128 ≤ b.toNat) (hz : ∀ z, nextR (b :: z) = tailR k v low z) (_ : 128 ≤ low), tailR k v low t = some (x, n) →
      1 ≤ n ∧ n ≤ (b :: t).length ∧ (∀ z, nextR ((b :: t).take n ++ z) = some (x, n)) ∧ (128 ≤ b.toNat → ∀ c ∈ (b :: t).take n, 128 ≤ c.toNat) ∧ (128 ≤ b.toNat → 128 ≤ x) ∧ (b.toNat < 128 → x = b.toNat ∧ n = 1) := by
    intro k v low hb hz hlow ht
    obtain ⟨h1, h2, h3, h4, h5, h6⟩ := tailR_some ht
    subst h1
    refine ⟨by omega, by simp; omega, fun z => ?_, fun _ c hc => ?_, fun _ => by omega, fun _ => by omega⟩
    · rw [List.take_succ_cons, List.cons_append, hz, h3]
    · rw [List.take_succ_cons] at hc
      rcases List.mem_cons.1 hc with rfl | hc
      · exact hb
      · exact h4 c hc
  by_cases hb : b.toNat < 128
  · simp only [nextR] at h
    rw [if_pos hb] at h
    injection h with h; injection h with e1 e2
    subst e1; subst e2
    refine ⟨Nat.le_refl _, by simp, fun z => ?_, fun h => by omega, fun h => by omega, fun _ => ⟨rfl, rfl⟩⟩
    show nextR (b :: z) = _
    simp only [nextR]
    rw [if_pos hb]
  · by_cases h2 : 192 ≤ b.toNat ∧ b.toNat < 224
    · have hz : ∀ z, nextR (b :: z) = tailR 1 (b.toNat - 192) 128 z := fun z => by simp only [nextR]; rw [if_neg hb, if_pos h2]
      exact wide _ _ _ (by omega) hz (by omega) (by rw [← hz]; exact h)
    · by_cases h3 : 224 ≤ b.toNat ∧ b.toNat < 240
      · have hz : ∀ z, nextR (b :: z) = tailR 2 (b.toNat - 224) 2048 z := fun z => by simp only [nextR]; rw [if_neg hb, if_neg h2, if_pos h3]
        exact wide _ _ _ (by omega) hz (by omega) (by rw [← hz]; exact h)
      · by_cases h4 : 240 ≤ b.toNat ∧ b.toNat < 248
        · have hz : ∀ z, nextR (b :: z) = tailR 3 (b.toNat - 240) 65536 z := fun z => by simp only [nextR]; rw [if_neg hb, if_neg h2, if_neg h3, if_pos h4]
          exact wide _ _ _ (by omega) hz (by omega) (by rw [← hz]; exact h)
        · simp only [nextR] at h
          rw [if_neg hb, if_neg h2, if_neg h3, if_neg h4] at h
          cases h

theorem pair_some {a b : Nat × Nat} (h : a.1 = b.1 ∧ a.2 = b.2) (hn : ¬ (b.1 = 65533 ∧ b.2 = 1)) : (some a = none ∧ b = (65533, 1)) ∨ (some a = some b ∧ ¬ (b.1 = 65533 ∧ b.2 = 1)) :=
  .inr ⟨by rw [Prod.ext h.1 h.2], hn⟩

/-- of numbers alone: the continuation bytes are those of which a quarter tells it -/
theorem two_eq (n b : Nat) (h1 : 192 ≤ b) (h2 : b < 224) (c1 c2 c3 : Nat) :
    (¬ (1 < n ∧ c1 / 64 = 2) → Lib.decodeN n b c1 c2 c3 = (65533, 1)) ∧ (1 < n → 128 ≤ c1 → c1 < 192 → Lib.decodeN n b c1 c2 c3 = if 128 ≤ (b - 192) * 64 + c1 - 128 then ((b - 192) * 64 + c1 - 128, 2) else (65533, 1)) := by
  constructor
  · intro h
    unfold Lib.decodeN
    rw [if_neg (by omega), if_neg (by omega), if_neg (by omega), if_neg (by omega)]
  · intro hn h3 h4
    unfold Lib.decodeN
    rw [if_neg (by omega), if_pos (by omega)]
    have e : b % 32 * 64 + c1 % 64 = (b - 192) * 64 + c1 - 128 := by omega
    rw [e]
theorem three_eq (n b : Nat) (h1 : 224 ≤ b) (h2 : b < 240) (c1 c2 c3 : Nat) :
    (¬ ((1 < n ∧ c1 / 64 = 2) ∧ (2 < n ∧ c2 / 64 = 2)) → Lib.decodeN n b c1 c2 c3 = (65533, 1)) ∧ (2 < n → 128 ≤ c1 → c1 < 192 → 128 ≤ c2 → c2 < 192 →
      Lib.decodeN n b c1 c2 c3 = if 2048 ≤ ((b - 224) * 64 + c1 - 128) * 64 + c2 - 128 ∧ (((b - 224) * 64 + c1 - 128) * 64 + c2 - 128 < 55296 ∨ 57343 < ((b - 224) * 64 + c1 - 128) * 64 + c2 - 128) then (((b - 224) * 64 + c1 - 128) * 64 + c2 - 128, 3) else (65533, 1)) := by
  constructor
  · intro h
    unfold Lib.decodeN
    rw [if_neg (by omega), if_neg (by omega), if_neg (by omega), if_neg (by omega)]
  · intro hn h3 h4 h5 h6
    unfold Lib.decodeN
    rw [if_neg (by omega), if_neg (by omega), if_pos (by omega)]
    have e : b % 16 * 4096 + c1 % 64 * 64 + c2 % 64 = ((b - 224) * 64 + c1 - 128) * 64 + c2 - 128 := by omega
    rw [e]
    generalize ((b - 224) * 64 + c1 - 128) * 64 + c2 - 128 = x at e
    have hx : x < 65536 := by omega
    by_cases hc : 2048 ≤ x ∧ (x < 55296 ∨ 57343 < x)
    · rw [if_pos hc, if_pos (by omega)]
    · rw [if_neg hc, if_neg (by omega)]
theorem four_eq (n b : Nat) (h1 : 240 ≤ b) (h2 : b < 248) (c1 c2 c3 : Nat) :
    (¬ ((1 < n ∧ c1 / 64 = 2) ∧ (2 < n ∧ c2 / 64 = 2) ∧ (3 < n ∧ c3 / 64 = 2)) → Lib.decodeN n b c1 c2 c3 = (65533, 1)) ∧ (3 < n → 128 ≤ c1 → c1 < 192 → 128 ≤ c2 → c2 < 192 → 128 ≤ c3 → c3 < 192 →
      Lib.decodeN n b c1 c2 c3 = if 65536 ≤ (((b - 240) * 64 + c1 - 128) * 64 + c2 - 128) * 64 + c3 - 128 ∧ (((b - 240) * 64 + c1 - 128) * 64 + c2 - 128) * 64 + c3 - 128 ≤ 1114111 then ((((b - 240) * 64 + c1 - 128) * 64 + c2 - 128) * 64 + c3 - 128, 4) else (65533, 1)) := by
  constructor
  · intro h
    unfold Lib.decodeN
    rw [if_neg (by omega), if_neg (by omega), if_neg (by omega), if_neg (by omega)]
  · intro hn h3 h4 h5 h6 h7 h8
    unfold Lib.decodeN
    rw [if_neg (by omega), if_neg (by omega), if_neg (by omega), if_pos (by omega)]
    have e : b % 8 * 262144 + c1 % 64 * 4096 + c2 % 64 * 64 + c3 % 64 = (((b - 240) * 64 + c1 - 128) * 64 + c2 - 128) * 64 + c3 - 128 := by omega
    rw [e]
    generalize (((b - 240) * 64 + c1 - 128) * 64 + c2 - 128) * 64 + c3 - 128 = x at e
    by_cases hc : 65536 ≤ x ∧ x ≤ 1114111
    · rw [if_pos hc, if_pos (by omega)]
    · rw [if_neg hc, if_neg (by omega)]

/-- the model's decode, byte by byte -/
theorem decL_next (b : UInt8) (t : List UInt8) : (nextR (b :: t) = none ∧ decL (b :: t) = (65533, 1)) ∨ (nextR (b :: t) = some (decL (b :: t)) ∧ ¬ ((decL (b :: t)).1 = 65533 ∧ (decL (b :: t)).2 = 1)) := by
  have hdec : decL (b :: t) = Lib.decodeN (b :: t).length b.toNat (t.getD 0 0).toNat (t.getD 1 0).toNat (t.getD 2 0).toNat := Lib.decodeL_N (b :: t)
  rw [hdec]
  clear hdec
  have hb := b.toNat_lt
  by_cases h0 : b.toNat < 128
  · have e : Lib.decodeN (b :: t).length b.toNat (t.getD 0 0).toNat (t.getD 1 0).toNat (t.getD 2 0).toNat = (b.toNat, 1) := by unfold Lib.decodeN; rw [if_pos h0]
    rw [e]
    refine .inr ⟨by simp only [nextR]; rw [if_pos h0], by simp only; omega⟩
  · by_cases h2 : 192 ≤ b.toNat ∧ b.toNat < 224
    · have hz : nextR (b :: t) = tailR 1 (b.toNat - 192) 128 t := by simp only [nextR]; rw [if_neg h0, if_pos h2]
      rw [hz]
      obtain ⟨hn, hy⟩ := two_eq (b :: t).length b.toNat h2.1 h2.2 (t.getD 0 0).toNat (t.getD 1 0).toNat (t.getD 2 0).toNat
      cases t with
      | nil => exact .inl ⟨rfl, hn (by simp)⟩
      | cons c r =>
        simp only [List.getD_cons_zero] at hn hy ⊢
        by_cases hc : c.toNat < 128 ∨ 192 ≤ c.toNat
        · exact .inl ⟨by simp only [tailR, contR]; rw [if_pos hc], hn (by omega)⟩
        · rw [hy (by simp) (by omega) (by omega)]
          simp only [tailR, contR]
          rw [if_neg hc]
          simp only
          have hl : (b.toNat - 192) * 64 + c.toNat - 128 < 2048 := by omega
          generalize (b.toNat - 192) * 64 + c.toNat - 128 = x at hl
          by_cases hx : 128 ≤ x
          · rw [if_pos hx, if_pos (by omega)]
            exact .inr ⟨rfl, by simp only; omega⟩
          · rw [if_neg hx, if_neg (by omega)]
            exact .inl ⟨rfl, rfl⟩
    · by_cases h3 : 224 ≤ b.toNat ∧ b.toNat < 240
      · have hz : nextR (b :: t) = tailR 2 (b.toNat - 224) 2048 t := by simp only [nextR]; rw [if_neg h0, if_neg h2, if_pos h3]
        rw [hz]
        obtain ⟨hn, hy⟩ := three_eq (b :: t).length b.toNat h3.1 h3.2 (t.getD 0 0).toNat (t.getD 1 0).toNat (t.getD 2 0).toNat
        cases t with
        | nil => exact .inl ⟨rfl, hn (by simp)⟩
        | cons c r =>
          by_cases hc : c.toNat < 128 ∨ 192 ≤ c.toNat
          · exact .inl ⟨by simp only [tailR, contR]; rw [if_pos hc], hn (by simp only [List.getD_cons_zero]; omega)⟩
          · cases r with
            | nil =>
              refine .inl ⟨by simp only [tailR, contR]; rw [if_neg hc], hn (by simp)⟩
            | cons d r =>
              simp only [List.getD_cons_zero, List.getD_cons_succ] at hn hy ⊢
              by_cases hd : d.toNat < 128 ∨ 192 ≤ d.toNat
              · exact .inl ⟨by simp only [tailR, contR]; rw [if_neg hc, if_pos hd], hn (by omega)⟩
              · rw [hy (by simp) (by omega) (by omega) (by omega) (by omega)]
                simp only [tailR, contR]
                rw [if_neg hc, if_neg hd]
                simp only
                have hl : ((b.toNat - 224) * 64 + c.toNat - 128) * 64 + d.toNat - 128 < 65536 := by omega
                generalize ((b.toNat - 224) * 64 + c.toNat - 128) * 64 + d.toNat - 128 = x at hl
                by_cases hx : 2048 ≤ x ∧ (x < 55296 ∨ 57343 < x)
                · rw [if_pos hx, if_pos (by omega)]
                  exact .inr ⟨rfl, by simp only; omega⟩
                · rw [if_neg hx, if_neg (by omega)]
                  exact .inl ⟨rfl, rfl⟩
      · by_cases h4 : 240 ≤ b.toNat ∧ b.toNat < 248
        · have hz : nextR (b :: t) = tailR 3 (b.toNat - 240) 65536 t := by simp only [nextR]; rw [if_neg h0, if_neg h2, if_neg h3, if_pos h4]
          rw [hz]
          obtain ⟨hn, hy⟩ := four_eq (b :: t).length b.toNat h4.1 h4.2 (t.getD 0 0).toNat (t.getD 1 0).toNat (t.getD 2 0).toNat
          cases t with
          | nil => exact .inl ⟨rfl, hn (by simp)⟩
          | cons c r =>
            by_cases hc : c.toNat < 128 ∨ 192 ≤ c.toNat
            · exact .inl ⟨by simp only [tailR, contR]; rw [if_pos hc], hn (by simp only [List.getD_cons_zero]; omega)⟩
            · cases r with
              | nil => exact .inl ⟨by simp only [tailR, contR]; rw [if_neg hc], hn (by simp)⟩
              | cons d r =>
                by_cases hd : d.toNat < 128 ∨ 192 ≤ d.toNat
                · exact .inl ⟨by simp only [tailR, contR]; rw [if_neg hc, if_pos hd], hn (by simp only [List.getD_cons_zero, List.getD_cons_succ]; omega)⟩
                · cases r with
                  | nil => exact .inl ⟨by simp only [tailR, contR]; rw [if_neg hc, if_neg hd], hn (by simp)⟩
                  | cons e r =>
                    simp only [List.getD_cons_zero, List.getD_cons_succ] at hn hy ⊢
                    by_cases he : e.toNat < 128 ∨ 192 ≤ e.toNat
                    · exact .inl ⟨by simp only [tailR, contR]; rw [if_neg hc, if_neg hd, if_pos he], hn (by omega)⟩
                    · rw [hy (by simp) (by omega) (by omega) (by omega) (by omega) (by omega) (by omega)]
                      simp only [tailR, contR]
                      rw [if_neg hc, if_neg hd, if_neg he]
                      simp only
                      generalize (((b.toNat - 240) * 64 + c.toNat - 128) * 64 + d.toNat - 128) * 64 + e.toNat - 128 = x
                      by_cases hx : 65536 ≤ x ∧ x ≤ 1114111
                      · rw [if_pos hx, if_pos (by omega)]
                        exact .inr ⟨rfl, by simp only; omega⟩
                      · rw [if_neg hx, if_neg (by omega)]
                        exact .inl ⟨rfl, rfl⟩
        · refine .inl ⟨by simp only [nextR]; rw [if_neg h0, if_neg h2, if_neg h3, if_neg h4], ?_⟩
          unfold Lib.decodeN
          rw [if_neg (by omega), if_neg (by omega), if_neg (by omega), if_neg (by omega)]

theorem decL_none {b : UInt8} {t : List UInt8} (h : nextR (b :: t) = none) : decL (b :: t) = (65533, 1) := by
  rcases decL_next b t with h1 | h1
  · exact h1.2
  · rw [h] at h1; cases h1.1
theorem decL_some {b : UInt8} {t : List UInt8} {x n : Nat} (h : nextR (b :: t) = some (x, n)) : decL (b :: t) = (x, n) ∧ ¬ (x = 65533 ∧ n = 1) := by
  rcases decL_next b t with h1 | h1
  · rw [h] at h1; cases h1.1
  · rw [h] at h1
    obtain ⟨h2, h3⟩ := h1
    injection h2 with h2
    rw [← h2] at h3
    exact ⟨h2.symm, h3⟩

/-! ### a text of whole characters -/
theorem valid_nil : Lib.validD [] = true := rfl
theorem valid_none {b : UInt8} {t : List UInt8} (h : nextR (b :: t) = none) : Lib.validD (b :: t) = false := by
  have e : Lib.decodeL (b :: t) = (65533, 1) := decL_none h
  rw [Lib.validD_step _ (by simp), e, if_pos ⟨rfl, rfl⟩]
theorem valid_some {b : UInt8} {t : List UInt8} {x n : Nat} (h : nextR (b :: t) = some (x, n)) : Lib.validD (b :: t) = Lib.validD ((b :: t).drop n) := by
  obtain ⟨h1, h2⟩ := decL_some h
  have e : Lib.decodeL (b :: t) = (x, n) := h1
  rw [Lib.validD_step _ (by simp), e, if_neg h2]
theorem valid_true {b : UInt8} {t : List UInt8} (h : Lib.validD (b :: t) = true) : ∃ x n, nextR (b :: t) = some (x, n) ∧ Lib.validD ((b :: t).drop n) = true := by
  cases hx : nextR (b :: t) with
  | none => rw [valid_none hx] at h; cases h
  | some y => exact ⟨y.1, y.2, rfl, by rw [← valid_some hx]; exact h⟩

/-- a character's own bytes -/
theorem byte_toNat {n : Nat} (h : n < 256) : n.toUInt8.toNat = n := by
  show n % 256 = n
  exact Nat.mod_eq_of_lt h
theorem some_pair {a b n : Nat} (h : a = b) : some (a, n) = some (b, n) := by rw [h]
theorem next_encode (r : Nat) (h : r < 55296 ∨ (57343 < r ∧ r ≤ 1114111)) (z : List UInt8) : nextR (Lib.encodeRune (r : Int) ++ z) = some (r, (Lib.encodeRune (r : Int)).length) ∧ Lib.encodeRune (r : Int) ≠ [] := by
  unfold Lib.encodeRune
  by_cases h1 : r ≤ 127
  · rw [Lib.encodeRuneZ_one (by omega) (by omega)]
    refine ⟨?_, by simp⟩
    show nextR ((r : Int).toNat.toUInt8 :: z) = some (r, 1)
    simp only [nextR]
    rw [Int.toNat_natCast, byte_toNat (by omega), if_pos (by omega)]
  · by_cases h2 : r ≤ 2047
    · rw [Lib.encodeRuneZ_two (by omega) (by omega)]
      refine ⟨?_, by simp⟩
      show nextR ((192 + (r : Int) / 64).toNat.toUInt8 :: (128 + (r : Int) % 64).toNat.toUInt8 :: z) = some (r, 2)
      have e1 : (192 + (r : Int) / 64).toNat.toUInt8.toNat = 192 + r / 64 := by rw [byte_toNat (by omega)]; omega
      have e2 : (128 + (r : Int) % 64).toNat.toUInt8.toNat = 128 + r % 64 := by rw [byte_toNat (by omega)]; omega
      simp only [nextR, tailR, contR, e1, e2]
      rw [if_neg (by omega), if_pos (by omega), if_neg (by omega)]
      simp only
      rw [if_pos (by omega)]
      exact some_pair (by omega)
    · by_cases h3 : r ≤ 65535
      · rw [Lib.encodeRuneZ_three (by omega)]
        refine ⟨?_, by simp⟩
        show nextR ((224 + (r : Int) / 4096).toNat.toUInt8 :: (128 + (r : Int) / 64 % 64).toNat.toUInt8 :: (128 + (r : Int) % 64).toNat.toUInt8 :: z) = some (r, 3)
        have e1 : (224 + (r : Int) / 4096).toNat.toUInt8.toNat = 224 + r / 4096 := by rw [byte_toNat (by omega)]; omega
        have e2 : (128 + (r : Int) / 64 % 64).toNat.toUInt8.toNat = 128 + r / 64 % 64 := by rw [byte_toNat (by omega)]; omega
        have e3 : (128 + (r : Int) % 64).toNat.toUInt8.toNat = 128 + r % 64 := by rw [byte_toNat (by omega)]; omega
        simp only [nextR, tailR, contR, e1, e2, e3]
        rw [if_neg (by omega), if_neg (by omega), if_pos (by omega), if_neg (by omega), if_neg (by omega)]
        simp only
        rw [if_pos (by omega)]
        exact some_pair (by omega)
      · rw [Lib.encodeRuneZ_four (by omega) (by omega)]
        refine ⟨?_, by simp⟩
        show nextR ((240 + (r : Int) / 262144).toNat.toUInt8 :: (128 + (r : Int) / 4096 % 64).toNat.toUInt8 :: (128 + (r : Int) / 64 % 64).toNat.toUInt8 :: (128 + (r : Int) % 64).toNat.toUInt8 :: z) = some (r, 4)
        have e1 : (240 + (r : Int) / 262144).toNat.toUInt8.toNat = 240 + r / 262144 := by rw [byte_toNat (by omega)]; omega
        have e2 : (128 + (r : Int) / 4096 % 64).toNat.toUInt8.toNat = 128 + r / 4096 % 64 := by rw [byte_toNat (by omega)]; omega
        have e3 : (128 + (r : Int) / 64 % 64).toNat.toUInt8.toNat = 128 + r / 64 % 64 := by rw [byte_toNat (by omega)]; omega
        have e4 : (128 + (r : Int) % 64).toNat.toUInt8.toNat = 128 + r % 64 := by rw [byte_toNat (by omega)]; omega
        simp only [nextR, tailR, contR, e1, e2, e3, e4]
        rw [if_neg (by omega), if_neg (by omega), if_neg (by omega), if_pos (by omega), if_neg (by omega), if_neg (by omega), if_neg (by omega)]
        simp only
        rw [if_pos (by omega)]
        exact some_pair (by omega)
theorem valid_encode (r : Nat) (h : r < 55296 ∨ (57343 < r ∧ r ≤ 1114111)) (z : List UInt8) : Lib.validD (Lib.encodeRune (r : Int) ++ z) = Lib.validD z := by
  obtain ⟨h1, h2⟩ := next_encode r h z
  cases he : Lib.encodeRune (r : Int) with
  | nil => exact absurd he h2
  | cons b t =>
    rw [he] at h1
    have h3 := valid_some (b := b) (t := t ++ z) h1
    rw [← List.cons_append, List.drop_left] at h3
    exact h3
end Go.Proofs.YthogialdoikanaaDoor
