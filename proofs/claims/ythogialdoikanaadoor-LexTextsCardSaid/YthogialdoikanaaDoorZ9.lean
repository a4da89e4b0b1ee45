/- The answer's number, digit by digit, is the piece's own number. No program in sight. -/
import Derived.Test.YthogialdoikanaaDoorG4
namespace Go.Proofs.YthogialdoikanaaDoor

/-- the value of digits -/
def digV : Nat → List UInt8 → Nat
  | a, [] => a
  | a, b :: r => digV (a * 10 + (b.toNat - 48)) r
theorem digV_append : ∀ (l m : List UInt8) (a : Nat), digV a (l ++ m) = digV (digV a l) m
  | [], _, _ => rfl
  | b :: l, m, a => digV_append l m (a * 10 + (b.toNat - 48))
theorem dig_range {b : UInt8} (h : isDig (b.toNat : Int) = true) : 48 ≤ b.toNat ∧ b.toNat ≤ 57 := by
  unfold isDig at h
  have := of_decide_eq_true h
  omega
theorem pow_next {a j b : Nat} (h : a < 10 ^ j) (hb : b < 10) : a * 10 + b < 10 ^ (j + 1) := by
  rw [Nat.pow_succ]
  generalize 10 ^ j = p at h ⊢
  omega
theorem digV_lt (l : List UInt8) : ∀ (a j n : Nat), (∀ b ∈ l, isDig (b.toNat : Int) = true) → a < 10 ^ j → n = j + l.length → digV a l < 10 ^ n := by
  induction l with
  | nil =>
    intro a j n _ h hn
    have e : n = j := by simpa using hn
    subst e
    exact h
  | cons b r ih =>
    intro a j n hd h hn
    have hb := dig_range (hd b (by simp))
    have h1 := pow_next (b := b.toNat - 48) h (by omega)
    exact ih (a * 10 + (b.toNat - 48)) (j + 1) n (fun c hc => hd c (by simp [hc])) h1 (by rw [hn, List.length_cons]; omega)
theorem digV_ge : ∀ (l : List UInt8) (a : Nat), a ≤ digV a l
  | [], _ => Nat.le_refl _
  | b :: r, a => Nat.le_trans (show a ≤ a * 10 + (b.toNat - 48) by omega) (digV_ge r (a * 10 + (b.toNat - 48)))
theorem pow_low {a j : Nat} (h : a < 10 ^ j) (hj : j ≤ 18) : a < 1000000000000000000 := by
  have h18 : 10 ^ j ≤ 10 ^ 18 := Nat.pow_le_pow_right (by omega) hj
  exact Nat.lt_of_lt_of_le h h18
theorem parse_step (a : Nat) (b : UInt8) (r : List UInt8) (hb : 48 ≤ b.toNat ∧ b.toNat ≤ 57) (h : a < 1000000000000000000) : Lib.parseUintM 18446744073709551615 a (b :: r) = Lib.parseUintM 18446744073709551615 (a * 10 + (b.toNat - 48)) r := by
  rw [Lib.parseUintM, if_pos hb, if_neg (by omega), if_neg (by omega)]
theorem parse_dig (l : List UInt8) : ∀ (a j : Nat), (∀ b ∈ l, isDig (b.toNat : Int) = true) → a < 10 ^ j → j + l.length ≤ 19 → Lib.parseUintM 18446744073709551615 a l = .ok (digV a l) := by
  induction l with
  | nil => intro a j _ _ _; rfl
  | cons b r ih =>
    intro a j hd h hl
    have hb := dig_range (hd b (by simp))
    rw [List.length_cons] at hl
    rw [parse_step a b r hb (pow_low h (by omega))]
    exact ih _ (j + 1) (fun c hc => hd c (by simp [hc])) (pow_next h (by omega)) (by omega)

/-- digits that may not be a number -/
def numBad (m : Bool) (D V h : Nat) : Prop := 19 < D ∨ (h = 48 ∧ (1 < D ∨ m = true)) ∨ (m = false ∧ 9223372036854775808 ≤ V) ∨ (m = true ∧ 9223372036854775808 < V)
instance (m : Bool) (D V h : Nat) : Decidable (numBad m D V h) := by unfold numBad; infer_instance

theorem numS_long {l : List UInt8} (h : 19 < (bare l).length) : numS l = none := by
  unfold numS
  split
  · rw [if_pos (.inl h)]
  · rfl
theorem bare_neg (d : List UInt8) : bare (45 :: d) = d := by
  unfold bare
  rw [if_pos (by simp [Lib.hasPrefix])]
  rfl
theorem bare_pos {c : UInt8} {r : List UInt8} (h : c.toNat ≠ 45) : bare (c :: r) = c :: r := by
  unfold bare
  rw [if_neg]
  intro hh
  have : (45 : UInt8) = c := by simpa [Lib.hasPrefix] using hh
  subst this
  exact h rfl
theorem take_all {d : List UInt8} (h : ¬ 19 < d.length) : d.take 19 = d := List.take_of_length_le (by omega)
theorem parse_all {d : List UInt8} (hd : ∀ b ∈ d, isDig (b.toNat : Int) = true) (hne : d ≠ []) (h : ¬ 19 < d.length) : Lib.parseUintB 64 d = .ok (digV 0 d) := by
  unfold Lib.parseUintB
  rw [if_neg hne]
  exact parse_dig d 0 0 hd (by omega) (by omega)

theorem numS_pos (c : UInt8) (r : List UInt8) (hd : ∀ b ∈ c :: r, isDig (b.toNat : Int) = true) :
    numS (c :: r) = if numBad false (c :: r).length (digV 0 ((c :: r).take 19)) c.toNat then none else some ((digV 0 ((c :: r).take 19) : Nat) : Int) := by
  have hc := dig_range (hd c (by simp))
  have hb := bare_pos (c := c) (r := r) (by omega)
  by_cases h19 : 19 < (c :: r).length
  · rw [numS_long (by rw [hb]; exact h19), if_pos (.inl h19)]
  · rw [take_all h19]
    have hp : Lib.parseIntB 64 (c :: r) = if 9223372036854775808 ≤ digV 0 (c :: r) then .range else .ok ((digV 0 (c :: r) : Nat) : Int) := by
      unfold Lib.parseIntB
      simp only
      rw [if_neg (by omega), parse_all hd (by simp) h19]
      simp only
      by_cases hv : 9223372036854775808 ≤ digV 0 (c :: r)
      · rw [if_pos ⟨by omega, by omega⟩, if_pos hv]
      · rw [if_neg (by intro h; have := h.2; omega), if_neg (by intro h; omega), if_neg (by omega), if_neg hv]
    unfold numS
    rw [hp]
    by_cases hv : 9223372036854775808 ≤ digV 0 (c :: r)
    · rw [if_pos hv, if_pos (.inr (.inr (.inl ⟨rfl, hv⟩)))]
    · rw [if_neg hv]
      simp only
      rw [hb]
      have hiff : (19 < (c :: r).length ∨ ((c :: r).head?.map UInt8.toNat = some 48 ∧ c :: r ≠ [48])) ↔ numBad false (c :: r).length (digV 0 (c :: r)) c.toNat := by
        unfold numBad
        constructor
        · rintro (h | ⟨h1, h2⟩)
          · exact .inl h
          · have h48 : c.toNat = 48 := by simpa using h1
            refine .inr (.inl ⟨h48, .inl ?_⟩)
            cases r with
            | nil =>
              exfalso
              apply h2
              rw [show c = 48 from UInt8.toNat_inj.1 h48]
            | cons x y => simp
        · rintro (h | ⟨h1, h2 | h2⟩ | ⟨_, h2⟩ | ⟨h2, _⟩)
          · exact .inl h
          · refine .inr ⟨by simpa using h1, ?_⟩
            intro he
            rw [he] at h2
            simp at h2
          · cases h2
          · exact absurd h2 hv
          · cases h2
      by_cases hx : numBad false (c :: r).length (digV 0 (c :: r)) c.toNat
      · rw [if_pos hx, if_pos (hiff.2 hx)]
      · rw [if_neg hx, if_neg (fun h => hx (hiff.1 h))]
theorem numS_neg (c : UInt8) (r : List UInt8) (hd : ∀ b ∈ c :: r, isDig (b.toNat : Int) = true) :
    numS (45 :: c :: r) = if numBad true (c :: r).length (digV 0 ((c :: r).take 19)) c.toNat then none else some (-((digV 0 ((c :: r).take 19) : Nat) : Int)) := by
  have hc := dig_range (hd c (by simp))
  have hb := bare_neg (c :: r)
  by_cases h19 : 19 < (c :: r).length
  · rw [numS_long (by rw [hb]; exact h19), if_pos (.inl h19)]
  · rw [take_all h19]
    have h45 : (45 : UInt8).toNat = 45 := rfl
    have hp : Lib.parseIntB 64 (45 :: c :: r) = if 9223372036854775808 < digV 0 (c :: r) then .range else .ok (-((digV 0 (c :: r) : Nat) : Int)) := by
      unfold Lib.parseIntB
      simp only
      rw [if_pos (.inr h45), parse_all hd (by simp) h19]
      simp only
      by_cases hv : 9223372036854775808 < digV 0 (c :: r)
      · rw [if_neg (by intro h; exact h.1 h45), if_pos ⟨h45, by omega⟩, if_pos hv]
      · rw [if_neg (by intro h; exact h.1 h45), if_neg (by intro h; have := h.2; omega), if_pos h45, if_neg hv]
    unfold numS
    rw [hp]
    by_cases hv : 9223372036854775808 < digV 0 (c :: r)
    · rw [if_pos hv, if_pos (.inr (.inr (.inr ⟨rfl, hv⟩)))]
    · rw [if_neg hv]
      simp only
      rw [hb]
      have hiff : (19 < (c :: r).length ∨ ((c :: r).head?.map UInt8.toNat = some 48 ∧ 45 :: c :: r ≠ [48])) ↔ numBad true (c :: r).length (digV 0 (c :: r)) c.toNat := by
        unfold numBad
        constructor
        · rintro (h | ⟨h1, h2⟩)
          · exact .inl h
          · exact .inr (.inl ⟨by simpa using h1, .inr rfl⟩)
        · rintro (h | ⟨h1, _⟩ | ⟨h2, _⟩ | ⟨_, h2⟩)
          · exact .inl h
          · exact .inr ⟨by simpa using h1, by simp⟩
          · cases h2
          · exact absurd h2 hv
      by_cases hx : numBad true (c :: r).length (digV 0 (c :: r)) c.toNat
      · rw [if_pos hx, if_pos (hiff.2 hx)]
      · rw [if_neg hx, if_neg (fun h => hx (hiff.1 h))]

/-- a number at the beginning of a text: its value, how many bytes, the error -/
def numP (l : List UInt8) : Int × Nat × Int :=
  match l with
  | [] => (0, 0, 14)
  | b :: t => if numLen (b :: t) = 1 ∧ b.toNat = 45 then (0, 0, 14) else match numS ((b :: t).take (numLen (b :: t))) with
    | none => (0, 0, 12)
    | some v => (v, numLen (b :: t), 0)
/-- .. as the digits tell it -/
theorem numP_neg {b : UInt8} {t : List UInt8} (hb : b.toNat = 45) (c : UInt8) (r : List UInt8) (ht : t = c :: r) (hc : isDig (c.toNat : Int) = true) (D V : Nat) (hD : runS isDig t = D) (hV : digV 0 ((t.take D).take 19) = V) :
    numP (b :: t) = if numBad true D V c.toNat then (0, 0, 12) else (-(V : Int), 1 + D, 0) := by
  have hb2 : b = 45 := UInt8.toNat_inj.1 hb
  have hn : numLen (b :: t) = 1 + D := by simp only [numLen]; rw [if_pos hb, hD]
  have h1 : 1 ≤ D := by rw [← hD, ht]; simp only [runS]; rw [if_pos hc]; omega
  obtain ⟨q, hq⟩ : ∃ q, D = q + 1 := ⟨D - 1, by omega⟩
  have hlen : (t.take D).length = D := by rw [List.length_take]; have := runS_le isDig t; omega
  have hall := runS_take isDig t
  rw [hD] at hall
  have htk : t.take D = c :: r.take q := by rw [ht, hq, List.take_succ_cons]
  unfold numP
  simp only
  rw [if_neg (by rw [hn]; omega), hn, Nat.add_comm 1 D, List.take_succ_cons, htk, hb2, numS_neg _ _ (by rw [← htk]; exact hall), ← htk, hV, hlen]
  by_cases hx : numBad true D V c.toNat
  · rw [if_pos hx, if_pos hx]
  · rw [if_neg hx, if_neg hx]
theorem numP_pos {b : UInt8} {t : List UInt8} (hb : isDig (b.toNat : Int) = true) (D V : Nat) (hD : runS isDig (b :: t) = D) (hV : digV 0 (((b :: t).take D).take 19) = V) :
    numP (b :: t) = if numBad false D V b.toNat then (0, 0, 12) else ((V : Int), D, 0) := by
  have hr := dig_range hb
  have hn : numLen (b :: t) = D := by simp only [numLen]; rw [if_neg (by omega), hD]
  have h1 : 1 ≤ D := by rw [← hD]; simp only [runS]; rw [if_pos hb]; omega
  obtain ⟨q, hq⟩ : ∃ q, D = q + 1 := ⟨D - 1, by omega⟩
  have hlen : ((b :: t).take D).length = D := by rw [List.length_take]; have := runS_le isDig (b :: t); omega
  have hall := runS_take isDig (b :: t)
  rw [hD] at hall
  have htk : (b :: t).take D = b :: t.take q := by rw [hq, List.take_succ_cons]
  unfold numP
  simp only
  rw [if_neg (by omega), hn, htk, numS_pos _ _ (by rw [← htk]; exact hall), ← htk, hV, hlen]
  by_cases hx : numBad false D V b.toNat
  · rw [if_pos hx, if_pos hx]
  · rw [if_neg hx, if_neg hx]
theorem numP_none {b : UInt8} {t : List UInt8} (hb : b.toNat = 45) (h : runS isDig t = 0) : numP (b :: t) = (0, 0, 14) := by
  have hn : numLen (b :: t) = 1 := by simp only [numLen]; rw [if_pos hb, h]
  unfold numP
  simp only
  rw [if_pos ⟨hn, hb⟩]
end Go.Proofs.YthogialdoikanaaDoor
