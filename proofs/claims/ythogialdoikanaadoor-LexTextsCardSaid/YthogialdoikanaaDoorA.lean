/- The plain functions that the lexer and its answer compute, on lists of bytes. No program in sight. -/
import Derived.Lib.ParseIntB
import Derived.Lib.RuneBytes
import Derived.Lib.Strings
import GoSem.Core.Utf8
namespace Go.Proofs.YthogialdoikanaaDoor

/-- a letter, a digit: by the number -/
def isLet (c : Int) : Bool := decide ((97 ≤ c ∧ c ≤ 122) ∨ (65 ≤ c ∧ c ≤ 90) ∨ c = 95)
def isDig (c : Int) : Bool := decide (48 ≤ c ∧ c ≤ 57)
def isAln (c : Int) : Bool := isLet c || isDig c

/-- how many bytes at the beginning are such -/
def runS (p : Int → Bool) : List UInt8 → Nat
  | [] => 0
  | b :: r => if p (b.toNat : Int) then runS p r + 1 else 0

theorem runS_le (p : Int → Bool) : ∀ l : List UInt8, runS p l ≤ l.length
  | [] => Nat.le_refl _
  | b :: r => by
    simp only [runS]
    split
    · have := runS_le p r; simp; omega
    · omega

/-- at a place up to which all are such -/
theorem runS_split (p : Int → Bool) : ∀ (l : List UInt8) (k : Nat), k ≤ runS p l → runS p l = k + runS p (l.drop k)
  | l, 0, _ => by simp
  | [], k + 1, h => by simp [runS] at h
  | b :: r, k + 1, h => by
    simp only [runS] at h ⊢
    split at h
    · rename_i hb
      rw [if_pos hb, runS_split p r k (by omega)]
      simp; omega
    · omega

/-- the signs, the longest first -/
def signs : List (List UInt8) := [[33, 61], [60, 61], [62, 61], [123], [125], [91], [93], [40], [41], [44], [58], [46], [61], [60], [62]]
def signS (l : List UInt8) : List UInt8 := (signs.find? fun x => x.isPrefixOf l).getD []

/-- how many bytes a quoted text has -/
def quotS : Bool → List UInt8 → Nat
  | _, [] => 0
  | t, b :: r => if b.toNat = 34 ∧ t = false then 1 else quotS (decide (b.toNat = 92 ∧ t = false)) r + 1

def isWordS (l : List UInt8) : Bool :=
  match l with
  | [] => false
  | b :: _ => !isDig (b.toNat : Int) && decide (runS isAln l = l.length)

/-- behind a minus, if one stands there -/
def bare (l : List UInt8) : List UInt8 := if Lib.hasPrefix l [45] then l.drop 1 else l
/-- the number of digits, with or without a minus; none: it may not be -/
def numS (l : List UInt8) : Option Int :=
  match Lib.parseIntB 64 l with
  | .ok v => if 19 < (bare l).length ∨ ((bare l).head?.map UInt8.toNat = some 48 ∧ l ≠ [48]) then none else some v
  | _ => none
def numV (l : List UInt8) : Int := (numS l).getD 0
def numE (l : List UInt8) : Int := if (numS l).isSome then 0 else 12

/-- the letter behind a backslash -/
def longS (c : Nat) : Option Nat :=
  if c = 34 ∨ c = 92 ∨ c = 47 then some c else if c = 98 then some 8 else if c = 102 then some 12 else if c = 110 then some 10 else if c = 114 then some 13 else if c = 116 then some 9 else none
/-- a digit by base 16 -/
def hexV (c : Nat) : Option Nat := if 48 ≤ c ∧ c ≤ 57 then some (c - 48) else if 65 ≤ c ∧ c ≤ 70 then some (c - 55) else if 97 ≤ c ∧ c ≤ 102 then some (c - 87) else none
/-- so many digits more -/
def fourF : Nat → Nat → List UInt8 → Option Nat
  | 0, n, _ => some n
  | _ + 1, _, [] => none
  | k + 1, n, b :: r => match hexV b.toNat with
    | none => none
    | some d => fourF k (n * 16 + d) r
def fourS (l : List UInt8) : Option Nat := fourF 4 0 l

theorem hexV_lt {c d : Nat} (h : hexV c = some d) : d < 16 := by
  unfold hexV at h
  repeat' split at h
  all_goals first | (injection h with h; omega) | cases h

theorem fourF_short : ∀ (k n : Nat) (l : List UInt8), l.length < k → fourF k n l = none
  | 0, _, _, h => by omega
  | _ + 1, _, [], _ => rfl
  | k + 1, n, b :: r, h => by
    simp only [fourF]
    split
    · rfl
    · exact fourF_short k _ r (by simpa using h)

theorem fourF_lt : ∀ (k n : Nat) (l : List UInt8) (m : Nat), fourF k n l = some m → m < (n + 1) * 16 ^ k
  | 0, n, _, m, h => by simp only [fourF] at h; injection h with h; simp; omega
  | _ + 1, _, [], _, h => by cases h
  | k + 1, n, b :: r, m, h => by
    simp only [fourF] at h
    split at h
    · cases h
    · rename_i d hd
      have h1 := fourF_lt k _ r m h
      have h2 := hexV_lt hd
      have h3 : (n * 16 + d + 1) * 16 ^ k ≤ ((n + 1) * 16) * 16 ^ k := Nat.mul_le_mul_right _ (by omega)
      rw [Nat.pow_succ, Nat.mul_comm (16 ^ k) 16, ← Nat.mul_assoc]
      omega
theorem fourS_lt {l : List UInt8} {m : Nat} (h : fourS l = some m) : m < 65536 := by
  have := fourF_lt 4 0 l m h
  simpa using this

/-! ### a machine that goes on step by step, each lower than the one before -/
section
variable {σ ρ : Type}
def goF (z : ρ) (step : σ → ρ ⊕ σ) : Nat → σ → ρ
  | 0, _ => z
  | n + 1, x => match step x with
    | .inl r => r
    | .inr y => goF z step n y
def go (z : ρ) (step : σ → ρ ⊕ σ) (m : σ → Nat) (x : σ) : ρ := goF z step (m x + 1) x
theorem goF_enough {z : ρ} {step : σ → ρ ⊕ σ} {m : σ → Nat} (h : ∀ x y, step x = .inr y → m y < m x) : ∀ (n : Nat) (x : σ), m x < n → goF z step n x = go z step m x := by
  have key : ∀ (n k : Nat) (x : σ), m x < n → m x < k → goF z step n x = goF z step k x := by
    intro n
    induction n with
    | zero => intro k x h1; omega
    | succ n ih =>
      intro k x h1 h2
      cases k with
      | zero => omega
      | succ k =>
        simp only [goF]
        cases hs : step x with
        | inl r => rfl
        | inr y =>
          have := h x y hs
          exact ih k y (by omega) (by omega)
  intro n x hn
  exact key n (m x + 1) x hn (by omega)
theorem go_eq {z : ρ} {step : σ → ρ ⊕ σ} {m : σ → Nat} (h : ∀ x y, step x = .inr y → m y < m x) (x : σ) : go z step m x = match step x with
    | .inl r => r
    | .inr y => go z step m y := by
  unfold go
  rw [goF]
  cases hs : step x with
  | inl r => rfl
  | inr y =>
    have := h x y hs
    exact goF_enough h _ y (by omega)
theorem go_inl {z : ρ} {step : σ → ρ ⊕ σ} {m : σ → Nat} (h : ∀ x y, step x = .inr y → m y < m x) {x : σ} {r : ρ} (hs : step x = .inl r) : go z step m x = r := by rw [go_eq h, hs]
theorem go_inr {z : ρ} {step : σ → ρ ⊕ σ} {m : σ → Nat} (h : ∀ x y, step x = .inr y → m y < m x) {x y : σ} (hs : step x = .inr y) : go z step m x = go z step m y := by rw [go_eq h, hs]
end

/-! ### a quoted text's own text -/
def decL (l : List UInt8) : Nat × Nat := Utf8.decode ⟨l.toArray⟩ 0

/-- behind backslash and u: the bytes from there on, what there is of the text -/
def unqU (v acc : List UInt8) : (Int × List UInt8) ⊕ (List UInt8 × List UInt8) :=
  match fourS v with
  | none => .inl (4, [])
  | some x =>
    if 55296 ≤ x ∧ x < 57344 then
      if 56320 ≤ x ∨ Lib.hasPrefix (v.drop 4) [92, 117] = false then .inl (11, [])
      else match fourS (v.drop 6) with
        | none => .inl (11, [])
        | some y => if y < 56320 ∨ 57344 ≤ y then .inl (11, []) else .inr (v.drop 10, acc ++ Lib.encodeRune (65536 + ((x : Int) - 55296) * 1024 + ((y : Int) - 56320)))
    else .inr (v.drop 4, acc ++ Lib.encodeRune x)

/-- behind a backslash -/
def unqB (t acc : List UInt8) : (Int × List UInt8) ⊕ (List UInt8 × List UInt8) :=
  match t with
  | [] => .inl (4, [])
  | c :: v => if c.toNat = 117 then unqU v acc else match longS c.toNat with
    | none => .inl (4, [])
    | some d => .inr (v, acc ++ [d.toUInt8])

def unqStep (x : List UInt8 × List UInt8) : (Int × List UInt8) ⊕ (List UInt8 × List UInt8) :=
  match x.1 with
  | [] => .inl (4, [])
  | b :: t =>
    if b.toNat = 34 then (if t = [] then .inl (0, x.2) else .inl (4, []))
    else if b.toNat = 92 then unqB t x.2
    else if b.toNat < 32 then .inl (4, [])
    else if (decL (b :: t)).1 = 65533 ∧ (decL (b :: t)).2 = 1 then .inl (11, [])
    else .inr ((b :: t).drop (max 1 (decL (b :: t)).2), x.2 ++ (b :: t).take (max 1 (decL (b :: t)).2))

theorem unqU_low {v acc r a : List UInt8} (h : unqU v acc = .inr (r, a)) : r.length ≤ v.length := by
  unfold unqU at h
  split at h
  · cases h
  · split at h
    · split at h
      · cases h
      · split at h
        · cases h
        · split at h
          · cases h
          · injection h with h; injection h with h _; rw [← h]; simp
    · injection h with h; injection h with h _; rw [← h]; simp
theorem unqB_low {t acc r a : List UInt8} (h : unqB t acc = .inr (r, a)) : r.length ≤ t.length := by
  unfold unqB at h
  split at h
  · cases h
  · split at h
    · have := unqU_low h; simp; omega
    · split at h
      · cases h
      · injection h with h; injection h with h _; rw [← h]; simp
theorem unqStep_low : ∀ x y, unqStep x = .inr y → y.1.length < x.1.length := by
  rintro ⟨r, a⟩ ⟨r', a'⟩ h
  unfold unqStep at h
  cases r with
  | nil => cases h
  | cons b t =>
    simp only at h
    split at h
    · split at h <;> cases h
    · split at h
      · have := unqB_low h; simp; omega
      · split at h
        · cases h
        · split at h
          · cases h
          · injection h with h; injection h with h _; rw [← h]; simp; omega

/-- from a place within on; what there is -/
def unq (r acc : List UInt8) : Int × List UInt8 := go (0, []) unqStep (fun x => x.1.length) (r, acc)
theorem unq_inl {r acc : List UInt8} {x : Int × List UInt8} (h : unqStep (r, acc) = .inl x) : unq r acc = x := go_inl unqStep_low h
theorem unq_inr {r acc r' acc' : List UInt8} (h : unqStep (r, acc) = .inr (r', acc')) : unq r acc = unq r' acc' := go_inr unqStep_low h

theorem unqStep_quote {b : UInt8} {t acc : List UInt8} (hb : b.toNat = 34) : unqStep (b :: t, acc) = if t = [] then .inl (0, acc) else .inl (4, []) := by
  simp [unqStep, hb]
theorem unqStep_back {b : UInt8} {t acc : List UInt8} (hb : b.toNat = 92) : unqStep (b :: t, acc) = unqB t acc := by simp [unqStep, hb]
theorem unqStep_small {b : UInt8} {t acc : List UInt8} (h1 : b.toNat ≠ 34) (h2 : b.toNat ≠ 92) (h3 : b.toNat < 32) : unqStep (b :: t, acc) = .inl (4, []) := by
  simp only [unqStep]; rw [if_neg h1, if_neg h2, if_pos h3]
theorem unqStep_other {b : UInt8} {t acc : List UInt8} (h1 : b.toNat ≠ 34) (h2 : b.toNat ≠ 92) (h3 : ¬ b.toNat < 32) :
    unqStep (b :: t, acc) = if (decL (b :: t)).1 = 65533 ∧ (decL (b :: t)).2 = 1 then .inl (11, []) else .inr ((b :: t).drop (max 1 (decL (b :: t)).2), acc ++ (b :: t).take (max 1 (decL (b :: t)).2)) := by
  simp only [unqStep]; rw [if_neg h1, if_neg h2, if_neg h3]

/-- Unquote -/
def unquoteS (l : List UInt8) : Int × List UInt8 :=
  match l with
  | [] => (4, [])
  | b :: t => if b.toNat = 34 then unq t [] else (4, [])

end Go.Proofs.YthogialdoikanaaDoor
