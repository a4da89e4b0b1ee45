/- The lexer, on lists of bytes. No program in sight. -/
import Derived.Test.YthogialdoikanaaDoorA
namespace Go.Proofs.YthogialdoikanaaDoor

/-! ### the lexer -/
/-- a token: its kind, its text, its number, its place -/
structure Tok where
  k : Int
  s : List UInt8
  n : Int
  p : Int

def isBlank (c : Nat) : Bool := decide (c = 32 ∨ c = 9 ∨ c = 10 ∨ c = 13)

/-- how many bytes a number has -/
def numLen (l : List UInt8) : Nat :=
  match l with
  | [] => 0
  | b :: t => if b.toNat = 45 then 1 + runS isDig t else runS isDig (b :: t)

structure LexSt where
  r : List UInt8
  p : Nat
  acc : List Tok
  g : Bool
abbrev LexRes := List Tok × Nat × Int

def lexStep (x : LexSt) : LexRes ⊕ LexSt :=
  match x.r with
  | [] => .inl (x.acc ++ [⟨0, [], 0, x.p⟩], 0, 0)
  | b :: t =>
    if isBlank b.toNat then .inr ⟨t, x.p + 1, x.acc, false⟩
    else if isLet (b.toNat : Int) then
      if x.g then .inl ([], x.p, 14)
      else .inr ⟨(b :: t).drop (runS isAln (b :: t)), x.p + runS isAln (b :: t), x.acc ++ [⟨1, (b :: t).take (runS isAln (b :: t)), 0, x.p⟩], true⟩
    else if isDig (b.toNat : Int) || decide (b.toNat = 45) then
      if x.g || decide (numLen (b :: t) = 1 ∧ b.toNat = 45) then .inl ([], x.p, 14)
      else match numS ((b :: t).take (numLen (b :: t))) with
        | none => .inl ([], x.p, 12)
        | some v => .inr ⟨(b :: t).drop (numLen (b :: t)), x.p + numLen (b :: t), x.acc ++ [⟨2, [], v, x.p⟩], true⟩
    else if b.toNat = 34 then
      if (unquoteS ((b :: t).take (quotS true (b :: t)))).1 ≠ 0 then
        .inl ([], x.p, if (unquoteS ((b :: t).take (quotS true (b :: t)))).1 = 4 then 14 else (unquoteS ((b :: t).take (quotS true (b :: t)))).1)
      else .inr ⟨(b :: t).drop (quotS true (b :: t)), x.p + quotS true (b :: t), x.acc ++ [⟨3, (unquoteS ((b :: t).take (quotS true (b :: t)))).2, 0, x.p⟩], false⟩
    else if signS (b :: t) = [] then .inl ([], x.p, 14)
    else .inr ⟨(b :: t).drop (signS (b :: t)).length, x.p + (signS (b :: t)).length, x.acc ++ [⟨4, signS (b :: t), 0, x.p⟩], false⟩

theorem quotS_pos {b : UInt8} {t : List UInt8} {q : Bool} : 1 ≤ quotS q (b :: t) := by
  simp only [quotS]
  split <;> omega
theorem numLen_pos {b : UInt8} {t : List UInt8} (h : (isDig (b.toNat : Int) || decide (b.toNat = 45)) = true) : 1 ≤ numLen (b :: t) := by
  simp only [numLen]
  split
  · omega
  · rename_i h45
    have hd : isDig (b.toNat : Int) = true := by simpa [h45] using h
    simp only [runS, hd, if_true]; omega
theorem runS_pos {b : UInt8} {t : List UInt8} (h : isLet (b.toNat : Int) = true) : 1 ≤ runS isAln (b :: t) := by
  have : isAln (b.toNat : Int) = true := by unfold isAln; rw [h]; rfl
  simp only [runS, this, if_true]; omega

theorem lexStep_low : ∀ x y, lexStep x = .inr y → y.r.length < x.r.length := by
  rintro ⟨r, p, acc, g⟩ y h
  unfold lexStep at h
  cases r with
  | nil => cases h
  | cons b t =>
    simp only at h
    split at h
    · injection h with h; subst h; simp
    · split at h
      · rename_i hl
        split at h
        · cases h
        · injection h with h; subst h
          have := runS_pos (t := t) hl
          simp only [List.length_drop, List.length_cons]; omega
      · split at h
        · rename_i hd
          split at h
          · cases h
          · split at h
            · cases h
            · injection h with h; subst h
              have := numLen_pos (t := t) hd
              simp only [List.length_drop, List.length_cons]; omega
        · split at h
          · split at h
            · cases h
            · injection h with h; subst h
              have := quotS_pos (b := b) (t := t) (q := true)
              simp only [List.length_drop, List.length_cons]; omega
          · split at h
            · cases h
            · rename_i hs
              injection h with h; subst h
              have : 1 ≤ (signS (b :: t)).length := List.length_pos_iff.2 hs
              simp only [List.length_drop, List.length_cons]; omega

def lexGo (x : LexSt) : LexRes := go ([], 0, 0) lexStep (fun x => x.r.length) x
theorem lexGo_inl {x : LexSt} {y : LexRes} (h : lexStep x = .inl y) : lexGo x = y := go_inl lexStep_low h
theorem lexGo_inr {x y : LexSt} (h : lexStep x = .inr y) : lexGo x = lexGo y := go_inr lexStep_low h

/-- Lex -/
def lexS (l : List UInt8) : LexRes := if 8192 < l.length then ([], 0, 2) else lexGo ⟨l, 0, [], false⟩

end Go.Proofs.YthogialdoikanaaDoor
