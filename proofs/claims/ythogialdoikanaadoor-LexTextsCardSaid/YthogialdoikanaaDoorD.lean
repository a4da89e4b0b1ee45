/- What the printer computes, on lists of bytes. No program in sight. -/
import Derived.Test.YthogialdoikanaaDoorC
import Derived.Lib.ItoaNum
import Derived.Lib.Join
import Derived.Lib.ValidU
namespace Go.Proofs.YthogialdoikanaaDoor

def hexD (n : Nat) : UInt8 := [48, 49, 50, 51, 52, 53, 54, 55, 56, 57, 97, 98, 99, 100, 101, 102].getD n 48
/-- the letter that stands behind a backslash for such a one; 0: there is none -/
def shortS (c : Nat) : Nat := if c = 34 ∨ c = 92 then c else if c = 8 then 98 else if c = 12 then 102 else if c = 10 then 110 else if c = 13 then 114 else if c = 9 then 116 else 0
/-- a byte within a quoted text -/
def escB (b : UInt8) : List UInt8 :=
  if shortS b.toNat ≠ 0 then [92, (shortS b.toNat).toUInt8]
  else if b.toNat < 32 ∨ b.toNat = 127 then [92, 117, 48, 48, hexD (b.toNat / 16), hexD (b.toNat % 16)]
  else [b]
def escS (l : List UInt8) : List UInt8 := l.flatMap escB
/-- Quote -/
def quoteS (l : List UInt8) : Int × List UInt8 := if Lib.validD l then (0, 34 :: (escS l ++ [34])) else (11, [])

/-- a token's text -/
def textS (t : Tok) : Int × List UInt8 :=
  if t.k = 1 ∧ t.n = 0 ∧ isWordS t.s = true then (0, t.s)
  else if t.k = 4 ∧ t.n = 0 ∧ t.s ≠ [] ∧ signS t.s = t.s then (0, t.s)
  else if t.k = 2 ∧ t.s = [] then (0, Lib.itoa t.n)
  else if t.k = 3 ∧ t.n = 0 then quoteS t.s
  else (1, [])

/-- the words to the first End; else the first error -/
def wordsS : List Tok → Int × List (List UInt8)
  | [] => (0, [])
  | t :: r => if t.k = 0 then (0, []) else if (textS t).1 ≠ 0 then ((textS t).1, []) else if (wordsS r).1 ≠ 0 then ((wordsS r).1, []) else (0, (textS t).2 :: (wordsS r).2)
/-- Print -/
def printS (l : List Tok) : Int × List UInt8 := if (wordsS l).1 ≠ 0 then ((wordsS l).1, []) else (0, Lib.join (wordsS l).2 [32])

end Go.Proofs.YthogialdoikanaaDoor
