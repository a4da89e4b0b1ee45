/- what the walk of Lex leans on. -/
import Derived.Test.YthogialdoikanaaDoorW8
import Derived.Test.YthogialdoikanaaDoorC
namespace Go.Proofs.YthogialdoikanaaDoor
open Go.RowKit

theorem frame149 (F : Array Value) (h : F.size = 149) : ∃ u : Nat → Value, (∀ i, i < 149 → u i = F.getD i undef) ∧ F = #[u 0, u 1, u 2, u 3, u 4, u 5, u 6, u 7, u 8, u 9, u 10, u 11, u 12, u 13, u 14, u 15, u 16, u 17, u 18, u 19, u 20, u 21, u 22, u 23, u 24, u 25, u 26, u 27, u 28, u 29, u 30, u 31, u 32, u 33, u 34, u 35, u 36, u 37, u 38, u 39, u 40, u 41, u 42, u 43, u 44, u 45, u 46, u 47, u 48, u 49, u 50, u 51, u 52, u 53, u 54, u 55, u 56, u 57, u 58, u 59, u 60, u 61, u 62, u 63, u 64, u 65, u 66, u 67, u 68, u 69, u 70, u 71, u 72, u 73, u 74, u 75, u 76, u 77, u 78, u 79, u 80, u 81, u 82, u 83, u 84, u 85, u 86, u 87, u 88, u 89, u 90, u 91, u 92, u 93, u 94, u 95, u 96, u 97, u 98, u 99, u 100, u 101, u 102, u 103, u 104, u 105, u 106, u 107, u 108, u 109, u 110, u 111, u 112, u 113, u 114, u 115, u 116, u 117, u 118, u 119, u 120, u 121, u 122, u 123, u 124, u 125, u 126, u 127, u 128, u 129, u 130, u 131, u 132, u 133, u 134, u 135, u 136, u 137, u 138, u 139, u 140, u 141, u 142, u 143, u 144, u 145, u 146, u 147, u 148] := frame_open 149 F h

theorem tok_info : (Tryd.prog.info? 29).map (fun i => (i.zero, i.size, i.bytes)) = some (some (.agg #[.int .i64 0, .string ⟨#[]⟩, .int .i64 0, .int .i64 0]), 4, 40) := by kernel_rfl

/-- a token's four cells -/
def tokC (t : Tok) : List Value := [.int .i64 t.k, .string ⟨t.s.toArray⟩, .int .i64 t.n, .int .i64 t.p]
def toksC (l : List Tok) : List Value := l.flatMap tokC
theorem toksC_length (l : List Tok) : (toksC l).length = l.length * 4 := by
  induction l with
  | nil => rfl
  | cons t l ih => simp only [toksC, List.flatMap_cons, List.length_append, List.length_cons] at *; rw [ih]; simp [tokC]; omega
theorem toksC_append (l m : List Tok) : toksC (l ++ m) = toksC l ++ toksC m := by simp [toksC, List.flatMap_append]
theorem toksC_one (t : Tok) : toksC [t] = tokC t := by simp [toksC]

/-- a row of tokens of the call's own -/
def OwnToks (w : World) (B : Nat) (v : Value) (l : List Tok) : Prop := w.ownsRow B 29 4 v l.length (toksC l)
theorem OwnToks.nil_ (w : World) (B : Nat) : OwnToks w B (.slice none 0 0) [] := ⟨by simp [toksC], .inl ⟨rfl, rfl⟩⟩

/-- where a byte stands among the blanks; below 0: it is none -/
def blankAt (b : UInt8) : Int := Lib.indexByte [32, 9, 10, 13] ((b.toNat : Int)).toNat.toUInt8
set_option maxRecDepth 100000 in
theorem blank_tab : ∀ x : Fin 256, (isBlank x.val = true ∧ 0 ≤ Lib.indexByte [32, 9, 10, 13] ((x.val : Int)).toNat.toUInt8) ∨ (isBlank x.val = false ∧ Lib.indexByte [32, 9, 10, 13] ((x.val : Int)).toNat.toUInt8 < 0) := by decide +kernel
theorem blank_cases (b : UInt8) : (isBlank b.toNat = true ∧ 0 ≤ blankAt b) ∨ (isBlank b.toNat = false ∧ blankAt b < 0) := blank_tab ⟨b.toNat, b.toNat_lt⟩
theorem blank_any (b : UInt8) (w : World) : Calls Tryd.prog 16 #[.string ⟨#[32, 9, 10, 13]⟩, .int .u8 (b.toNat : Int)] w fun e w' => e = .returned (.int .i64 (blankAt b)) ∧ w = w' :=
  (Tryd.strings_IndexByte _ _ _).mono fun _ _ ⟨h1, h2⟩ => ⟨h1, h2.symm⟩

def LJ (s : ByteArray) (w : World) (a : Act) (wr : World) : Prop :=
  ∃ (pos : Nat) (acc : List Tok) (v : Value) (g : Bool), a.defers = [] ∧ a.tmps.size = 149 ∧ a.tmps.getD 0 undef = .string s ∧ a.tmps.getD 2 undef = v ∧ a.tmps.getD 3 undef = .int .i64 pos ∧ a.tmps.getD 9 undef = .bool g ∧
    pos ≤ s.size ∧ acc.length ≤ pos ∧ OwnToks wr w.heap.size v acc ∧ Below w.heap.size w wr ∧ lexGo ⟨s.data.toList.drop pos, pos, acc, g⟩ = lexGo ⟨s.data.toList, 0, [], false⟩

def LexPost (s : ByteArray) (w : World) (e : Ending) (w' : World) : Prop :=
  ∃ v, e = .returned (.tuple #[v, .int .i64 (lexS s.data.toList).2.1, .int .i64 (lexS s.data.toList).2.2]) ∧ OwnToks w' w.heap.size v (lexS s.data.toList).1 ∧ Below w.heap.size w w'
end Go.Proofs.YthogialdoikanaaDoor
