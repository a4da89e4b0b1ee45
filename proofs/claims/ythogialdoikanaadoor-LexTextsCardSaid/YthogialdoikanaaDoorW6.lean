/- what the walk of Unquote leans on. -/
import Derived.Test.YthogialdoikanaaDoorW4
import Derived.Test.YthogialdoikanaaDoorW5
import Derived.OwnWalk
import Derived.Lib.AppendStr
import Derived.Laws.IdiomStrings
import Derived.Deep.Draws
namespace Go.Proofs.YthogialdoikanaaDoor
open Go.RowKit

theorem frame154 (F : Array Value) (h : F.size = 154) : ∃ u : Nat → Value, (∀ i, i < 154 → u i = F.getD i undef) ∧ F = #[u 0, u 1, u 2, u 3, u 4, u 5, u 6, u 7, u 8, u 9, u 10, u 11, u 12, u 13, u 14, u 15, u 16, u 17, u 18, u 19, u 20, u 21, u 22, u 23, u 24, u 25, u 26, u 27, u 28, u 29, u 30, u 31, u 32, u 33, u 34, u 35, u 36, u 37, u 38, u 39, u 40, u 41, u 42, u 43, u 44, u 45, u 46, u 47, u 48, u 49, u 50, u 51, u 52, u 53, u 54, u 55, u 56, u 57, u 58, u 59, u 60, u 61, u 62, u 63, u 64, u 65, u 66, u 67, u 68, u 69, u 70, u 71, u 72, u 73, u 74, u 75, u 76, u 77, u 78, u 79, u 80, u 81, u 82, u 83, u 84, u 85, u 86, u 87, u 88, u 89, u 90, u 91, u 92, u 93, u 94, u 95, u 96, u 97, u 98, u 99, u 100, u 101, u 102, u 103, u 104, u 105, u 106, u 107, u 108, u 109, u 110, u 111, u 112, u 113, u 114, u 115, u 116, u 117, u 118, u 119, u 120, u 121, u 122, u 123, u 124, u 125, u 126, u 127, u 128, u 129, u 130, u 131, u 132, u 133, u 134, u 135, u 136, u 137, u 138, u 139, u 140, u 141, u 142, u 143, u 144, u 145, u 146, u 147, u 148, u 149, u 150, u 151, u 152, u 153] := frame_open 154 F h

theorem byte_info : (Tryd.prog.info? 5).map (fun i => (i.zero, i.size, i.bytes)) = some (some (.int .u8 0), 1, 1) := by kernel_rfl

/-- a row of bytes of the call's own, as a text -/
theorem own_string {w : World} {base : Nat} {v : Value} {l : List UInt8} (h : w.ownsRow base 5 1 v l.length (Lib.byteCells l)) : (convert 39 9 v).run Tryd.prog w = .ok (.string ⟨l.toArray⟩) w := by
  rcases h.2 with ⟨rfl, hn⟩ | ⟨g, cap, cur, rfl, hb, hh, hc, hm, hs, ht⟩
  · have : l = [] := List.eq_nil_of_length_eq_zero hn
    subst this
    rw [run_convert_bytes_string w 39 9 5 none 0 0 Tryd.underlying39 Tryd.underlying5 Tryd.underlying9]
    rfl
  · refine run_convert_bytes_back w 39 9 5 ⟨g, 0, none⟩ cap l Tryd.underlying39 Tryd.underlying5 Tryd.underlying9 fun j hj => ?_
    refine h.cells (g := g) rfl j _ ?_
    simp [Lib.byteCells, hj]

/-- an owned row behind a call that left all as it was -/
theorem own_below {w w' : World} {base : Nat} {e : TypeId} {size : Nat} {v : Value} {n : Nat} {xs : List Value} (h : w.ownsRow base e size v n xs) (hb : Below w.heap.size w w') : w'.ownsRow base e size v n xs := by
  obtain ⟨h1, h2⟩ := h
  refine ⟨h1, ?_⟩
  rcases h2 with h2 | ⟨g, cap, cur, a, b, c, d⟩
  · exact .inl h2
  · have hlt : g < w.heap.size := by
      rcases Nat.lt_or_ge g w.heap.size with h | h
      · exact h
      · rw [Array.getElem?_eq_none h] at c; cases c
    exact .inr ⟨g, cap, cur, a, b, (hb.block g hlt).trans c, d⟩

/-- what an append to a row of the call's own leaves -/
theorem below_own {B : Nat} {a w w' : World} {base : Nat} {e : TypeId} {size : Nat} {v : Value} {n : Nat} {xs : List Value} (h : Below B a w) (hown : w.ownsRow base e size v n xs) (hg : w.grownBy w' v.ownBlock) (hB : B ≤ base) (hw : B ≤ w.heap.size) : Below B a w' :=
  h.grown hg hw fun k hk => Nat.le_trans hB (hown.lt k hk).1

/-- the cells of a block just laid -/
theorem news_new (w : World) (L : List Value) (T : TypeId) : ∀ j u, L[j]? = some u → (w.alloc (.cells L.toArray T)).cell? ((⟨w.heap.size, 0, none⟩ : Addr).add j) = some u := by
  intro j u hj
  have e : ((⟨w.heap.size, 0, none⟩ : Addr).add j) = ⟨w.heap.size, j, none⟩ := by
    unfold Addr.add
    split
    · rename_i h; rw [h]
    · simp
  rw [e, World.cell?_alloc_new]
  simpa using hj

theorem decode_any (s : ByteArray) (k : Nat) (hk : k < s.size) (w : World) (hT : Tabs w) :
    Calls Tryd.prog 41 #[.string (s.extract k s.size)] w fun e w' => e = .returned (.tuple #[.int .i32 (decL (s.data.toList.drop k)).1, .int .i64 (decL (s.data.toList.drop k)).2]) ∧ Below w.heap.size w w' := by
  have h := decodeGo_at s k hk
  have h2 : Lib.decodeGo (s.extract k s.size) = decL (s.data.toList.drop k) := h
  rw [← h2]
  exact Tryd.utf8_DecodeRuneInString _ w hT.u8

theorem four_at (s : ByteArray) (k : Nat) (w : World) : Calls Tryd.prog 43 #[.string (s.extract k s.size)] w fun e w' => e = .returned (.tuple #[.int .i32 (fourV (s.data.toList.drop k)), .bool (fourB (s.data.toList.drop k))]) ∧ w = w' := by
  have h := four_any (s.extract k s.size) w
  rw [Lib.extract_to_end] at h
  exact h

theorem prefix_at (s p : ByteArray) (k : Nat) (w : World) : Calls Tryd.prog 38 #[.string (s.extract k s.size), .string p] w fun e w' => e = .returned (.bool (Lib.hasPrefix (s.data.toList.drop k) p.data.toList)) ∧ w = w' := by
  have h := Tryd.strings_HasPrefix (s.extract k s.size) p w
  rw [Lib.extract_to_end] at h
  exact h.mono fun _ _ ⟨a, b⟩ => ⟨a, b.symm⟩

/-- AppendRune onto a row of bytes -/
theorem rune_any (w : World) (B : Nat) (v : Value) (acc : List UInt8) (r : Int) (h0 : 0 ≤ r) (h1 : r ≤ 1114111) (hown : w.ownsRow B 5 1 v acc.length (Lib.byteCells acc)) (hlen : acc.length ≤ 1099511627776) (hB : B ≤ w.heap.size) :
    Calls Tryd.prog 44 #[v, .int .i32 r] w fun e w' => ∃ v', e = .returned v' ∧ w'.ownsRow B 5 1 v' (acc ++ Lib.encodeRune r).length (Lib.byteCells (acc ++ Lib.encodeRune r)) ∧ Below B w w' := by
  refine (Tryd.utf8_AppendRune_plain B v acc.length (Lib.byteCells acc) r (by omega) (by omega) w hown (by omega) hB).mono ?_
  rintro e w' ⟨v', rfl, h, o, hg⟩
  refine ⟨v', rfl, ?_, ?_⟩
  · rw [Lib.byteCells_append, Lib.byteCells_encodeRune, List.length_append]
    have : (Lib.encodeRune r).length = (Lib.runeCells r).length := by simp [Lib.encodeRune, Lib.runeCells]
    rw [this]
    exact h
  · exact below_own ((Below.refl B w).alloc hB o) (hown.alloc o) hg (Nat.le_refl _) (by simp; omega)

end Go.Proofs.YthogialdoikanaaDoor
