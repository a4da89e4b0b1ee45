/- a slice of tokens that came in, as the walks want it; what the bound on the bulk gives. -/
import Derived.Test.YthogialdoikanaaDoorK3
import Derived.Test.YthogialdoikanaaDoorN4
import Derived.Test.YthogialdoikanaaDoorN1
import Derived.Deep.Slices
import Derived.Deep.Fields
import Derived.ChangeSame
namespace Go.Proofs.YthogialdoikanaaDoor
open Go.ChangeShapes Go.WideShapes Go.ChangeAt Go.RowKit Go.Deep

/-! ### the bound -/
section
variable {H : Type}
theorem bulk_one (d : DataW H) : 1 ≤ Rows.uptoBulk d := by
  cases d with
  | lit l => cases l <;> simp [Rows.uptoBulk]
  | _ => simp [Rows.uptoBulk]
theorem bulk_mem {d : DataW H} {l : List (DataW H)} (h : d ∈ l) : Rows.uptoBulk d ≤ Rows.uptoBulkAll l := by
  induction l with
  | nil => cases h
  | cons x r ih =>
    simp only [Rows.uptoBulkAll]
    rcases List.mem_cons.1 h with e | e
    · subst e; omega
    · have := ih e; omega
theorem bulk_len (l : List (DataW H)) : l.length ≤ Rows.uptoBulkAll l := by
  induction l with
  | nil => simp [Rows.uptoBulkAll]
  | cons x r ih => have := bulk_one x; simp only [Rows.uptoBulkAll, List.length_cons]; omega
end

/-- so many, each as one likes: a list of them -/
theorem list_of {P : Nat → Tok → Prop} : ∀ (n : Nat), (∀ i, i < n → ∃ t, P i t) → ∃ l : List Tok, l.length = n ∧ ∀ i (h : i < l.length), P i l[i]
  | 0, _ => ⟨[], rfl, fun i h => by simp at h⟩
  | n + 1, h => by
    obtain ⟨l, hl, hp⟩ := list_of n fun i hi => h i (by omega)
    obtain ⟨t, ht⟩ := h n (by omega)
    refine ⟨l ++ [t], by simp [hl], fun i hi => ?_⟩
    by_cases h1 : i < l.length
    · rw [List.getElem_append_left h1]; exact hp i h1
    · have : i = n := by simp at hi; omega
      subst this
      rw [List.getElem_append_right (by omega)]
      simpa [hl] using ht

/-- four cells are a token -/
def TokAt {H : Type} (W : World) (a : Addr) (D : Nat → DataW H) (i : Nat) (t : Tok) : Prop :=
  D i = .agg [.lit (.int .i64 t.k), .lit (.string t.s), .lit (.int .i64 t.n), .lit (.int .i64 t.p)] ∧ In64 t.n ∧ ∀ j u, (tokC t)[j]? = some u → W.cell? (a.add (i * 4 + j)) = some u
theorem cells29 : Tryd.prog.cellsOf 29 = 4 := by kernel_rfl
theorem cells3 : Tryd.prog.cellsOf 3 = 1 := by kernel_rfl
theorem cells9 : Tryd.prog.cellsOf 9 = 1 := by kernel_rfl
theorem cells2 : Tryd.prog.cellsOf 2 = 1 := by kernel_rfl
theorem has_of {W : World} {B : Nat} {a : Addr} {l : List Tok} (hB : l ≠ [] → a.block < B) (h : ∀ i (hi : i < l.length), ∀ j u, (tokC l[i])[j]? = some u → W.cell? (a.add (i * 4 + j)) = some u) : HasToks W B (some a) l := fun hne => by
  refine ⟨a, rfl, hB hne, fun j u hu => ?_⟩
  have hj : j < (toksC l).length := by
    rcases Nat.lt_or_ge j (toksC l).length with h1 | h1
    · exact h1
    · rw [List.getElem?_eq_none h1] at hu; cases hu
  rw [toksC_length] at hj
  have hi : j / 4 < l.length := by omega
  have h1 := toksC_at l (j / 4) l[j / 4] (List.getElem?_eq_getElem hi) (j % 4) (by omega)
  have e : j / 4 * 4 + j % 4 = j := by omega
  rw [e] at h1
  have h2 := h (j / 4) hi (j % 4) u (by rw [← h1]; exact hu)
  rw [e] at h2
  exact h2

section
variable {H : Type} {enc : TypeId × Value → H}
set_option maxRecDepth 100000 in
theorem tok_read {W : World} {base : Nat} {sp : Nat → Bool} {held : Bool} {n : Nat} {a : Addr} {i : Nat} {D : Nat → DataW H} {pl : List MemPlace} {cs : List Value}
    (hc : W.cells? base (a.add (i * 4)) 4 = some cs) (ht : DataW.trod enc Tryd.prog W base sp held n 29 cs = some (D i, pl)) : ∃ t : Tok, TokAt W a D i t := by
  obtain ⟨xs, m, _, hx, hcl, hxl, hf⟩ := DataW.trod_struct Tryd.underlying29 ht
  obtain ⟨_, h4, hat⟩ := World.cells?_some hc
  match cs, h4 with
  | [v0, v1, v2, v3], _ =>
    match xs, hxl with
    | [y0, y1, y2, y3], _ =>
      have g0 := hf 0 _ rfl
      have g1 := hf 1 _ rfl
      have g2 := hf 2 _ rfl
      have g3 := hf 3 _ rfl
      simp only [List.getElem?_cons_zero, List.getElem?_cons_succ] at g0 g1 g2 g3
      obtain ⟨k, e0, rfl, w0⟩ := DataW.trod_int Tryd.underlying3 g0
      obtain ⟨S, e1, rfl, w1⟩ := DataW.trod_string Tryd.underlying9 g1
      obtain ⟨N, e2, rfl, w2⟩ := DataW.trod_int Tryd.underlying2 g2
      obtain ⟨p, e3, rfl, w3⟩ := DataW.trod_int Tryd.underlying3 g3
      injection e0 with e0
      injection e1 with e1
      injection e2 with e2
      injection e3 with e3
      subst e0; subst e1; subst e2; subst e3
      refine ⟨⟨k, S.data.toList, N, p⟩, ?_, ?_, ?_⟩
      · simp only [Prod.mk.injEq] at hx
        rw [hx.1]; rfl
      · have hb := bounds_i64 w2
        unfold In64; simp only; omega
      · intro j u hu
        have hj : j < 4 := by
          rcases Nat.lt_or_ge j 4 with h | h
          · exact h
          · rw [List.getElem?_eq_none (by simpa [tokC] using h)] at hu; cases hu
        have h1 := hat j hj
        rw [addr_add] at h1
        rw [h1, ← hu]
        have eS : (⟨S.data.toList.toArray⟩ : ByteArray) = S := by cases S; simp
        unfold tokC
        rw [eS]

set_option maxRecDepth 100000 in
/-- the argument: tokens, no more and no greater than the bound lets -/
theorem toks_open {W : World} {len cap : Nat} {A : Option Addr} {d : DataW H} {p : List MemPlace} (h : DataW.Trod enc Tryd.prog W 0 (fun _ => true) true 22 (.slice A len cap) d p) (hlt : ∀ x ∈ p, x.block < W.heap.size) (hb : Rows.uptoBulk d ≤ 1048576) :
    ∃ l : List Tok, l.length = len ∧ HasToks W W.heap.size A l ∧ ∀ t ∈ l, t.s.length ≤ 1048576 ∧ In64 t.n := by
  obtain ⟨fuel, hf⟩ := h
  rcases open_slice Tryd.underlying22 hf with ⟨hcs, hx⟩ | ⟨a, len', cap', m, n, D, Pl, hcs, _, hl, hm, hmm, hx, hi⟩
  · simp [Value.cells] at hcs
    obtain ⟨rfl, rfl, rfl⟩ := hcs
    exact ⟨[], rfl, HasToks.nil_ _ _ _, by simp⟩
  · simp [Value.cells] at hcs
    obtain ⟨rfl, rfl, rfl⟩ := hcs
    simp only [Prod.mk.injEq] at hx
    obtain ⟨rfl, rfl⟩ := hx
    simp only [if_true] at hmm
    subst hmm
    rw [cells29] at hi hlt
    obtain ⟨l, hll, hp⟩ := list_of (P := TokAt W a D) len (fun i hil => by
      obtain ⟨cs', hc, ht⟩ := hi i (by omega)
      exact tok_read hc ht)
    refine ⟨l, hll, has_of (fun hne => ?_) (fun i hil => (hp i hil).2.2), fun t ht => ?_⟩
    · have hpos : 0 < l.length := List.length_pos_iff.2 hne
      have hmem := hlt (.cell a.block (a.off + 0)) (List.mem_append_left _ (MemPlace.mem_row.2 ⟨0, by omega, by simp⟩))
      exact hmem
    · obtain ⟨i, hil, rfl⟩ := List.getElem_of_mem ht
      obtain ⟨hD, hN, _⟩ := hp i hil
      refine ⟨?_, hN⟩
      have h1 : D i ∈ (List.range len).map D := List.mem_map.2 ⟨i, List.mem_range.2 (by omega), rfl⟩
      have h2 := bulk_mem h1
      have h3 : Rows.uptoBulkAll ((List.range len).map D) + 1 ≤ Rows.uptoBulk (.slice ((List.range len).map D) ((List.range (m - len)).map fun j => D (len + j))) := by
        simp only [Rows.uptoBulk]; omega
      rw [hD] at h2
      simp only [Rows.uptoBulk, Rows.uptoBulkAll] at h2
      omega
set_option maxRecDepth 100000 in
theorem toks_len {W : World} {len cap : Nat} {A : Option Addr} {d : DataW H} {p : List MemPlace} (h : DataW.Trod enc Tryd.prog W 0 (fun _ => true) true 22 (.slice A len cap) d p) (hb : Rows.uptoBulk d ≤ 1048576) : len ≤ 1048576 := by
  obtain ⟨fuel, hf⟩ := h
  rcases open_slice Tryd.underlying22 hf with ⟨hcs, hx⟩ | ⟨a, len', cap', m, n, D, Pl, hcs, _, hl, hm, hmm, hx, hi⟩
  · simp [Value.cells] at hcs
    omega
  · simp [Value.cells] at hcs
    obtain ⟨rfl, rfl, rfl⟩ := hcs
    simp only [Prod.mk.injEq] at hx
    obtain ⟨rfl, rfl⟩ := hx
    have h1 := bulk_len ((List.range len).map D)
    simp only [Rows.uptoBulk] at hb
    simp at h1
    omega
end
end Go.Proofs.YthogialdoikanaaDoor
