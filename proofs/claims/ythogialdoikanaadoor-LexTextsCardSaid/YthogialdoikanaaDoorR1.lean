/- a slice of tokens, wherever it lies. -/
import Derived.Test.YthogialdoikanaaDoorT1
namespace Go.Proofs.YthogialdoikanaaDoor
open Go.RowKit

/-- the cells behind an address are a list of tokens; they lie below a bound -/
def HasToks (w : World) (B : Nat) (A : Option Addr) (l : List Tok) : Prop :=
  l ≠ [] → ∃ ad, A = some ad ∧ ad.block < B ∧ ∀ j u, (toksC l)[j]? = some u → w.cell? (ad.add j) = some u

theorem toksC_at : ∀ (l : List Tok) (i : Nat) (t : Tok), l[i]? = some t → ∀ j, j < 4 → (toksC l)[i * 4 + j]? = (tokC t)[j]?
  | [], _, _, h, _, _ => by simp at h
  | a :: r, 0, t, h, j, hj => by
    simp only [List.getElem?_cons_zero, Option.some.injEq] at h
    subst h
    have e : toksC (a :: r) = tokC a ++ toksC r := rfl
    rw [e, List.getElem?_append_left (by simp [tokC]; omega)]
    simp
  | a :: r, i + 1, t, h, j, hj => by
    have e : toksC (a :: r) = tokC a ++ toksC r := rfl
    rw [e, List.getElem?_append_right (by simp [tokC]; omega)]
    have := toksC_at r i t (by simpa using h) j hj
    rw [← this]
    congr 1
    simp [tokC]; omega

theorem addr_block (a : Addr) (n : Nat) : (a.add n).block = a.block := by unfold Addr.add; split <;> rfl

theorem HasToks.below {w w' : World} {B : Nat} {A : Option Addr} {l : List Tok} (h : HasToks w B A l) (hb : Below B w w') : HasToks w' B A l := fun hne => by
  obtain ⟨ad, e, hB, hc⟩ := h hne
  exact ⟨ad, e, hB, fun j u hu => (hb.cell (by rw [addr_block]; exact hB)).trans (hc j u hu)⟩
theorem HasToks.more {w : World} {B B' : Nat} {A : Option Addr} {l : List Tok} (h : HasToks w B A l) (hB : B ≤ B') : HasToks w B' A l := fun hne => by
  obtain ⟨ad, e, hb, hc⟩ := h hne
  exact ⟨ad, e, Nat.lt_of_lt_of_le hb hB, hc⟩
theorem HasToks.nil_ (w : World) (B : Nat) (A : Option Addr) : HasToks w B A [] := fun h => absurd rfl h
theorem HasToks.at_ {w : World} {B : Nat} {A : Option Addr} {l : List Tok} (h : HasToks w B A l) {i : Nat} (hi : i < l.length) :
    ∃ ad, A = some ad ∧ w.cell? (ad.add (i * 4)) = some (.int .i64 l[i].k) ∧ w.cell? ⟨(ad.add (i * 4)).block, (ad.add (i * 4)).off + 1, none⟩ = some (.string ⟨l[i].s.toArray⟩) ∧
      w.cell? ⟨(ad.add (i * 4)).block, (ad.add (i * 4)).off + 2, none⟩ = some (.int .i64 l[i].n) ∧ w.cell? ⟨(ad.add (i * 4)).block, (ad.add (i * 4)).off + 3, none⟩ = some (.int .i64 l[i].p) := by
  obtain ⟨ad, e, hb, hc⟩ := h (by intro h0; rw [h0] at hi; simp at hi)
  have ht := toksC_at l i l[i] (List.getElem?_eq_getElem hi)
  have ha : ∀ m, m ≠ 0 → (⟨(ad.add (i * 4)).block, (ad.add (i * 4)).off + m, none⟩ : Addr) = ad.add (i * 4 + m) := fun m hm => by
    unfold Addr.add
    by_cases h0 : i * 4 = 0
    · rw [if_pos h0, if_neg (by omega)]; simp
    · rw [if_neg h0, if_neg (by omega)]; simp [Nat.add_assoc]
  refine ⟨ad, e, hc _ _ ?_, ?_, ?_, ?_⟩
  · exact ht 0 (by omega)
  · rw [ha 1 (by omega)]; exact hc _ _ (ht 1 (by omega))
  · rw [ha 2 (by omega)]; exact hc _ _ (ht 2 (by omega))
  · rw [ha 3 (by omega)]; exact hc _ _ (ht 3 (by omega))

/-- what a call's own row of tokens holds -/
theorem OwnToks.has {w : World} {base : Nat} {v : Value} {l : List Tok} (h : OwnToks w base v l) : ∃ A c, v = .slice A l.length c ∧ l.length ≤ c ∧ HasToks w w.heap.size A l := by
  obtain ⟨hxl, ⟨rfl, hn⟩ | ⟨g, cap, cur, rfl, hbg, hgg, hcap, hcm, hcz, htk⟩⟩ := id h
  · obtain rfl : l = [] := List.eq_nil_of_length_eq_zero hn
    exact ⟨none, 0, rfl, Nat.le_refl _, HasToks.nil_ _ _ _⟩
  · refine ⟨some ⟨g, 0, none⟩, cap, rfl, hcap, fun _ => ⟨_, rfl, ?_, World.ownsRow.cells h rfl⟩⟩
    rcases Nat.lt_or_ge g w.heap.size with h1 | h1
    · exact h1
    · rw [Array.getElem?_eq_none h1] at hgg; cases hgg
end Go.Proofs.YthogialdoikanaaDoor
