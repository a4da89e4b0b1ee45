/- The lexer's laws in the words of the walks. No program in sight. -/
import Derived.Test.YthogialdoikanaaDoorG4
import Derived.Test.YthogialdoikanaaDoorS1
namespace Go.Proofs.YthogialdoikanaaDoor

theorem sameF_strip : ∀ {l m : List Tok}, l.map strip = m.map strip → sameF false l m = true
  | [], [], _ => rfl
  | [], b :: m, h => by simp at h
  | a :: l, [], h => by simp at h
  | a :: l, b :: m, h => by
    simp only [List.map_cons, List.cons.injEq] at h
    obtain ⟨a1, a2, a3, a4⟩ := a
    obtain ⟨b1, b2, b3, b4⟩ := b
    obtain ⟨h1, h2⟩ := h
    simp only [strip, Prod.mk.injEq] at h1
    obtain ⟨rfl, rfl, rfl⟩ := h1
    simp only [sameF, sameF_strip h2]
    simp [sameT]
theorem strip_shift (d : Nat) (l : List Tok) : (shiftT d l).map strip = l.map strip := by
  unfold shiftT
  rw [List.map_map]
  rfl
theorem lexes_not_fails {r : List UInt8} {p : Nat} {g : Bool} {l : List Tok} {q : Nat} {e : Int} (h : Lexes r p g l) (h' : Fails r p g q e) : False := by
  have h1 := (lexGo_lexes h []).symm.trans (lexGo_fails h' [])
  injection h1 with _ h1
  injection h1 with _ h1
  rcases h'.err with h2 | h2 | h2 <;> (rw [h2] at h1; cases h1)
/-- the same text at place 0 -/
theorem Lexes.unshift {r : List UInt8} {q : Nat} {l : List Tok} (h : Lexes r q false l) : ∃ m, Lexes r 0 false m ∧ l = shiftT q m := by
  rcases lex_total _ r 0 false (Nat.le_refl _) with ⟨m, hm⟩ | ⟨p, e, hp⟩
  · have := hm.shift q
    rw [Nat.zero_add] at this
    exact ⟨m, hm, h.uniq this⟩
  · have := hp.shift q
    rw [Nat.zero_add] at this
    exact (lexes_not_fails h this).elim

/-- PARTS -/
theorem parts_of {s : List UInt8} {l : List Tok} (hs : s.length ≤ 8192) (hl : Lexes s 0 false l) : 1 ≤ l.length ∧
    (∀ (k : Nat) (hk : k < l.length), ∃ q : Nat, l[k].p = q ∧ q ≤ s.length ∧ ∃ m, lexS (s.drop q) = (m, 0, 0) ∧ m.length = l.length - k ∧ (∃ h0 : 0 < m.length, m[0].p = 0) ∧ sameF false m (l.drop k) = true) ∧
    (∀ (k : Nat) (hk : k + 1 < l.length), l[k].p < l[k + 1].p) ∧ (∃ h0 : l.length - 1 < l.length, l[l.length - 1].p = s.length) := by
  obtain ⟨p1, p2, p3, p4, p5⟩ := hl.parts
  have hlen := hl.len
  refine ⟨hlen.1, fun k hk => ?_, fun k hk => ?_, ⟨by omega, ?_⟩⟩
  · obtain ⟨q, h1, h2, h3, h4⟩ := p1 k hk
    rw [Nat.sub_zero] at h4
    obtain ⟨m, hm, he⟩ := h4.unshift
    have hml : m.length = l.length - k := by
      have := congrArg List.length he
      rw [List.length_drop] at this
      unfold shiftT at this
      rw [List.length_map] at this
      exact this.symm
    refine ⟨q, h1, by omega, m, lexS_lexes (by rw [List.length_drop]; omega) hm, hml, ⟨by omega, ?_⟩, sameF_strip (by rw [he, strip_shift])⟩
    have h5 : (l.drop k)[0]'(by rw [List.length_drop]; omega) = (shiftT q m)[0]'(by unfold shiftT; rw [List.length_map]; omega) := by simp only [he]
    rw [List.getElem_drop] at h5
    have h6 := congrArg Tok.p h5
    unfold shiftT at h6
    rw [List.getElem_map] at h6
    simp only [Nat.add_zero, h1] at h6
    omega
  · exact (List.pairwise_iff_getElem.1 p2) k (k + 1) (by omega) hk (by omega)
  · rw [List.getLast?_eq_getElem?, List.getElem?_eq_getElem (by omega)] at p3
    simp only [Option.map_some, Option.some.injEq] at p3
    rw [p3]
    simp
theorem lex_parts {s : List UInt8} (h : (lexS s).2.2 = 0) : ∃ l, lexS s = (l, 0, 0) ∧ 1 ≤ l.length ∧
    (∀ (k : Nat) (hk : k < l.length), ∃ q : Nat, l[k].p = q ∧ q ≤ s.length ∧ ∃ m, lexS (s.drop q) = (m, 0, 0) ∧ m.length = l.length - k ∧ (∃ h0 : 0 < m.length, m[0].p = 0) ∧ sameF false m (l.drop k) = true) ∧
    (∀ (k : Nat) (hk : k + 1 < l.length), l[k].p < l[k + 1].p) ∧ (∃ h0 : l.length - 1 < l.length, l[l.length - 1].p = s.length) := by
  obtain ⟨hs, hl⟩ := lexS_ok h
  exact ⟨_, lexS_lexes hs hl, parts_of hs hl⟩
/-- BLANKS -/
theorem lex_blanks_same {a b bl : List UInt8} (hn : bl ≠ []) (hb : Blanks bl) (hl : a.length + b.length + bl.length ≤ 8192) (ha : (lexS a).2.2 = 0) (hbb : (lexS b).2.2 = 0) :
    ∃ z, lexS (a ++ bl ++ b) = (z, 0, 0) ∧ sameF false z ((lexS a).1.dropLast ++ (lexS b).1) = true :=
  ⟨_, lex_blanks_ok hn hb hl ha hbb, sameF_strip (by rw [List.map_append, List.map_append, strip_shift])⟩
/-- how many tokens there are -/
theorem lexS_len (s : List UInt8) : (lexS s).1.length ≤ 8193 := by
  rcases lexS_cases s with ⟨_, h⟩ | ⟨h, l, hl, e⟩ | ⟨_, q, e, _, h⟩
  · rw [h]; simp
  · rw [e]; have := hl.len; simp only; omega
  · rw [h]; simp
end Go.Proofs.YthogialdoikanaaDoor
