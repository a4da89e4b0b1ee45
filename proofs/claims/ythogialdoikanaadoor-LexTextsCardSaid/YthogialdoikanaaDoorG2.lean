/- The lexer as two relations; blanks between two texts; each token's place. No program in sight. -/
import Derived.Test.YthogialdoikanaaDoorG1
namespace Go.Proofs.YthogialdoikanaaDoor

/-- a text from a place on: its tokens; in so many steps -/
def LexesF : Nat → List UInt8 → Nat → Bool → List Tok → Prop
  | 0, _, _, _, _ => False
  | m + 1, r, p, g, l => (r = [] ∧ l = [⟨0, [], 0, p⟩]) ∨ (r ≠ [] ∧ ∃ (n : Nat) (k : Option (Int × List UInt8 × Int)) (g' : Bool) (l' : List Tok), lexTok r g = .inr (n, k, g') ∧ l = putT p k ++ l' ∧ LexesF m (r.drop n) (p + n) g' l')
def Lexes (r : List UInt8) (p : Nat) (g : Bool) (l : List Tok) : Prop := ∃ m, LexesF m r p g l
theorem Lexes.done (p : Nat) (g : Bool) : Lexes [] p g [⟨0, [], 0, p⟩] := ⟨1, .inl ⟨rfl, rfl⟩⟩
theorem Lexes.on {r : List UInt8} {p : Nat} {g : Bool} {n : Nat} {k : Option (Int × List UInt8 × Int)} {g' : Bool} {l : List Tok}
    (hr : r ≠ []) (ht : lexTok r g = .inr (n, k, g')) (hl : Lexes (r.drop n) (p + n) g' l) : Lexes r p g (putT p k ++ l) := by
  obtain ⟨m, hm⟩ := hl
  exact ⟨m + 1, .inr ⟨hr, n, k, g', l, ht, rfl, hm⟩⟩
theorem Lexes.ind {motive : (r : List UInt8) → (p : Nat) → (g : Bool) → (l : List Tok) → Lexes r p g l → Prop} (done : ∀ (p : Nat) (g : Bool), motive [] p g [⟨0, [], 0, p⟩] (Lexes.done p g))
    (on : ∀ {r : List UInt8} {p : Nat} {g : Bool} {n : Nat} {k : Option (Int × List UInt8 × Int)} {g' : Bool} {l : List Tok} (hr : r ≠ []) (ht : lexTok r g = .inr (n, k, g')) (hl : Lexes (r.drop n) (p + n) g' l), motive (r.drop n) (p + n) g' l hl → motive r p g (putT p k ++ l) (Lexes.on hr ht hl))
    {r : List UInt8} {p : Nat} {g : Bool} {l : List Tok} (h : Lexes r p g l) : motive r p g l h := by
  obtain ⟨m, hm⟩ := h
  induction m generalizing r p g l with
  | zero => exact hm.elim
  | succ m ih =>
    rcases id hm with ⟨rfl, rfl⟩ | ⟨hr, n, k, g', l', ht, rfl, hm'⟩
    · exact done p g
    · exact on hr ht ⟨m, hm'⟩ (ih hm')
theorem Lexes.cut {r : List UInt8} {p : Nat} {g : Bool} {l : List Tok} (h : Lexes r p g l) : (r = [] ∧ l = [⟨0, [], 0, p⟩]) ∨ (r ≠ [] ∧ ∃ (n : Nat) (k : Option (Int × List UInt8 × Int)) (g' : Bool) (l' : List Tok), lexTok r g = .inr (n, k, g') ∧ l = putT p k ++ l' ∧ Lexes (r.drop n) (p + n) g' l') := by
  obtain ⟨m, hm⟩ := h
  cases m with
  | zero => exact hm.elim
  | succ m =>
    rcases hm with h | ⟨hr, n, k, g', l', ht, e, hm⟩
    · exact .inl h
    · exact .inr ⟨hr, n, k, g', l', ht, e, m, hm⟩
/-- its first fault and where; in so many steps -/
def FailsF : Nat → List UInt8 → Nat → Bool → Nat → Int → Prop
  | 0, _, _, _, _, _ => False
  | m + 1, r, p, g, q, e => r ≠ [] ∧ ((lexTok r g = .inl e ∧ q = p) ∨ ∃ (n : Nat) (k : Option (Int × List UInt8 × Int)) (g' : Bool), lexTok r g = .inr (n, k, g') ∧ FailsF m (r.drop n) (p + n) g' q e)
def Fails (r : List UInt8) (p : Nat) (g : Bool) (q : Nat) (e : Int) : Prop := ∃ m, FailsF m r p g q e
theorem Fails.bad {r : List UInt8} {p : Nat} {g : Bool} {e : Int} (hr : r ≠ []) (ht : lexTok r g = .inl e) : Fails r p g p e := ⟨1, hr, .inl ⟨ht, rfl⟩⟩
theorem Fails.on {r : List UInt8} {p : Nat} {g : Bool} {n : Nat} {k : Option (Int × List UInt8 × Int)} {g' : Bool} {q : Nat} {e : Int}
    (hr : r ≠ []) (ht : lexTok r g = .inr (n, k, g')) (hl : Fails (r.drop n) (p + n) g' q e) : Fails r p g q e := by
  obtain ⟨m, hm⟩ := hl
  exact ⟨m + 1, hr, .inr ⟨n, k, g', ht, hm⟩⟩
theorem Fails.ind {motive : (r : List UInt8) → (p : Nat) → (g : Bool) → (q : Nat) → (e : Int) → Fails r p g q e → Prop} (bad : ∀ {r : List UInt8} {p : Nat} {g : Bool} {e : Int} (hr : r ≠ []) (ht : lexTok r g = .inl e), motive r p g p e (Fails.bad hr ht))
    (on : ∀ {r : List UInt8} {p : Nat} {g : Bool} {n : Nat} {k : Option (Int × List UInt8 × Int)} {g' : Bool} {q : Nat} {e : Int} (hr : r ≠ []) (ht : lexTok r g = .inr (n, k, g')) (hl : Fails (r.drop n) (p + n) g' q e), motive (r.drop n) (p + n) g' q e hl → motive r p g q e (Fails.on hr ht hl))
    {r : List UInt8} {p : Nat} {g : Bool} {q : Nat} {e : Int} (h : Fails r p g q e) : motive r p g q e h := by
  obtain ⟨m, hm⟩ := h
  induction m generalizing r p g q e with
  | zero => exact hm.elim
  | succ m ih =>
    obtain ⟨hr, ⟨ht, rfl⟩ | ⟨n, k, g', ht, hm'⟩⟩ := id hm
    · exact bad hr ht
    · exact on hr ht ⟨m, hm'⟩ (ih hm')
theorem Fails.cut {r : List UInt8} {p : Nat} {g : Bool} {q : Nat} {e : Int} (h : Fails r p g q e) : r ≠ [] ∧ ((lexTok r g = .inl e ∧ q = p) ∨ ∃ (n : Nat) (k : Option (Int × List UInt8 × Int)) (g' : Bool), lexTok r g = .inr (n, k, g') ∧ Fails (r.drop n) (p + n) g' q e) := by
  obtain ⟨m, hm⟩ := h
  cases m with
  | zero => exact hm.elim
  | succ m =>
    obtain ⟨hr, h | ⟨n, k, g', ht, hm⟩⟩ := hm
    · exact ⟨hr, .inl h⟩
    · exact ⟨hr, .inr ⟨n, k, g', ht, m, hm⟩⟩

theorem lex_total : ∀ (m : Nat) (r : List UInt8) (p : Nat) (g : Bool), r.length ≤ m → (∃ l, Lexes r p g l) ∨ (∃ q e, Fails r p g q e) := by
  intro m
  induction m with
  | zero =>
    intro r p g h
    obtain rfl : r = [] := List.eq_nil_of_length_eq_zero (by omega)
    exact .inl ⟨_, .done p g⟩
  | succ m ih =>
    intro r p g h
    by_cases hr : r = []
    · subst hr; exact .inl ⟨_, .done p g⟩
    · cases ht : lexTok r g with
      | inl e => exact .inr ⟨_, _, .bad hr ht⟩
      | inr x =>
        obtain ⟨n, k, g'⟩ := x
        have := lexTok_n ht
        rcases ih (r.drop n) (p + n) g' (by rw [List.length_drop]; omega) with ⟨l, hl⟩ | ⟨q, e, hq⟩
        · exact .inl ⟨_, .on hr ht hl⟩
        · exact .inr ⟨_, _, .on hr ht hq⟩

theorem lexGo_lexes {r : List UInt8} {p : Nat} {g : Bool} {l : List Tok} (h : Lexes r p g l) : ∀ acc, lexGo ⟨r, p, acc, g⟩ = (acc ++ l, 0, 0) := by
  induction h using Lexes.ind with
  | done p g => intro acc; exact lexGo_inl rfl
  | @on r p g n k g' l hr ht _ ih =>
    intro acc
    rw [lexGo_inr (y := ⟨r.drop n, p + n, acc ++ putT p k, g'⟩) (by rw [lexStep_tok r hr, ht]), ih, List.append_assoc]
theorem lexGo_fails {r : List UInt8} {p : Nat} {g : Bool} {q : Nat} {e : Int} (h : Fails r p g q e) : ∀ acc, lexGo ⟨r, p, acc, g⟩ = ([], q, e) := by
  induction h using Fails.ind with
  | @bad r p g e hr ht => intro acc; exact lexGo_inl (by rw [lexStep_tok r hr, ht])
  | @on r p g n k g' q e hr ht _ ih =>
    intro acc
    rw [lexGo_inr (y := ⟨r.drop n, p + n, acc ++ putT p k, g'⟩) (by rw [lexStep_tok r hr, ht]), ih]

theorem Fails.err {r : List UInt8} {p : Nat} {g : Bool} {q : Nat} {e : Int} (h : Fails r p g q e) : e = 14 ∨ e = 12 ∨ e = 11 := by
  induction h using Fails.ind with
  | bad _ ht => exact lexTok_err ht
  | on _ _ _ ih => exact ih
theorem Fails.place {r : List UInt8} {p : Nat} {g : Bool} {q : Nat} {e : Int} (h : Fails r p g q e) : p ≤ q ∧ q < p + r.length := by
  induction h using Fails.ind with
  | bad hr ht => have := List.length_pos_iff.2 hr; omega
  | on hr ht _ ih =>
    have := lexTok_n ht
    rw [List.length_drop] at ih
    omega
theorem Lexes.free {r : List UInt8} {p : Nat} {g : Bool} {l : List Tok} (h : Lexes r p g l) : Lexes r p false l := by
  rcases h.cut with ⟨rfl, rfl⟩ | ⟨hr, n, k, g', l', ht, rfl, hl⟩
  · exact .done p false
  · exact .on hr (lexTok_free ht) hl

theorem Lexes.uniq {r : List UInt8} {p : Nat} {g : Bool} {l : List Tok} (h : Lexes r p g l) {l' : List Tok} (h' : Lexes r p g l') : l = l' := by
  have := (lexGo_lexes h []).symm.trans (lexGo_lexes h' [])
  simpa using this

/-! ### the whole lexer -/
theorem lexS_big {s : List UInt8} (h : 8192 < s.length) : lexS s = ([], 0, 2) := by unfold lexS; rw [if_pos h]
theorem lexS_lexes {s : List UInt8} {l : List Tok} (hs : s.length ≤ 8192) (h : Lexes s 0 false l) : lexS s = (l, 0, 0) := by
  unfold lexS; rw [if_neg (by omega), lexGo_lexes h]; rfl
theorem lexS_fails {s : List UInt8} {q : Nat} {e : Int} (hs : s.length ≤ 8192) (h : Fails s 0 false q e) : lexS s = ([], q, e) := by
  unfold lexS; rw [if_neg (by omega), lexGo_fails h]
/-- what the lexer answers -/
theorem lexS_cases (s : List UInt8) : (8192 < s.length ∧ lexS s = ([], 0, 2)) ∨ (s.length ≤ 8192 ∧ ∃ l, Lexes s 0 false l ∧ lexS s = (l, 0, 0)) ∨ (s.length ≤ 8192 ∧ ∃ q e, Fails s 0 false q e ∧ lexS s = ([], q, e)) := by
  by_cases h : 8192 < s.length
  · exact .inl ⟨h, lexS_big h⟩
  · have h : s.length ≤ 8192 := by omega
    rcases lex_total _ s 0 false (Nat.le_refl _) with ⟨l, hl⟩ | ⟨q, e, hq⟩
    · exact .inr (.inl ⟨h, l, hl, lexS_lexes h hl⟩)
    · exact .inr (.inr ⟨h, q, e, hq, lexS_fails h hq⟩)
theorem lexS_ok {s : List UInt8} (h : (lexS s).2.2 = 0) : s.length ≤ 8192 ∧ Lexes s 0 false (lexS s).1 := by
  rcases lexS_cases s with ⟨_, h1⟩ | ⟨h1, l, hl, h2⟩ | ⟨h1, q, e, hq, h2⟩
  · rw [h1] at h; cases h
  · rw [h2]; exact ⟨h1, hl⟩
  · rw [h2] at h; obtain rfl : e = 0 := h
    rcases hq.err with h | h | h <;> cases h
theorem lexS_none {s : List UInt8} (h : (lexS s).2.2 ≠ 0) : (lexS s).1 = [] := by
  rcases lexS_cases s with ⟨_, h1⟩ | ⟨h1, l, hl, h2⟩ | ⟨h1, q, e, hq, h2⟩
  · rw [h1]
  · rw [h2] at h; exact absurd rfl h
  · rw [h2]

/-! ### places -/
def shiftT (d : Nat) (l : List Tok) : List Tok := l.map fun t => ⟨t.k, t.s, t.n, t.p + d⟩
theorem putT_shift (p d : Nat) (k : Option (Int × List UInt8 × Int)) : putT (p + d) k = shiftT d (putT p k) := by
  cases k with
  | none => rfl
  | some x => obtain ⟨a, b, c⟩ := x; simp [putT, shiftT]
theorem Lexes.shift {r : List UInt8} {p : Nat} {g : Bool} {l : List Tok} (h : Lexes r p g l) (d : Nat) : Lexes r (p + d) g (shiftT d l) := by
  induction h using Lexes.ind with
  | done p g =>
    have := Lexes.done (p + d) g
    simpa [shiftT] using this
  | @on r p g n k g' l hr ht _ ih =>
    have e : p + n + d = p + d + n := by omega
    rw [e] at ih
    have := Lexes.on hr ht ih
    rw [putT_shift] at this
    simpa [shiftT] using this
theorem Fails.shift {r : List UInt8} {p : Nat} {g : Bool} {q : Nat} {e : Int} (h : Fails r p g q e) (d : Nat) : Fails r (p + d) g (q + d) e := by
  induction h using Fails.ind with
  | bad hr ht => exact .bad hr ht
  | @on r p g n k g' q e hr ht _ ih =>
    have e : p + n + d = p + d + n := by omega
    rw [e] at ih
    exact .on hr ht ih

/-! ### blanks between two texts -/
theorem Lexes.ne {r : List UInt8} {p : Nat} {g : Bool} {l : List Tok} (h : Lexes r p g l) : l ≠ [] := by
  induction h using Lexes.ind with
  | done => simp
  | on _ _ _ ih => simp [ih]
theorem putT_len (p : Nat) (k) : (putT p k).length ≤ 1 := by cases k with
  | none => simp [putT]
  | some x => simp [putT]
theorem Lexes.len {r : List UInt8} {p : Nat} {g : Bool} {l : List Tok} (h : Lexes r p g l) : 1 ≤ l.length ∧ l.length ≤ r.length + 1 := by
  induction h using Lexes.ind with
  | done => simp
  | @on r p g n k g' l hr ht _ ih =>
    have := lexTok_n ht
    have := putT_len p k
    rw [List.length_drop] at ih
    rw [List.length_append]
    omega
theorem blank_first {c : UInt8} {s : List UInt8} {p : Nat} {l : List Tok} (hc : isBlank c.toNat = true) (h : Lexes (c :: s) p false l) (g : Bool) : Lexes (c :: s) p g l := by
  rcases h.cut with ⟨h, _⟩ | ⟨hr, n, k, g', l', ht, rfl, hl⟩
  · cases h
  · rw [lexTok_blank false hc] at ht
    injection ht with ht; injection ht with h1 ht; injection ht with h2 h3
    subst h1; subst h2; subst h3
    exact .on hr (lexTok_blank g hc) hl
theorem blank_first_bad {c : UInt8} {s : List UInt8} {p : Nat} {q : Nat} {e : Int} (hc : isBlank c.toNat = true) (h : Fails (c :: s) p false q e) (g : Bool) : Fails (c :: s) p g q e := by
  rcases h.cut with ⟨hr, ⟨ht, rfl⟩ | ⟨n, k, g', ht, hl⟩⟩
  · rw [lexTok_blank false hc] at ht; cases ht
  · rw [lexTok_blank false hc] at ht
    injection ht with ht; injection ht with h1 ht; injection ht with h2 h3
    subst h1; subst h2; subst h3
    exact .on hr (lexTok_blank g hc) hl
theorem drop_ext (r s : List UInt8) (n : Nat) (h : n ≤ r.length) : (r ++ s).drop n = r.drop n ++ s := List.drop_append_of_le_length h
theorem Lexes.cat {a : List UInt8} {p : Nat} {g : Bool} {x : List Tok} (h : Lexes a p g x) {c : UInt8} {s : List UInt8} (hc : isBlank c.toNat = true) {y : List Tok} (hy : Lexes (c :: s) (p + a.length) false y) : Lexes (a ++ c :: s) p g (x.dropLast ++ y) := by
  induction h using Lexes.ind with
  | done p g => exact blank_first hc hy g
  | @on r p g n k g' l hr ht hl ih =>
    have hn := lexTok_n ht
    have e : p + n + (r.drop n).length = p + r.length := by rw [List.length_drop]; omega
    have := Lexes.on (r := r ++ c :: s) (p := p) (by simp) (lexTok_ext c s hc ht) (by rw [drop_ext _ _ _ hn.2]; exact ih (e ▸ hy))
    rw [List.dropLast_append_of_ne_nil hl.ne, List.append_assoc]
    exact this
theorem Lexes.cat_bad {a : List UInt8} {p : Nat} {g : Bool} {x : List Tok} (h : Lexes a p g x) {c : UInt8} {s : List UInt8} (hc : isBlank c.toNat = true) {q : Nat} {e : Int} (hy : Fails (c :: s) (p + a.length) false q e) : Fails (a ++ c :: s) p g q e := by
  induction h using Lexes.ind with
  | done p g => exact blank_first_bad hc hy g
  | @on r p g n k g' l hr ht hl ih =>
    have hn := lexTok_n ht
    have e : p + n + (r.drop n).length = p + r.length := by rw [List.length_drop]; omega
    exact .on (by simp) (lexTok_ext c s hc ht) (by rw [drop_ext _ _ _ hn.2]; exact ih (e ▸ hy))
theorem Fails.cat {a : List UInt8} {p : Nat} {g : Bool} {q : Nat} {e : Int} (h : Fails a p g q e) (he : e = 12) {c : UInt8} (s : List UInt8) (hc : isBlank c.toNat = true) : Fails (a ++ c :: s) p g q e := by
  induction h using Fails.ind with
  | bad hr ht =>
    subst he
    exact .bad (by simp) (lexTok_ext12 c s hc ht)
  | @on r p g n k g' q e hr ht _ ih =>
    have hn := lexTok_n ht
    exact .on (by simp) (lexTok_ext c s hc ht) (by rw [drop_ext _ _ _ hn.2]; exact ih he)
def Blanks (l : List UInt8) : Prop := ∀ c ∈ l, isBlank c.toNat = true
theorem Lexes.behind {b : List UInt8} {y : List Tok} : ∀ (bl : List UInt8) (p : Nat), Blanks bl → Lexes b (p + bl.length) false y → Lexes (bl ++ b) p false y
  | [], p, _, h => h
  | c :: bl, p, hb, h => by
    have h1 := Lexes.behind bl (p + 1) (fun x hx => hb x (by simp [hx])) (by simpa [Nat.add_assoc, Nat.add_comm 1] using h)
    exact Lexes.on (r := c :: (bl ++ b)) (by simp) (lexTok_blank false (hb c (by simp))) h1
theorem Fails.behind {b : List UInt8} {q : Nat} {e : Int} : ∀ (bl : List UInt8) (p : Nat), Blanks bl → Fails b (p + bl.length) false q e → Fails (bl ++ b) p false q e
  | [], p, _, h => h
  | c :: bl, p, hb, h => by
    have h1 := Fails.behind bl (p + 1) (fun x hx => hb x (by simp [hx])) (by simpa [Nat.add_assoc, Nat.add_comm 1] using h)
    exact Fails.on (r := c :: (bl ++ b)) (by simp) (lexTok_blank false (hb c (by simp))) h1

/-- BLANKS: both are in order -/
theorem lex_blanks_ok {a b bl : List UInt8} (hn : bl ≠ []) (hb : Blanks bl) (hl : a.length + b.length + bl.length ≤ 8192) (ha : (lexS a).2.2 = 0) (hbb : (lexS b).2.2 = 0) :
    lexS (a ++ bl ++ b) = ((lexS a).1.dropLast ++ shiftT (a.length + bl.length) (lexS b).1, 0, 0) := by
  have h1 := (lexS_ok ha).2
  have h2 := (lexS_ok hbb).2.shift (a.length + bl.length)
  cases bl with
  | nil => exact absurd rfl hn
  | cons c bl =>
    rw [List.append_assoc]
    refine lexS_lexes (by simp only [List.length_append, List.length_cons] at hl ⊢; omega) ?_
    refine h1.cat (hb c (by simp)) ?_
    exact Lexes.behind (c :: bl) (0 + a.length) hb (by rw [Nat.zero_add] at h2 ⊢; exact h2)
theorem lex_blanks_bad {a b bl : List UInt8} (hn : bl ≠ []) (hb : Blanks bl) (hl : a.length + b.length + bl.length ≤ 8192) (ha : (lexS a).2.2 = 0) (hbb : (lexS b).2.2 ≠ 0) :
    ∃ q, a.length ≤ q ∧ lexS (a ++ bl ++ b) = ([], q, (lexS b).2.2) := by
  have h1 := (lexS_ok ha).2
  rcases lexS_cases b with ⟨h, _⟩ | ⟨_, l, _, h⟩ | ⟨_, q, e, hq, h⟩
  · omega
  · rw [h] at hbb; exact absurd rfl hbb
  · have h2 := hq.shift (a.length + bl.length)
    rw [h]
    refine ⟨q + (a.length + bl.length), by omega, ?_⟩
    cases bl with
    | nil => exact absurd rfl hn
    | cons c bl =>
      rw [List.append_assoc]
      refine lexS_fails (by simp only [List.length_append, List.length_cons] at hl ⊢; omega) ?_
      refine h1.cat_bad (hb c (by simp)) ?_
      exact Fails.behind (c :: bl) (0 + a.length) hb (by rw [Nat.zero_add] at h2 ⊢; exact h2)
theorem lex_blanks_12 {a b bl : List UInt8} (hn : bl ≠ []) (hb : Blanks bl) (hl : a.length + b.length + bl.length ≤ 8192) (ha : (lexS a).2.2 = 12) :
    ∃ q, q < a.length ∧ lexS (a ++ bl ++ b) = ([], q, 12) := by
  rcases lexS_cases a with ⟨h, _⟩ | ⟨_, l, _, h⟩ | ⟨_, q, e, hq, h⟩
  · omega
  · rw [h] at ha; cases ha
  · rw [h] at ha
    obtain rfl : e = 12 := ha
    have hp := hq.place
    refine ⟨q, by omega, ?_⟩
    cases bl with
    | nil => exact absurd rfl hn
    | cons c bl =>
      rw [List.append_assoc]
      exact lexS_fails (by simp only [List.length_append, List.length_cons] at hl ⊢; omega) (hq.cat rfl (bl ++ b) (hb c (by simp)))

theorem lexTok_kind {r : List UInt8} {g : Bool} {n : Nat} {a : Int} {s : List UInt8} {m : Int} {g' : Bool} (ht : lexTok r g = .inr (n, some (a, s, m), g')) : a ≠ 0 := by
  cases r with
  | nil => cases ht
  | cons b t =>
    simp only [lexTok] at ht
    repeat' split at ht
    all_goals first | cases ht | skip
    all_goals decide
/-! ### each token's place -/
/-- from a token's place on there are the tokens from it on; places rise -/
theorem Lexes.parts {r : List UInt8} {p : Nat} {g : Bool} {l : List Tok} (h : Lexes r p g l) :
    (∀ (i : Nat) (hi : i < l.length), ∃ q : Nat, l[i].p = q ∧ p ≤ q ∧ q ≤ p + r.length ∧ Lexes (r.drop (q - p)) q false (l.drop i)) ∧ List.Pairwise (fun a b : Tok => a.p < b.p) l ∧ (l.getLast?).map Tok.p = some ((p + r.length : Nat) : Int) ∧ (l.getLast?).map Tok.k = some 0 ∧ (∀ t ∈ l.dropLast, t.k ≠ 0) := by
  induction h using Lexes.ind with
  | done p g =>
    refine ⟨fun i hi => ?_, by simp, by simp, by simp, by simp⟩
    obtain rfl : i = 0 := by simpa using hi
    exact ⟨p, rfl, Nat.le_refl _, by simp, by simpa using Lexes.done p false⟩
  | @on r p g n k g' l hr ht hl ih =>
    obtain ⟨ih1, ih2, ih3, ih4, ih5⟩ := ih
    have hn := lexTok_n ht
    have e : p + n + (r.drop n).length = p + r.length := by rw [List.length_drop]; omega
    rw [e] at ih1 ih3
    have on_ : ∀ (i : Nat) (hi : i < l.length), ∃ q : Nat, l[i].p = q ∧ p + n ≤ q ∧ q ≤ p + r.length ∧ Lexes (r.drop (q - p)) q false (l.drop i) := fun i hi => by
      obtain ⟨q, h1, h2, h3, h4⟩ := ih1 i hi
      refine ⟨q, h1, h2, h3, ?_⟩
      rw [List.drop_drop] at h4
      have e2 : n + (q - (p + n)) = q - p := by omega
      rw [e2] at h4
      exact h4
    have hlast : ∀ z : List Tok, (z ++ l).getLast? = l.getLast? := fun z => by
      rw [List.getLast?_append]
      cases hx : l.getLast? with
      | none => exact absurd (List.getLast?_eq_none_iff.1 hx) hl.ne
      | some t => rfl
    cases k with
    | none =>
      show _ ∧ List.Pairwise _ l ∧ _
      refine ⟨fun i hi => ?_, ih2, ?_, ?_, ih5⟩
      · obtain ⟨q, h1, h2, h3, h4⟩ := on_ i hi
        exact ⟨q, h1, by omega, h3, h4⟩
      · show l.getLast?.map _ = _; exact ih3
      · show l.getLast?.map _ = _; exact ih4
    | some x =>
      obtain ⟨a, s, m⟩ := x
      have hk : a ≠ 0 := lexTok_kind ht
      have hwhole : Lexes r p false (putT p (some (a, s, m)) ++ l) := (Lexes.on hr ht hl).free
      refine ⟨fun i hi => ?_, ?_, ?_, ?_, ?_⟩
      · cases i with
        | zero =>
          refine ⟨p, rfl, Nat.le_refl _, by omega, ?_⟩
          rw [Nat.sub_self, List.drop_zero, List.drop_zero]
          exact hwhole
        | succ i =>
          have hi' : i < l.length := by simpa [putT] using hi
          obtain ⟨q, h1, h2, h3, h4⟩ := on_ i hi'
          exact ⟨q, h1, by omega, h3, h4⟩
      · show List.Pairwise _ (⟨a, s, m, p⟩ :: l)
        refine List.pairwise_cons.2 ⟨fun t htm => ?_, ih2⟩
        obtain ⟨i, hi, rfl⟩ := List.getElem_of_mem htm
        obtain ⟨q, h1, h2, _⟩ := on_ i hi
        rw [h1]
        show (p : Int) < q
        omega
      · rw [hlast]; exact ih3
      · rw [hlast]; exact ih4
      · show ∀ t ∈ (⟨a, s, m, p⟩ :: l).dropLast, t.k ≠ 0
        rw [List.dropLast_cons_of_ne_nil hl.ne]
        intro t ht'
        rcases List.mem_cons.1 ht' with rfl | h
        · exact hk
        · exact ih5 t h
end Go.Proofs.YthogialdoikanaaDoor
