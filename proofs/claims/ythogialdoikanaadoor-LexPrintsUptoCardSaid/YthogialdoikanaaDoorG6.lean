/- How great the tokens of a text are. No program in sight. -/
import Derived.Test.YthogialdoikanaaDoorG5
import Derived.Test.YthogialdoikanaaDoorY3
namespace Go.Proofs.YthogialdoikanaaDoor

theorem encode_len (r : Int) : (Lib.encodeRune r).length ≤ 4 := by
  unfold Lib.encodeRune Lib.encodeRuneZ
  rw [List.length_map]
  repeat' split
  all_goals simp
theorem fourS_len {l : List UInt8} {x : Nat} (h : fourS l = some x) : 4 ≤ l.length := (fourF_plain 4 0 l x h).1
theorem unqStep_len {r acc r' acc' : List UInt8} (h : unqStep (r, acc) = .inr (r', acc')) : acc'.length + r'.length ≤ acc.length + r.length := by
  cases r with
  | nil => cases h
  | cons b t =>
    by_cases h34 : b.toNat = 34
    · rw [unqStep_quote h34] at h
      split at h <;> cases h
    · by_cases h92 : b.toNat = 92
      · rw [unqStep_back h92] at h
        unfold unqB at h
        split at h
        · cases h
        · rename_i c v
          split at h
          · unfold unqU at h
            split at h
            · cases h
            · rename_i x hx
              have h4 := fourS_len hx
              split at h
              · split at h
                · cases h
                · split at h
                  · cases h
                  · rename_i y hy
                    have h6 := fourS_len hy
                    rw [List.length_drop] at h6
                    split at h
                    · cases h
                    · injection h with h; injection h with h1 h2
                      rw [← h1, ← h2, List.length_append, List.length_drop]
                      have := encode_len (65536 + ((x : Int) - 55296) * 1024 + ((y : Int) - 56320))
                      simp only [List.length_cons]; omega
              · injection h with h; injection h with h1 h2
                rw [← h1, ← h2, List.length_append, List.length_drop]
                have := encode_len (x : Int)
                simp only [List.length_cons]; omega
          · split at h
            · cases h
            · injection h with h; injection h with h1 h2
              rw [← h1, ← h2]
              simp; omega
      · by_cases h32 : b.toNat < 32
        · rw [unqStep_small h34 h92 h32] at h; cases h
        · rw [unqStep_next h34 h92 h32] at h
          cases hx : nextR (b :: t) with
          | none => rw [hx] at h; cases h
          | some y =>
            obtain ⟨x, n⟩ := y
            rw [hx] at h
            simp only at h
            injection h with h; injection h with h1 h2
            rw [← h1, ← h2, List.length_append, List.length_take, List.length_drop]
            omega
theorem unq_len : ∀ (n : Nat) (r acc y : List UInt8), r.length ≤ n → unq r acc = (0, y) → y.length ≤ acc.length + r.length := by
  intro n
  induction n with
  | zero =>
    intro r acc y hn h
    obtain rfl : r = [] := List.eq_nil_of_length_eq_zero (by omega)
    rw [unq_inl (show unqStep ([], acc) = .inl (4, []) from rfl)] at h
    cases h
  | succ n ih =>
    intro r acc y hn h
    cases hs : unqStep (r, acc) with
    | inl x =>
      rw [unq_inl hs] at h
      subst h
      rcases unqStep_code hs with (h | h) | ⟨h, _⟩
      · cases h
      · cases h
      · injection h with _ h
        rw [h]; omega
    | inr x =>
      obtain ⟨r', a'⟩ := x
      rw [unq_inr hs] at h
      have h1 := unqStep_low _ _ hs
      simp only at h1
      have h2 := ih r' a' y (by omega) h
      have h3 := unqStep_len hs
      omega
theorem unquoteS_len {l y : List UInt8} (h : unquoteS l = (0, y)) : y.length ≤ l.length := by
  unfold unquoteS at h
  split at h
  · cases h
  · rename_i b t
    split at h
    · have := unq_len t.length t [] y (Nat.le_refl _) h
      simp at this ⊢
      omega
    · cases h
theorem tok_size {r : List UInt8} {g : Bool} {n : Nat} {k : Int} {s : List UInt8} {m : Int} {g' : Bool} (h : lexTok r g = .inr (n, some (k, s, m), g')) : s.length ≤ r.length ∧ In64 m := by
  have z0 : In64 0 := by unfold In64; omega
  cases r with
  | nil => cases h
  | cons b t =>
    simp only [lexTok] at h
    split at h
    · cases h
    · split at h
      · split at h
        · cases h
        · injection h with h; injection h with _ h; injection h with h _; injection h with h; injection h with _ h; injection h with e2 e3
          subst e2; subst e3
          exact ⟨by rw [List.length_take]; omega, z0⟩
      · split at h
        · split at h
          · cases h
          · split at h
            · cases h
            · rename_i v hv
              injection h with h; injection h with _ h; injection h with h _; injection h with h; injection h with _ h; injection h with e2 e3
              subst e2; subst e3
              exact ⟨by simp, numS_bounds hv⟩
        · split at h
          · split at h
            · cases h
            · rename_i h0
              injection h with h; injection h with _ h; injection h with h _; injection h with h; injection h with _ h; injection h with e2 e3
              subst e2; subst e3
              have h0 : (unquoteS ((b :: t).take (quotS true (b :: t)))).1 = 0 := by simpa using h0
              have hU : unquoteS ((b :: t).take (quotS true (b :: t))) = (0, (unquoteS ((b :: t).take (quotS true (b :: t)))).2) := by rw [← h0]
              have := unquoteS_len hU
              rw [List.length_take] at this
              exact ⟨by omega, z0⟩
          · split at h
            · cases h
            · injection h with h; injection h with _ h; injection h with h _; injection h with h; injection h with _ h; injection h with e2 e3
              subst e2; subst e3
              exact ⟨signS_len _, z0⟩
theorem Lexes.sizes {r : List UInt8} {p : Nat} {g : Bool} {l : List Tok} (h : Lexes r p g l) : ∀ t ∈ l, t.s.length ≤ r.length ∧ In64 t.n := by
  induction h using Lexes.ind with
  | done p g =>
    intro t ht
    obtain rfl : t = ⟨0, [], 0, p⟩ := by simpa using ht
    exact ⟨by simp, by unfold In64; simp only; omega⟩
  | @on r p g n k g' l hr ht hl ih =>
    intro t htm
    rcases List.mem_append.1 htm with h | h
    · cases k with
      | none => cases h
      | some x =>
        obtain ⟨a, s, m⟩ := x
        obtain rfl : t = ⟨a, s, m, p⟩ := by simpa [putT] using h
        exact tok_size ht
    · have := ih t h
      rw [List.length_drop] at this
      exact ⟨by omega, this.2⟩
theorem decDigits_le (u : Nat) (h : u ≤ 9223372036854775808) : (Lib.decDigits u).length ≤ 19 := by rw [Lib.decDigits_length]; exact nDigits_19 h
theorem textS_len (t : Tok) (hn : In64 t.n) : (textS t).2.length ≤ 6 * t.s.length + 22 := by
  unfold textS
  split
  · simp only; omega
  · split
    · simp only; omega
    · split
      · simp only
        unfold Lib.itoa
        have h1 := decDigits_le t.n.natAbs (by have := hn; unfold In64 at this; omega)
        have h2 := decDigits_le t.n.toNat (by have := hn; unfold In64 at this; omega)
        split
        · simp only [List.length_cons]; omega
        · omega
      · split
        · unfold quoteS
          split
          · have := escS_len t.s
            simp only [List.length_cons, List.length_append, List.length_nil]; omega
          · simp
        · simp
theorem lexS_sizes (s : List UInt8) : ∀ t ∈ (lexS s).1, t.s.length ≤ 8192 ∧ In64 t.n := by
  by_cases h : (lexS s).2.2 = 0
  · obtain ⟨h1, h2⟩ := lexS_ok h
    intro t ht
    have := h2.sizes t ht
    exact ⟨by omega, this.2⟩
  · rw [lexS_none h]; simp
end Go.Proofs.YthogialdoikanaaDoor
