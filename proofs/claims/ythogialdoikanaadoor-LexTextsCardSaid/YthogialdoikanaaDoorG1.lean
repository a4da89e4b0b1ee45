/- The lexer's plain laws: a token at a time, what comes behind a blank, places. No program in sight. -/
import Derived.Test.YthogialdoikanaaDoorB
import Derived.Test.YthogialdoikanaaDoorC
namespace Go.Proofs.YthogialdoikanaaDoor

/-- what stands at the beginning of a text: an error; or so many bytes, a token or none, whether a word or a number ends there -/
def lexTok (r : List UInt8) (g : Bool) : Int ⊕ (Nat × Option (Int × List UInt8 × Int) × Bool) :=
  match r with
  | [] => .inl 14
  | b :: t =>
    if isBlank b.toNat then .inr (1, none, false)
    else if isLet (b.toNat : Int) then
      if g then .inl 14 else .inr (runS isAln (b :: t), some (1, (b :: t).take (runS isAln (b :: t)), 0), true)
    else if isDig (b.toNat : Int) || decide (b.toNat = 45) then
      if g || decide (numLen (b :: t) = 1 ∧ b.toNat = 45) then .inl 14
      else match numS ((b :: t).take (numLen (b :: t))) with
        | none => .inl 12
        | some v => .inr (numLen (b :: t), some (2, [], v), true)
    else if b.toNat = 34 then
      if (unquoteS ((b :: t).take (quotS true (b :: t)))).1 ≠ 0 then
        .inl (if (unquoteS ((b :: t).take (quotS true (b :: t)))).1 = 4 then 14 else (unquoteS ((b :: t).take (quotS true (b :: t)))).1)
      else .inr (quotS true (b :: t), some (3, (unquoteS ((b :: t).take (quotS true (b :: t)))).2, 0), false)
    else if signS (b :: t) = [] then .inl 14
    else .inr ((signS (b :: t)).length, some (4, signS (b :: t), 0), false)

/-- such a token, at a place -/
def putT (p : Nat) : Option (Int × List UInt8 × Int) → List Tok
  | none => []
  | some (k, s, n) => [⟨k, s, n, p⟩]

theorem lexStep_tok (r : List UInt8) (hr : r ≠ []) (p : Nat) (acc : List Tok) (g : Bool) : lexStep ⟨r, p, acc, g⟩ = match lexTok r g with
    | .inl e => .inl ([], p, e)
    | .inr (n, k, g') => .inr ⟨r.drop n, p + n, acc ++ putT p k, g'⟩ := by
  cases r with
  | nil => exact absurd rfl hr
  | cons b t =>
    simp only [lexStep, lexTok]
    by_cases h1 : isBlank b.toNat = true
    · rw [if_pos h1, if_pos h1]; simp [putT]
    · rw [if_neg h1, if_neg h1]
      by_cases h2 : isLet (b.toNat : Int) = true
      · rw [if_pos h2, if_pos h2]
        cases g <;> simp [putT]
      · rw [if_neg h2, if_neg h2]
        by_cases h3 : (isDig (b.toNat : Int) || decide (b.toNat = 45)) = true
        · rw [if_pos h3, if_pos h3]
          by_cases h4 : (g || decide (numLen (b :: t) = 1 ∧ b.toNat = 45)) = true
          · rw [if_pos h4, if_pos h4]
          · rw [if_neg h4, if_neg h4]
            cases numS ((b :: t).take (numLen (b :: t))) <;> simp [putT]
        · rw [if_neg h3, if_neg h3]
          by_cases h5 : b.toNat = 34
          · rw [if_pos h5, if_pos h5]
            split <;> simp [putT]
          · rw [if_neg h5, if_neg h5]
            split <;> simp [putT]

theorem signS_len (l : List UInt8) : (signS l).length ≤ l.length := by
  unfold signS
  cases h : signs.find? fun x => x.isPrefixOf l with
  | none => simp
  | some x =>
    have h2 : x.isPrefixOf l = true := by simpa using List.find?_some h
    exact (List.isPrefixOf_iff_prefix.1 h2).length_le
theorem quotS_len : ∀ (l : List UInt8) (q : Bool), quotS q l ≤ l.length
  | [], _ => by simp [quotS]
  | b :: r, q => by
    simp only [quotS]
    split
    · simp
    · have := quotS_len r (decide (b.toNat = 92 ∧ q = false)); simp only [List.length_cons]; omega
theorem numLen_len : ∀ (l : List UInt8), numLen l ≤ l.length
  | [] => by simp [numLen]
  | b :: r => by
    simp only [numLen]
    split
    · have := runS_le isDig r; simp only [List.length_cons]; omega
    · exact runS_le _ _

theorem lexTok_n {r : List UInt8} {g : Bool} {n k g'} (h : lexTok r g = .inr (n, k, g')) : 1 ≤ n ∧ n ≤ r.length := by
  cases r with
  | nil => cases h
  | cons b t =>
    simp only [lexTok] at h
    split at h
    · injection h with h; injection h with h _; subst h; simp
    · split at h
      · rename_i hl
        split at h
        · cases h
        · injection h with h; injection h with h _; subst h
          exact ⟨runS_pos hl, runS_le _ _⟩
      · split at h
        · rename_i hd
          split at h
          · cases h
          · split at h
            · cases h
            · injection h with h; injection h with h _; subst h
              exact ⟨numLen_pos hd, numLen_len _⟩
        · split at h
          · split at h
            · cases h
            · injection h with h; injection h with h _; subst h
              exact ⟨quotS_pos, quotS_len _ _⟩
          · split at h
            · cases h
            · rename_i hs
              injection h with h; injection h with h _; subst h
              exact ⟨List.length_pos_iff.2 hs, signS_len _⟩

/-- whether a word ended before does not matter, where it goes on -/
theorem lexTok_free {r : List UInt8} {g : Bool} {x} (h : lexTok r g = .inr x) : lexTok r false = .inr x := by
  cases g with
  | false => exact h
  | true =>
    cases r with
    | nil => cases h
    | cons b t =>
      simp only [lexTok] at h ⊢
      split at h
      · rename_i h1; rw [if_pos h1]; exact h
      · rename_i h1; rw [if_neg h1]
        split at h
        · cases h
        · rename_i h2; rw [if_neg h2]
          split at h
          · split at h
            · cases h
            · rename_i h4; simp at h4
          · rename_i h3; rw [if_neg h3]; exact h
theorem lexTok_blank {b : UInt8} {t : List UInt8} (g : Bool) (h : isBlank b.toNat = true) : lexTok (b :: t) g = .inr (1, none, false) := by
  simp only [lexTok]; rw [if_pos h]

/-! ### unquote's codes -/
theorem unqU_code {v acc : List UInt8} {x : Int × List UInt8} (h : unqU v acc = .inl x) : x.1 = 4 ∨ x.1 = 11 := by
  unfold unqU at h
  split at h
  · injection h with h; subst h; exact .inl rfl
  · split at h
    · split at h
      · injection h with h; subst h; exact .inr rfl
      · split at h
        · injection h with h; subst h; exact .inr rfl
        · split at h
          · injection h with h; subst h; exact .inr rfl
          · cases h
    · cases h
theorem unqB_code {v acc : List UInt8} {x : Int × List UInt8} (h : unqB v acc = .inl x) : x.1 = 4 ∨ x.1 = 11 := by
  unfold unqB at h
  split at h
  · injection h with h; subst h; exact .inl rfl
  · split at h
    · exact unqU_code h
    · split at h
      · injection h with h; subst h; exact .inl rfl
      · cases h
/-- where it ends well, a quote stands last -/
theorem unqStep_code {r acc : List UInt8} {x : Int × List UInt8} (h : unqStep (r, acc) = .inl x) : (x.1 = 4 ∨ x.1 = 11) ∨ (x = (0, acc) ∧ ∃ b : UInt8, b.toNat = 34 ∧ r = [b]) := by
  cases r with
  | nil =>
    have h : (Sum.inl (4, []) : (Int × List UInt8) ⊕ (List UInt8 × List UInt8)) = .inl x := h
    injection h with h; subst h; exact .inl (.inl rfl)
  | cons b t =>
    by_cases h34 : b.toNat = 34
    · rw [unqStep_quote h34] at h
      split at h
      · rename_i ht
        injection h with h; subst h
        exact .inr ⟨rfl, b, h34, by rw [ht]⟩
      · injection h with h; subst h; exact .inl (.inl rfl)
    · by_cases h92 : b.toNat = 92
      · rw [unqStep_back h92] at h
        exact .inl (unqB_code h)
      · by_cases h32 : b.toNat < 32
        · rw [unqStep_small h34 h92 h32] at h
          injection h with h; subst h; exact .inl (.inl rfl)
        · rw [unqStep_other h34 h92 h32] at h
          split at h
          · injection h with h; subst h; exact .inl (.inr rfl)
          · cases h
theorem unq_code : ∀ (n : Nat) (r acc : List UInt8), r.length ≤ n → (unq r acc).1 = 0 ∨ (unq r acc).1 = 4 ∨ (unq r acc).1 = 11 := by
  intro n
  induction n with
  | zero =>
    intro r acc hn
    obtain rfl : r = [] := List.eq_nil_of_length_eq_zero (by omega)
    rw [unq_inl (show unqStep ([], acc) = .inl (4, []) from rfl)]
    exact .inr (.inl rfl)
  | succ n ih =>
    intro r acc hn
    cases hs : unqStep (r, acc) with
    | inl x =>
      rw [unq_inl hs]
      rcases unqStep_code hs with h | ⟨h, _⟩
      · exact .inr h
      · exact .inl (by rw [h])
    | inr y =>
      obtain ⟨r', a'⟩ := y
      rw [unq_inr hs]
      have := unqStep_low _ _ hs
      simp only at this
      exact ih r' a' (by omega)
theorem unquoteS_code (l : List UInt8) : (unquoteS l).1 = 0 ∨ (unquoteS l).1 = 4 ∨ (unquoteS l).1 = 11 := by
  unfold unquoteS
  split
  · exact .inr (.inl rfl)
  · split
    · exact unq_code _ _ _ (Nat.le_refl _)
    · exact .inr (.inl rfl)
theorem lexTok_err {r : List UInt8} {g : Bool} {e : Int} (h : lexTok r g = .inl e) : e = 14 ∨ e = 12 ∨ e = 11 := by
  cases r with
  | nil => injection h with h; exact .inl h.symm
  | cons b t =>
    simp only [lexTok] at h
    split at h
    · cases h
    · split at h
      · split at h
        · injection h with h; exact .inl h.symm
        · cases h
      · split at h
        · split at h
          · injection h with h; exact .inl h.symm
          · split at h
            · injection h with h; exact .inr (.inl h.symm)
            · cases h
        · split at h
          · split at h
            · rename_i h0
              injection h with h
              rcases unquoteS_code ((b :: t).take (quotS true (b :: t))) with hc | hc | hc
              · exact absurd hc h0
              · rw [hc] at h; exact .inl (by simpa using h.symm)
              · rw [hc] at h; exact .inr (.inr (by simpa using h.symm))
            · cases h
          · split at h
            · injection h with h; exact .inl h.symm
            · cases h

/-! ### the scan for the closing quote, and what unquote takes -/
/-- bytes over which the scan goes as over one -/
def Plain (pre : List UInt8) : Prop := ∀ z, quotS false (pre ++ z) = pre.length + quotS false z
theorem Plain.nil_ : Plain [] := fun z => by simp
theorem Plain.one {b : UInt8} (h1 : b.toNat ≠ 34) (h2 : b.toNat ≠ 92) : Plain [b] := fun z => by
  show quotS false (b :: z) = _
  rw [quotS, if_neg (by simp [h1])]
  have : decide (b.toNat = 92 ∧ false = false) = false := by simp [h2]
  rw [this]; simp; omega
theorem Plain.cat {a b : List UInt8} (ha : Plain a) (hb : Plain b) : Plain (a ++ b) := fun z => by
  rw [List.append_assoc, ha, hb, List.length_append]; omega
theorem Plain.all : ∀ (l : List UInt8), (∀ b ∈ l, b.toNat ≠ 34 ∧ b.toNat ≠ 92) → Plain l
  | [], _ => Plain.nil_
  | b :: r, h => Plain.cat (a := [b]) (Plain.one (h b (by simp)).1 (h b (by simp)).2) (Plain.all r fun x hx => h x (by simp [hx]))
theorem Plain.back {b c : UInt8} (h : b.toNat = 92) : Plain [b, c] := fun z => by
  show quotS false (b :: c :: z) = _
  rw [quotS, if_neg (by omega)]
  have h1 : decide (b.toNat = 92 ∧ false = false) = true := by simp [h]
  rw [h1, quotS, if_neg (by simp)]
  have h2 : decide (c.toNat = 92 ∧ true = false) = false := by simp
  rw [h2]; simp; omega

theorem hexV_plain {c d : Nat} (h : hexV c = some d) : c ≠ 34 ∧ c ≠ 92 := by
  unfold hexV at h
  repeat' split at h
  all_goals first | omega | cases h
theorem fourF_plain : ∀ (k n : Nat) (l : List UInt8) (m : Nat), fourF k n l = some m → k ≤ l.length ∧ ∀ b ∈ l.take k, b.toNat ≠ 34 ∧ b.toNat ≠ 92
  | 0, n, l, m, h => ⟨Nat.zero_le _, by simp⟩
  | k + 1, n, [], m, h => by cases h
  | k + 1, n, b :: r, m, h => by
    simp only [fourF] at h
    split at h
    · cases h
    · rename_i d hd
      obtain ⟨h1, h2⟩ := fourF_plain k _ r m h
      refine ⟨by simp; omega, fun x hx => ?_⟩
      rw [List.take_succ_cons] at hx
      rcases List.mem_cons.1 hx with rfl | hx
      · exact hexV_plain hd
      · exact h2 x hx

theorem decL_wide {b : UInt8} {t : List UInt8} (h34 : b.toNat ≠ 34) (h92 : b.toNat ≠ 92) : ∀ x ∈ (b :: t).take (max 1 (decL (b :: t)).2), x.toNat ≠ 34 ∧ x.toNat ≠ 92 := by
  have hs : 0 < (⟨(b :: t).toArray⟩ : ByteArray).size := by
    show 0 < (b :: t).toArray.size
    simp
  have h0 : (⟨(b :: t).toArray⟩ : ByteArray)[0]'hs = b := rfl
  by_cases ha : b.toNat < 128
  · have : decL (b :: t) = (b.toNat, 1) := by
      unfold decL
      rw [decode_ascii _ 0 hs (by rw [h0]; exact ha), h0]
    rw [this]
    simp only [Nat.max_self, List.take_succ_cons, List.take_zero, List.mem_singleton]
    rintro x rfl
    exact ⟨h34, h92⟩
  · have hd := decode_high (⟨(b :: t).toArray⟩ : ByteArray) 0 hs (by rw [h0]; omega)
    have hw := decode_wide (⟨(b :: t).toArray⟩ : ByteArray) 0 hs (by rw [h0]; omega)
    have hmax : max 1 (decL (b :: t)).2 = (decL (b :: t)).2 := by
      have : 1 ≤ (decL (b :: t)).2 := hd.2
      omega
    rw [hmax]
    intro x hx
    obtain ⟨j, hj, rfl⟩ := List.getElem_of_mem hx
    rw [List.length_take] at hj
    obtain ⟨h1, h2⟩ := hw j (by show j < (decL (b :: t)).2; omega)
    have e : (⟨(b :: t).toArray⟩ : ByteArray)[0 + j]'h1 = ((b :: t).take (decL (b :: t)).2)[j]'(by rw [List.length_take]; omega) := by
      simp only [List.getElem_take]
      show (b :: t).toArray[0 + j] = _
      simp
    rw [e] at h2
    omega

theorem unqU_plain {v acc r' a' : List UInt8} (h : unqU v acc = .inr (r', a')) : ∃ pre, v = pre ++ r' ∧ Plain pre := by
  unfold unqU at h
  split at h
  · cases h
  · rename_i x hx
    obtain ⟨hl, hp⟩ := fourF_plain 4 0 v x hx
    split at h
    · split at h
      · cases h
      · rename_i hc
        split at h
        · cases h
        · rename_i y hy
          split at h
          · cases h
          · injection h with h; injection h with h _; subst h
            obtain ⟨hl2, hp2⟩ := fourF_plain 4 0 _ y hy
            have hpre : [(92 : UInt8), 117] <+: v.drop 4 := by
              have : Lib.hasPrefix (v.drop 4) [92, 117] = true := by
                cases hh : Lib.hasPrefix (v.drop 4) [92, 117] with
                | true => rfl
                | false => exact absurd (.inr hh) hc
              exact List.isPrefixOf_iff_prefix.1 this
            obtain ⟨z, hz⟩ := hpre
            have e1 : v = v.take 4 ++ v.drop 4 := (List.take_append_drop 4 v).symm
            have e2 : v.drop 6 = z := by
              have : v.drop 6 = (v.drop 4).drop 2 := by rw [List.drop_drop]
              rw [this, ← hz]; rfl
            have e3 : v.drop 10 = z.drop 4 := by rw [← e2, List.drop_drop]
            refine ⟨v.take 4 ++ ([92, 117] ++ z.take 4), ?_, ?_⟩
            · rw [e3, List.append_assoc, List.append_assoc, List.take_append_drop, hz, ← e1]
            · refine Plain.cat (Plain.all _ hp) (Plain.cat (Plain.back rfl) (Plain.all _ ?_))
              rw [e2] at hp2
              exact hp2
    · injection h with h; injection h with h _; subst h
      exact ⟨v.take 4, (List.take_append_drop 4 v).symm, Plain.all _ hp⟩

theorem unqStep_plain {r acc r' a' : List UInt8} (h : unqStep (r, acc) = .inr (r', a')) : ∃ pre, r = pre ++ r' ∧ Plain pre := by
  cases r with
  | nil => cases h
  | cons b t =>
    by_cases h34 : b.toNat = 34
    · rw [unqStep_quote h34] at h
      split at h <;> cases h
    · by_cases h92 : b.toNat = 92
      · rw [unqStep_back h92] at h
        unfold unqB at h
        split at h
        · cases h
        · rename_i c v
          split at h
          · obtain ⟨pre, e, hp⟩ := unqU_plain h
            exact ⟨[b, c] ++ pre, by rw [e]; rfl, Plain.cat (Plain.back h92) hp⟩
          · split at h
            · cases h
            · injection h with h; injection h with h _; subst h
              exact ⟨[b, c], rfl, Plain.back h92⟩
      · by_cases h32 : b.toNat < 32
        · rw [unqStep_small h34 h92 h32] at h; cases h
        · rw [unqStep_other h34 h92 h32] at h
          split at h
          · cases h
          · injection h with h; injection h with h _; subst h
            exact ⟨_, (List.take_append_drop _ _).symm, Plain.all _ (decL_wide h34 h92)⟩

/-- what ends well is closed by its last byte -/
theorem unq_closed : ∀ (n : Nat) (r acc x : List UInt8), r.length ≤ n → unq r acc = (0, x) → ∀ s, quotS false (r ++ s) = r.length := by
  intro n
  induction n with
  | zero =>
    intro r acc x hn h
    obtain rfl : r = [] := List.eq_nil_of_length_eq_zero (by omega)
    rw [unq_inl (show unqStep ([], acc) = .inl (4, []) from rfl)] at h
    cases h
  | succ n ih =>
    intro r acc x hn h s
    cases hs : unqStep (r, acc) with
    | inl y =>
      rw [unq_inl hs] at h
      subst h
      rcases unqStep_code hs with (h | h) | ⟨h, b, hb, rfl⟩
      · cases h
      · cases h
      · show quotS false (b :: s) = 1
        rw [quotS, if_pos ⟨hb, rfl⟩]
    | inr y =>
      obtain ⟨r', a'⟩ := y
      rw [unq_inr hs] at h
      have := unqStep_low _ _ hs
      simp only at this
      obtain ⟨pre, rfl, hp⟩ := unqStep_plain hs
      rw [List.append_assoc, hp, ih r' a' x (by omega) h, List.length_append]
theorem unquoteS_closed {l x : List UInt8} (h : unquoteS l = (0, x)) (s : List UInt8) : quotS true (l ++ s) = l.length := by
  unfold unquoteS at h
  split at h
  · cases h
  · rename_i b t
    split at h
    · rename_i hb
      show quotS true (b :: (t ++ s)) = _
      rw [quotS, if_neg (by simp)]
      have : decide (b.toNat = 92 ∧ true = false) = false := by simp
      rw [this, unq_closed _ t [] x (Nat.le_refl _) h, List.length_cons]
    · cases h

/-! ### what comes behind a blank -/
theorem runS_ext (p : Int → Bool) (c : UInt8) (s : List UInt8) (hc : p (c.toNat : Int) = false) : ∀ r : List UInt8, runS p (r ++ c :: s) = runS p r
  | [] => by show runS p (c :: s) = 0; simp [runS, hc]
  | b :: r => by
    show runS p (b :: (r ++ c :: s)) = _
    simp only [runS, runS_ext p c s hc r]
theorem numLen_ext (c : UInt8) (s : List UInt8) (hc : isDig (c.toNat : Int) = false) : ∀ r : List UInt8, r ≠ [] → numLen (r ++ c :: s) = numLen r
  | [], h => absurd rfl h
  | b :: r, _ => by
    show numLen (b :: (r ++ c :: s)) = _
    simp only [numLen]
    rw [runS_ext isDig c s hc r, show runS isDig (b :: (r ++ c :: s)) = runS isDig (b :: r) from runS_ext isDig c s hc (b :: r)]
theorem prefix_ext (c : UInt8) (s : List UInt8) : ∀ (x r : List UInt8), c ∉ x → x.isPrefixOf (r ++ c :: s) = x.isPrefixOf r
  | [], r, _ => by simp
  | a :: x, [], h => by
    show (a == c && x.isPrefixOf s) = false
    have : (a == c) = false := by rw [beq_eq_false_iff_ne]; rintro rfl; exact h (by simp)
    rw [this]; rfl
  | a :: x, b :: r, h => by
    show (a == b && x.isPrefixOf (r ++ c :: s)) = (a == b && x.isPrefixOf r)
    rw [prefix_ext c s x r (fun hx => h (by simp [hx]))]
theorem blank_list {c : UInt8} (h : isBlank c.toNat = true) : c = 32 ∨ c = 9 ∨ c = 10 ∨ c = 13 := by
  unfold isBlank at h
  have := of_decide_eq_true h
  rcases this with h | h | h | h
  · exact .inl (UInt8.toNat_inj.1 h)
  · exact .inr (.inl (UInt8.toNat_inj.1 h))
  · exact .inr (.inr (.inl (UInt8.toNat_inj.1 h)))
  · exact .inr (.inr (.inr (UInt8.toNat_inj.1 h)))
theorem signS_ext (c : UInt8) (s r : List UInt8) (hc : isBlank c.toNat = true) : signS (r ++ c :: s) = signS r := by
  have key : ∀ x ∈ signs, x.isPrefixOf (r ++ c :: s) = x.isPrefixOf r := fun x hx => prefix_ext c s x r (by
    rcases blank_list hc with rfl | rfl | rfl | rfl <;> (revert x; decide))
  unfold signS
  congr 1
  revert key
  generalize signs = L
  intro key
  induction L with
  | nil => rfl
  | cons x L ih =>
    rw [List.find?_cons, List.find?_cons, key x (by simp), ih fun y hy => key y (by simp [hy])]
theorem take_ext (r s : List UInt8) (n : Nat) (h : n ≤ r.length) : (r ++ s).take n = r.take n := by
  rw [List.take_append_of_le_length h]
theorem blank_not {c : UInt8} (h : isBlank c.toNat = true) : isLet (c.toNat : Int) = false ∧ isDig (c.toNat : Int) = false ∧ isAln (c.toNat : Int) = false := by
  rcases blank_list h with rfl | rfl | rfl | rfl <;> decide

/-- a token is the same where a blank comes behind -/
theorem lexTok_ext {r : List UInt8} {g : Bool} {x} (c : UInt8) (s : List UInt8) (hc : isBlank c.toNat = true) (h : lexTok r g = .inr x) : lexTok (r ++ c :: s) g = .inr x := by
  obtain ⟨hcl, hcd, hca⟩ := blank_not hc
  cases r with
  | nil => cases h
  | cons b t =>
    have e1 : runS isAln (b :: (t ++ c :: s)) = runS isAln (b :: t) := runS_ext isAln c s hca (b :: t)
    have e2 : numLen (b :: (t ++ c :: s)) = numLen (b :: t) := numLen_ext c s hcd (b :: t) (by simp)
    have e3 : signS (b :: (t ++ c :: s)) = signS (b :: t) := signS_ext c s (b :: t) hc
    have e4 : ∀ n, n ≤ (b :: t).length → (b :: (t ++ c :: s)).take n = (b :: t).take n := fun n hn => take_ext (b :: t) (c :: s) n hn
    show lexTok (b :: (t ++ c :: s)) g = _
    simp only [lexTok] at h ⊢
    rw [e1, e2, e3, e4 _ (runS_le _ _), e4 _ (numLen_len _)]
    split at h
    · rename_i h1; rw [if_pos h1]; exact h
    · rename_i h1; rw [if_neg h1]
      split at h
      · rename_i h2; rw [if_pos h2]; exact h
      · rename_i h2; rw [if_neg h2]
        split at h
        · rename_i h3; rw [if_pos h3]; exact h
        · rename_i h3; rw [if_neg h3]
          split at h
          · rename_i h4; rw [if_pos h4]
            split at h
            · cases h
            · rename_i h5
              have h0 : (unquoteS ((b :: t).take (quotS true (b :: t)))).1 = 0 := by simpa using h5
              have hq : quotS true (b :: (t ++ c :: s)) = quotS true (b :: t) := by
                have hx : unquoteS ((b :: t).take (quotS true (b :: t))) = (0, (unquoteS ((b :: t).take (quotS true (b :: t)))).2) := by rw [← h0]
                have := unquoteS_closed hx ((b :: t).drop (quotS true (b :: t)) ++ c :: s)
                rw [← List.append_assoc, List.take_append_drop, List.length_take, Nat.min_eq_left (quotS_len _ _)] at this
                exact this
              rw [hq, e4 _ (quotS_len _ _), if_neg h5]
              exact h
          · rename_i h4; rw [if_neg h4]; exact h
/-- so is a number that may not be -/
theorem lexTok_ext12 {r : List UInt8} {g : Bool} (c : UInt8) (s : List UInt8) (hc : isBlank c.toNat = true) (h : lexTok r g = .inl 12) : lexTok (r ++ c :: s) g = .inl 12 := by
  obtain ⟨hcl, hcd, hca⟩ := blank_not hc
  cases r with
  | nil => cases h
  | cons b t =>
    have e2 : numLen (b :: (t ++ c :: s)) = numLen (b :: t) := numLen_ext c s hcd (b :: t) (by simp)
    have e4 : ∀ n, n ≤ (b :: t).length → (b :: (t ++ c :: s)).take n = (b :: t).take n := fun n hn => take_ext (b :: t) (c :: s) n hn
    show lexTok (b :: (t ++ c :: s)) g = _
    simp only [lexTok] at h ⊢
    rw [e2, e4 _ (numLen_len _)]
    split at h
    · cases h
    · rename_i h1; rw [if_neg h1]
      split at h
      · split at h <;> cases h
      · rename_i h2; rw [if_neg h2]
        split at h
        · rename_i h3; rw [if_pos h3]; exact h
        · split at h
          · split at h
            · injection h with h
              rcases unquoteS_code ((b :: t).take (quotS true (b :: t))) with hc | hc | hc
              · rw [hc] at h; cases h
              · rw [hc] at h; cases h
              · rw [hc] at h; cases h
            · cases h
          · split at h <;> cases h
end Go.Proofs.YthogialdoikanaaDoor
