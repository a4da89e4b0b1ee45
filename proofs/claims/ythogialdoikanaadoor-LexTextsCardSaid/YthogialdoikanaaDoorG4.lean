/- A token's text has that token again; so has a whole text's print. No program in sight. -/
import Derived.Test.YthogialdoikanaaDoorG2
import Derived.Test.YthogialdoikanaaDoorG3
namespace Go.Proofs.YthogialdoikanaaDoor

/-! ### numbers -/
theorem digit_nat {d : Nat} (h : d < 10) : (UInt8.ofNat (48 + d)).toNat = 48 + d := by
  show (48 + d) % 256 = 48 + d
  omega
theorem decDigits_all (u : Nat) : ∀ b ∈ Lib.decDigits u, isDig (b.toNat : Int) = true := by
  induction u using Nat.strongRecOn with
  | _ u ih =>
    by_cases h : u < 10
    · rw [Lib.decDigits, dif_pos h]
      intro b hb
      obtain rfl : b = UInt8.ofNat (48 + u) := by simpa using hb
      rw [digit_nat h]
      unfold isDig
      exact decide_eq_true (by omega)
    · rw [Lib.decDigits, dif_neg h]
      intro b hb
      rcases List.mem_append.1 hb with hb | hb
      · exact ih (u / 10) (by omega) b hb
      · obtain rfl : b = UInt8.ofNat (48 + u % 10) := by simpa using hb
        rw [digit_nat (by omega)]
        unfold isDig
        exact decide_eq_true (by omega)
theorem decDigits_ne (u : Nat) : Lib.decDigits u ≠ [] := by
  have := Lib.decDigits_length u
  have h2 := Lib.nDigits_pos u
  intro h
  rw [h] at this
  simp at this
  omega
theorem decDigits_head (u : Nat) (b : UInt8) (r : List UInt8) (h : Lib.decDigits u = b :: r) : b.toNat = 48 → u = 0 := by
  induction u using Nat.strongRecOn generalizing b r with
  | _ u ih =>
    by_cases hu : u < 10
    · rw [Lib.decDigits, dif_pos hu] at h
      injection h with h _
      subst h
      rw [digit_nat hu]
      omega
    · rw [Lib.decDigits, dif_neg hu] at h
      cases hd : Lib.decDigits (u / 10) with
      | nil => exact absurd hd (decDigits_ne _)
      | cons c q =>
        rw [hd] at h
        injection h with h _
        subst h
        intro h48
        have := ih (u / 10) (by omega) c q hd h48
        omega
theorem parse_digits (u : Nat) (hu : u ≤ 18446744073709551615) : ∀ z, Lib.parseUintM 18446744073709551615 0 (Lib.decDigits u ++ z) = Lib.parseUintM 18446744073709551615 u z := by
  induction u using Nat.strongRecOn with
  | _ u ih =>
    intro z
    by_cases h : u < 10
    · rw [Lib.decDigits, dif_pos h]
      show Lib.parseUintM _ 0 (UInt8.ofNat (48 + u) :: z) = _
      simp only [Lib.parseUintM]
      rw [digit_nat h, if_pos (by omega), if_neg (by omega), if_neg (by omega)]
      have e : 0 * 10 + (48 + u - 48) = u := by omega
      rw [e]
    · rw [Lib.decDigits, dif_neg h, List.append_assoc, ih (u / 10) (by omega) (by omega)]
      show Lib.parseUintM _ (u / 10) (UInt8.ofNat (48 + u % 10) :: z) = _
      simp only [Lib.parseUintM]
      rw [digit_nat (by omega), if_pos (by omega), if_neg (by omega), if_neg (by omega)]
      have e : u / 10 * 10 + (48 + u % 10 - 48) = u := by omega
      rw [e]
theorem nDigits_19 {u : Nat} (h : u ≤ 9223372036854775808) : Lib.nDigits u ≤ 19 := by
  rcases Nat.lt_or_ge 19 (Lib.nDigits u) with h1 | h1
  · exfalso
    have key : ∀ (k u : Nat), k + 1 < Lib.nDigits u → 10 ^ (k + 1) ≤ u := by
      intro k
      induction k with
      | zero =>
        intro u hk
        rcases Nat.lt_or_ge u 10 with h | h
        · rw [Lib.nDigits_small h] at hk; omega
        · simpa using h
      | succ k ih =>
        intro u hk
        rcases Nat.lt_or_ge u 10 with h | h
        · rw [Lib.nDigits_small h] at hk; omega
        · rw [Lib.nDigits_big (by omega)] at hk
          have := ih (u / 10) (by omega)
          rw [Nat.pow_succ]
          omega
    have := key 18 u h1
    omega
  · exact h1
theorem parse_itoa (v : Int) (h1 : -9223372036854775808 ≤ v) (h2 : v ≤ 9223372036854775807) : Lib.parseIntB 64 (Lib.itoa v) = .ok v := by
  unfold Lib.itoa
  by_cases hv : v < 0
  · rw [if_pos hv]
    unfold Lib.parseIntB
    simp only
    have e : (if (45 : UInt8).toNat = 43 ∨ (45 : UInt8).toNat = 45 then Lib.decDigits v.natAbs else 45 :: Lib.decDigits v.natAbs) = Lib.decDigits v.natAbs := if_pos (.inr rfl)
    rw [e]
    have hp : Lib.parseUintB 64 (Lib.decDigits v.natAbs) = .ok v.natAbs := by
      unfold Lib.parseUintB
      rw [if_neg (decDigits_ne _)]
      have := parse_digits v.natAbs (by omega) []
      rw [List.append_nil] at this
      exact this
    rw [hp]
    simp only
    rw [if_neg (by intro h; exact h.1 rfl), if_neg (by intro h; have := h.2; omega), if_pos (show UInt8.toNat 45 = 45 from rfl)]
    congr 1
    omega
  · rw [if_neg hv]
    cases hd : Lib.decDigits v.toNat with
    | nil => exact absurd hd (decDigits_ne _)
    | cons c q =>
      have hc := decDigits_all v.toNat c (by rw [hd]; simp)
      unfold isDig at hc
      have hc := of_decide_eq_true hc
      unfold Lib.parseIntB
      simp only
      rw [if_neg (by omega)]
      have hp : Lib.parseUintB 64 (c :: q) = .ok v.toNat := by
        rw [← hd]
        unfold Lib.parseUintB
        rw [if_neg (decDigits_ne _)]
        have := parse_digits v.toNat (by omega) []
        rw [List.append_nil] at this
        exact this
      rw [hp]
      simp only
      rw [if_neg (by intro h; have := h.2; omega), if_neg (by intro h; omega), if_neg (by omega)]
      congr 1
      omega
theorem numS_bounds {l : List UInt8} {v : Int} (h : numS l = some v) : -9223372036854775808 ≤ v ∧ v ≤ 9223372036854775807 := by
  unfold numS at h
  cases hp : Lib.parseIntB 64 l with
  | ok x =>
    rw [hp] at h
    simp only at h
    split at h
    · cases h
    · injection h with h
      subst h
      unfold Lib.parseIntB at hp
      cases l with
      | nil => cases hp
      | cons c r =>
        simp only at hp
        split at hp
        · cases hp
        · cases hp
        · rename_i u _
          split at hp
          · cases hp
          · split at hp
            · cases hp
            · injection hp with hp
              split at hp <;> omega
  | range => rw [hp] at h; cases h
  | _ => rw [hp] at h; cases h
theorem numS_itoa (v : Int) (h1 : -9223372036854775808 ≤ v) (h2 : v ≤ 9223372036854775807) : numS (Lib.itoa v) = some v := by
  unfold numS
  rw [parse_itoa v h1 h2]
  simp only
  rw [if_neg]
  have hb : bare (Lib.itoa v) = Lib.decDigits v.natAbs := by
    unfold Lib.itoa bare
    by_cases hv : v < 0
    · rw [if_pos hv, if_pos (show Lib.hasPrefix (45 :: Lib.decDigits v.natAbs) [45] = true from by simp [Lib.hasPrefix])]; rfl
    · rw [if_neg hv]
      have e : v.toNat = v.natAbs := by omega
      rw [e]
      cases hd : Lib.decDigits v.natAbs with
      | nil => exact absurd hd (decDigits_ne _)
      | cons c q =>
        have hc := decDigits_all v.natAbs c (by rw [hd]; simp)
        unfold isDig at hc
        have hc := of_decide_eq_true hc
        rw [if_neg]
        intro hh
        have : (45 : UInt8) = c := by simpa [Lib.hasPrefix] using hh
        subst this
        revert hc; decide
  rw [hb, Lib.decDigits_length]
  have := nDigits_19 (u := v.natAbs) (by omega)
  intro h
  rcases h with h | ⟨h3, h4⟩
  · omega
  · cases hd : Lib.decDigits v.natAbs with
    | nil => exact absurd hd (decDigits_ne _)
    | cons c q =>
      rw [hd] at h3
      have h48 : c.toNat = 48 := by simpa using h3
      have h0 := decDigits_head _ c q hd h48
      obtain rfl : v = 0 := by omega
      apply h4
      decide +kernel
theorem runS_all (p : Int → Bool) : ∀ l : List UInt8, (∀ b ∈ l, p (b.toNat : Int) = true) → runS p l = l.length
  | [], _ => rfl
  | b :: r, h => by
    simp only [runS]
    rw [if_pos (h b (by simp)), runS_all p r fun c hc => h c (by simp [hc])]
    rfl
theorem runS_take (p : Int → Bool) : ∀ l : List UInt8, ∀ b ∈ l.take (runS p l), p (b.toNat : Int) = true
  | [], b, h => by simp at h
  | c :: r, b, h => by
    simp only [runS] at h
    split at h
    · rename_i hc
      rw [List.take_succ_cons] at h
      rcases List.mem_cons.1 h with rfl | h
      · exact hc
      · exact runS_take p r b h
    · simp at h
theorem isDig_small {c : Int} (h : isDig c = true) : isBlank c.toNat = false ∧ isLet c = false ∧ 48 ≤ c ∧ c ≤ 57 := by
  unfold isDig at h
  have h := of_decide_eq_true h
  refine ⟨?_, ?_, h.1, h.2⟩
  · unfold isBlank; exact decide_eq_false (by omega)
  · unfold isLet; exact decide_eq_false (by omega)
theorem lexTok_itoa (v : Int) (h1 : -9223372036854775808 ≤ v) (h2 : v ≤ 9223372036854775807) : lexTok (Lib.itoa v) false = .inr ((Lib.itoa v).length, some (2, [], v), true) ∧ Lib.itoa v ≠ [] := by
  have hn := numS_itoa v h1 h2
  have hd := decDigits_all v.natAbs
  have hne := decDigits_ne v.natAbs
  have hi : Lib.itoa v = if v < 0 then 45 :: Lib.decDigits v.natAbs else Lib.decDigits v.natAbs := by
    unfold Lib.itoa
    by_cases hv : v < 0
    · rw [if_pos hv, if_pos hv]
    · rw [if_neg hv, if_neg hv]
      congr 1
      omega
  generalize Lib.decDigits v.natAbs = D at hd hne hi
  cases D with
  | nil => exact absurd rfl hne
  | cons c q =>
    have hc := isDig_small (hd c (by simp))
    have hl : numLen (Lib.itoa v) = (Lib.itoa v).length := by
      rw [hi]
      by_cases hv : v < 0
      · rw [if_pos hv]
        simp only [numLen]
        rw [if_pos (show UInt8.toNat 45 = 45 from rfl), runS_all isDig _ hd]
        simp; omega
      · rw [if_neg hv]
        simp only [numLen]
        rw [if_neg (by omega), runS_all isDig _ hd]
    have hlen : 1 ≤ (Lib.itoa v).length ∧ (v < 0 → 2 ≤ (Lib.itoa v).length) := by
      rw [hi]
      by_cases hv : v < 0
      · rw [if_pos hv]; simp
      · rw [if_neg hv]; simp; omega
    have hfirst : ∃ b t, Lib.itoa v = b :: t ∧ isBlank b.toNat = false ∧ isLet (b.toNat : Int) = false ∧ (isDig (b.toNat : Int) || decide (b.toNat = 45)) = true ∧ (b.toNat = 45 → v < 0) := by
      rw [hi]
      by_cases hv : v < 0
      · rw [if_pos hv]; exact ⟨45, _, rfl, by decide, by decide, by decide, fun _ => hv⟩
      · rw [if_neg hv]
        refine ⟨c, q, rfl, ?_, hc.2.1, by rw [hd c (by simp)]; rfl, fun h => by omega⟩
        have := hc.1
        rwa [Int.toNat_natCast] at this
    obtain ⟨b, t, hbt, f1, f2, f3, f4⟩ := hfirst
    refine ⟨?_, by rw [hbt]; simp⟩
    rw [hbt] at hn hl hlen ⊢
    simp only [lexTok]
    rw [if_neg (by rw [f1]; decide), if_neg (by rw [f2]; decide), if_pos f3, hl, List.take_length, hn]
    simp only [Bool.false_or]
    rw [if_neg]
    intro h
    have h := of_decide_eq_true h
    have := f4 h.2
    have := hlen.2 this
    omega

/-! ### signs -/
theorem signS_mem {l : List UInt8} (h : signS l ≠ []) : signS l ∈ signs := by
  unfold signS at h ⊢
  cases hx : signs.find? fun x => x.isPrefixOf l with
  | none => rw [hx] at h; exact absurd rfl h
  | some x => exact List.mem_of_find?_eq_some hx
theorem sign_back : ∀ x ∈ signs, signS x = x ∧ lexTok x false = .inr (x.length, some (4, x, 0), false) := by
  intro x hx
  simp only [signs, List.mem_cons, List.not_mem_nil, or_false] at hx
  rcases hx with rfl | rfl | rfl | rfl | rfl | rfl | rfl | rfl | rfl | rfl | rfl | rfl | rfl | rfl | rfl
  all_goals exact ⟨by decide +kernel, by rfl⟩

/-! ### a token's text -/
/-- what the lexer finds, printed, is found again -/
theorem tok_back {r : List UInt8} {g : Bool} {n : Nat} {k : Int} {s : List UInt8} {m : Int} {g' : Bool} (h : lexTok r g = .inr (n, some (k, s, m), g')) (p : Int) :
    ∃ x g'', textS ⟨k, s, m, p⟩ = (0, x) ∧ x ≠ [] ∧ lexTok x false = .inr (x.length, some (k, s, m), g'') := by
  cases r with
  | nil => cases h
  | cons b t =>
    simp only [lexTok] at h
    split at h
    · cases h
    · rename_i hb
      split at h
      · rename_i hl
        split at h
        · cases h
        · injection h with h; injection h with _ h; injection h with h _; injection h with h; injection h with e1 h; injection h with e2 e3
          subst e1; subst e2; subst e3
          have hp := runS_pos (t := t) hl
          have hle := runS_le isAln (b :: t)
          have hall := runS_take isAln (b :: t)
          obtain ⟨j, hj⟩ : ∃ j, runS isAln (b :: t) = j + 1 := ⟨runS isAln (b :: t) - 1, by omega⟩
          rw [hj] at hall hle ⊢
          have hlen : ((b :: t).take (j + 1)).length = j + 1 := by rw [List.length_take]; omega
          have hr := runS_all isAln _ hall
          rw [hlen] at hr
          rw [List.take_succ_cons] at hr hlen ⊢
          have hdb : isDig (b.toNat : Int) = false := by
            cases hd : isDig (b.toNat : Int) with
            | false => rfl
            | true => have := (isDig_small hd).2.1; rw [hl] at this; cases this
          refine ⟨b :: t.take j, true, ?_, by simp, ?_⟩
          · unfold textS
            have hw : isWordS (b :: t.take j) = true := by
              show (!isDig (b.toNat : Int) && decide (runS isAln (b :: t.take j) = (b :: t.take j).length)) = true
              rw [hdb, hr, hlen]
              simp
            rw [if_pos ⟨rfl, rfl, hw⟩]
          · simp only [lexTok]
            rw [if_neg hb, if_pos hl, hr, hlen, List.take_of_length_le (by rw [hlen]; exact Nat.le_refl _)]
            rfl
      · rename_i hl
        split at h
        · rename_i hd
          split at h
          · cases h
          · split at h
            · cases h
            · rename_i v hv
              injection h with h; injection h with _ h; injection h with h _; injection h with h; injection h with e1 h; injection h with e2 e3
              subst e1; subst e2; subst e3
              obtain ⟨b1, b2⟩ := numS_bounds hv
              obtain ⟨h3, h4⟩ := lexTok_itoa v b1 b2
              refine ⟨Lib.itoa v, true, ?_, h4, h3⟩
              unfold textS
              rw [if_neg (by simp), if_neg (by simp), if_pos ⟨rfl, rfl⟩]
        · rename_i hd
          split at h
          · rename_i h34
            split at h
            · cases h
            · rename_i h0
              injection h with h; injection h with _ h; injection h with h _; injection h with h; injection h with e1 h; injection h with e2 e3
              subst e1; subst e2; subst e3
              have h0 : (unquoteS ((b :: t).take (quotS true (b :: t)))).1 = 0 := by simpa using h0
              have hU : unquoteS ((b :: t).take (quotS true (b :: t))) = (0, (unquoteS ((b :: t).take (quotS true (b :: t)))).2) := by rw [← h0]
              generalize (unquoteS ((b :: t).take (quotS true (b :: t)))).2 = X at hU ⊢
              have hv := unquoteS_valid hU
              have hq := unquote_quote hv
              have hc := unquoteS_closed hq []
              have he : (quoteS X) = (0, 34 :: (escS X ++ [34])) := by unfold quoteS; rw [if_pos hv]
              rw [he] at hq hc
              simp only [List.append_nil] at hq hc
              refine ⟨34 :: (escS X ++ [34]), false, ?_, by simp, ?_⟩
              · unfold textS
                rw [if_neg (by simp), if_neg (by simp), if_neg (by simp), if_pos ⟨rfl, rfl⟩, he]
              · simp only [lexTok]
                rw [hc, List.take_length, hq]
                rfl
          · rename_i h34
            split at h
            · cases h
            · rename_i h0
              injection h with h; injection h with _ h; injection h with h _; injection h with h; injection h with e1 h; injection h with e2 e3
              subst e1; subst e2; subst e3
              have hm : signS (b :: t) ∈ signs := signS_mem h0
              generalize signS (b :: t) = X at hm h0 ⊢
              obtain ⟨h1, h2⟩ := sign_back X hm
              refine ⟨X, false, ?_, h0, h2⟩
              unfold textS
              rw [if_neg (by simp), if_pos ⟨rfl, rfl, h0, h1⟩]

/-! ### a text's print -/
def strip (t : Tok) : Int × List UInt8 × Int := (t.k, t.s, t.n)
theorem textS_strip {a b : Tok} (h : strip a = strip b) : textS a = textS b := by
  obtain ⟨a1, a2, a3, a4⟩ := a
  obtain ⟨b1, b2, b3, b4⟩ := b
  simp only [strip, Prod.mk.injEq] at h
  obtain ⟨rfl, rfl, rfl⟩ := h
  rfl
theorem wordsS_strip : ∀ l m : List Tok, l.map strip = m.map strip → wordsS l = wordsS m
  | [], [], _ => rfl
  | [], b :: m, h => by simp at h
  | a :: l, [], h => by simp at h
  | a :: l, b :: m, h => by
    simp only [List.map_cons, List.cons.injEq] at h
    have hk : a.k = b.k := by
      have := h.1
      simp only [strip, Prod.mk.injEq] at this
      exact this.1
    simp only [wordsS]
    rw [hk, textS_strip h.1, wordsS_strip l m h.2]
theorem printS_strip {l m : List Tok} (h : l.map strip = m.map strip) : printS l = printS m := by unfold printS; rw [wordsS_strip l m h]

/-- a token whose text is that token -/
def BackT (t : Tok) : Prop := t.k ≠ 0 ∧ ∃ x g, textS t = (0, x) ∧ x ≠ [] ∧ lexTok x false = .inr (x.length, some (strip t), g)
theorem Lexes.back {r : List UInt8} {p : Nat} {g : Bool} {l : List Tok} (h : Lexes r p g l) : ∃ ts q, l = ts ++ [⟨0, [], 0, q⟩] ∧ ∀ t ∈ ts, BackT t := by
  induction h using Lexes.ind with
  | done p g => exact ⟨[], p, rfl, by simp⟩
  | @on r p g n k g' l hr ht hl ih =>
    obtain ⟨ts, q, rfl, hb⟩ := ih
    cases k with
    | none => exact ⟨ts, q, rfl, hb⟩
    | some x =>
      obtain ⟨a, s, m⟩ := x
      refine ⟨⟨a, s, m, p⟩ :: ts, q, rfl, fun t ht' => ?_⟩
      rcases List.mem_cons.1 ht' with rfl | h
      · obtain ⟨x, g'', h1, h2, h3⟩ := tok_back ht p
        exact ⟨lexTok_kind ht, x, g'', h1, h2, h3⟩
      · exact hb t h
theorem words_back (q : Int) : ∀ ts : List Tok, (∀ t ∈ ts, BackT t) → wordsS (ts ++ [⟨0, [], 0, q⟩]) = (0, ts.map fun t => (textS t).2)
  | [], _ => rfl
  | t :: r, h => by
    obtain ⟨hk, x, g, h1, h2, h3⟩ := h t (by simp)
    have ih := words_back q r fun y hy => h y (by simp [hy])
    show wordsS (t :: (r ++ [⟨0, [], 0, q⟩])) = _
    simp only [wordsS]
    rw [if_neg hk, ih, List.map_cons, h1]
    simp
theorem join_back : ∀ (ts : List Tok), (∀ t ∈ ts, BackT t) → ∀ p, ∃ m, Lexes (Lib.join (ts.map fun t => (textS t).2) [32]) p false m ∧ m.map strip = ts.map strip ++ [(0, [], 0)]
  | [], _, p => ⟨_, .done p false, rfl⟩
  | [t], h, p => by
    obtain ⟨hk, x, g, h1, h2, h3⟩ := h t (by simp)
    have e : Lib.join ([t].map fun t => (textS t).2) [32] = x := by
      show Lib.join [(textS t).2] [32] = x
      rw [Lib.join_one, h1]
    rw [e]
    have hd : x.drop x.length = [] := List.drop_length
    refine ⟨_, .on h2 h3 (by rw [hd]; exact .done _ _), ?_⟩
    obtain ⟨t1, t2, t3, t4⟩ := t
    rfl
  | t :: t2 :: r, h, p => by
    obtain ⟨hk, x, g, h1, h2, h3⟩ := h t (by simp)
    obtain ⟨m, hm, hs⟩ := join_back (t2 :: r) (fun y hy => h y (by simp [hy])) (p + x.length + 1)
    have e : Lib.join ((t :: t2 :: r).map fun t => (textS t).2) [32] = x ++ 32 :: Lib.join ((t2 :: r).map fun t => (textS t).2) [32] := by
      simp only [List.map_cons]
      rw [Lib.join_cons, h1, Lib.join_cons]
      unfold Lib.joinTail
      simp
    rw [e]
    generalize Lib.join ((t2 :: r).map fun t => (textS t).2) [32] = z at hm
    have hd : (x ++ 32 :: z).drop x.length = 32 :: z := List.drop_left
    have hb : Lexes (32 :: z) (p + x.length) g m := Lexes.on (r := 32 :: z) (by simp) (lexTok_blank g (by decide)) hm
    refine ⟨_, .on (by simp) (lexTok_ext 32 z (by decide) h3) (by rw [hd]; exact hb), ?_⟩
    rw [List.map_append, hs]
    obtain ⟨t1, t2, t3, t4⟩ := t
    rfl

/-- BACK: what is printed of a text's tokens has the same tokens -/
theorem lex_back {s : List UInt8} (h : (lexS s).2.2 = 0) : ∃ t, printS (lexS s).1 = (0, t) ∧ ((lexS s).1.getLast?).map Tok.k = some 0 ∧
    (8192 < t.length → lexS t = ([], 0, 2)) ∧ (t.length ≤ 8192 → ∃ m, lexS t = (m, 0, 0) ∧ (lexS s).1.map strip = m.map strip ∧ printS m = (0, t)) := by
  obtain ⟨_, hl⟩ := lexS_ok h
  obtain ⟨ts, q, e, hb⟩ := hl.back
  have hw := words_back q ts hb
  have hp : printS (lexS s).1 = (0, Lib.join (ts.map fun t => (textS t).2) [32]) := by unfold printS; rw [e, hw]; rfl
  refine ⟨_, hp, hl.parts.2.2.2.1, fun h => lexS_big h, fun h => ?_⟩
  obtain ⟨m, hm, hs⟩ := join_back ts hb 0
  have hst : (lexS s).1.map strip = m.map strip := by rw [hs, e, List.map_append]; rfl
  exact ⟨m, lexS_lexes h hm, hst, by rw [← printS_strip hst]; exact hp⟩
end Go.Proofs.YthogialdoikanaaDoor
