/- walk: the answer's own Lex. -/
import Derived.Test.YthogialdoikanaaDoorX2
import Derived.Test.YthogialdoikanaaDoorX3
import Derived.Test.YthogialdoikanaaDoorV1
import Derived.Test.YthogialdoikanaaDoorG1
namespace Go.Proofs.YthogialdoikanaaDoor
open Go.RowKit

theorem lexStep_end (p : Nat) (acc : List Tok) (g : Bool) : lexStep ⟨[], p, acc, g⟩ = .inl (acc ++ [⟨0, [], 0, p⟩], 0, 0) := rfl
theorem lexStep_blank {b : UInt8} {t : List UInt8} {p : Nat} {acc : List Tok} {g : Bool} (h : isBlank b.toNat = true) : lexStep ⟨b :: t, p, acc, g⟩ = .inr ⟨t, p + 1, acc, false⟩ := by
  simp only [lexStep]; rw [if_pos h]
theorem lexStep_word {b : UInt8} {t : List UInt8} {p : Nat} {acc : List Tok} {g : Bool} (h : isBlank b.toNat = false) (hl : isLet (b.toNat : Int) = true) :
    lexStep ⟨b :: t, p, acc, g⟩ = if g then .inl ([], p, 14) else .inr ⟨(b :: t).drop (runS isAln (b :: t)), p + runS isAln (b :: t), acc ++ [⟨1, (b :: t).take (runS isAln (b :: t)), 0, p⟩], true⟩ := by
  simp only [lexStep]; rw [if_neg (by rw [h]; decide), if_pos hl]
theorem lexStep_glue {b : UInt8} {t : List UInt8} {p : Nat} {acc : List Tok} (h : isBlank b.toNat = false) (hl : isLet (b.toNat : Int) = true ∨ isDig (b.toNat : Int) = true ∨ b.toNat = 45) : lexStep ⟨b :: t, p, acc, true⟩ = .inl ([], p, 14) := by
  simp only [lexStep]; rw [if_neg (by rw [h]; decide)]
  by_cases h1 : isLet (b.toNat : Int) = true
  · rw [if_pos h1]; rfl
  · rw [if_neg h1, if_pos (by rcases hl with h2 | h2 | h2 <;> simp_all)]
    rfl
theorem lexStep_numP {b : UInt8} {t : List UInt8} {p n : Nat} {v c : Int} {acc : List Tok} (h : isBlank b.toNat = false) (hl : isLet (b.toNat : Int) = false) (hd : isDig (b.toNat : Int) = true ∨ b.toNat = 45) (hN : numP (b :: t) = (v, n, c)) :
    lexStep ⟨b :: t, p, acc, false⟩ = if c ≠ 0 then .inl ([], p, c) else .inr ⟨(b :: t).drop n, p + n, acc ++ [⟨2, [], v, p⟩], true⟩ := by
  rw [lexStep_num h hl (by rcases hd with h2 | h2 <;> simp [h2])]
  unfold numP at hN
  simp only at hN
  by_cases h1 : numLen (b :: t) = 1 ∧ b.toNat = 45
  · rw [if_pos h1] at hN
    injection hN with e1 e2
    injection e2 with e2 e3
    subst e1 e2 e3
    rw [if_pos (by rw [Bool.false_or]; exact decide_eq_true h1), if_pos (by decide)]
  · rw [if_neg h1] at hN
    rw [if_neg (by rw [Bool.false_or]; simpa using h1)]
    cases hs : numS ((b :: t).take (numLen (b :: t))) with
    | none =>
      rw [hs] at hN
      simp only at hN ⊢
      injection hN with e1 e2
      injection e2 with e2 e3
      subst e1 e2 e3
      rw [if_pos (by decide)]
    | some x =>
      rw [hs] at hN
      simp only at hN ⊢
      injection hN with e1 e2
      injection e2 with e2 e3
      subst e1 e2 e3
      rw [if_neg (by simp)]
theorem lexStep_quot {b : UInt8} {t : List UInt8} {p : Nat} {acc : List Tok} {g : Bool} (hb : b.toNat = 34) (U : Int × List UInt8) (K : Nat) (hU : unq (cutQ t) [] = U) (hK : quotS false t = K) :
    lexStep ⟨b :: t, p, acc, g⟩ = if U.1 ≠ 0 then .inl ([], p, if U.1 = 4 then 14 else U.1) else .inr ⟨t.drop K, p + (1 + K), acc ++ [⟨3, U.2, 0, p⟩], false⟩ := by
  obtain ⟨h1, h2⟩ := take_piece (t := t) hb
  have hbl : isBlank b.toNat = false := by rw [hb]; rfl
  have hl : isLet (b.toNat : Int) = false := by rw [hb]; rfl
  have hd : isDig (b.toNat : Int) = false := by rw [hb]; rfl
  simp only [lexStep]
  rw [if_neg (by rw [hbl]; decide), if_neg (by rw [hl]; decide), if_neg (by rw [hd]; simp; omega), if_pos hb, h1, h2, hU, hK, Nat.add_comm K 1, Nat.add_comm 1 K]
  rfl
theorem lexStep_sign {b : UInt8} {t : List UInt8} {p : Nat} {acc : List Tok} {g : Bool} (h : isBlank b.toNat = false) (hl : isLet (b.toNat : Int) = false) (hd : isDig (b.toNat : Int) = false) (h45 : b.toNat ≠ 45) (h34 : b.toNat ≠ 34) :
    lexStep ⟨b :: t, p, acc, g⟩ = if signS (b :: t) = [] then .inl ([], p, 14) else .inr ⟨(b :: t).drop (signS (b :: t)).length, p + (signS (b :: t)).length, acc ++ [⟨4, signS (b :: t), 0, p⟩], false⟩ := by
  simp only [lexStep]
  rw [if_neg (by rw [h]; decide), if_neg (by rw [hl]; decide), if_neg (by rw [hd]; simp; omega), if_neg h34]
theorem numP_len {b : UInt8} {t : List UInt8} {v : Int} {n : Nat} (h : numP (b :: t) = (v, n, 0)) (hd : isDig (b.toNat : Int) = true ∨ b.toNat = 45) : 1 ≤ n ∧ n ≤ (b :: t).length := by
  unfold numP at h
  simp only at h
  split at h
  · injection h with _ h; injection h with _ h; cases h
  · split at h
    · injection h with _ h; injection h with _ h; cases h
    · injection h with _ h; injection h with h _
      subst h
      exact ⟨numLen_pos (by rcases hd with h2 | h2 <;> simp [h2]), numLen_len _⟩
theorem number_at (s : ByteArray) (k : Nat) (w : World) (N : Int × Nat × Int) (hk : k < s.size) (hs : s.size ≤ 1000000000000) (h : isDig ((s[k]'hk).toNat : Int) = true ∨ (s[k]'hk).toNat = 45) (hN : numP (s.data.toList.drop k) = N) : Calls Tryd.prog 27 #[.string s, .int .i64 k] w (NumPost N k w) := by
  subst hN
  rcases h with h | h
  · exact number_pos s k w hk hs h
  · exact number_neg s k w hk hs h
theorem rlex_bad {s : ByteArray} {w w' : World} {p : Nat} {c q : Int} (h : lexS s.data.toList = ([], p, c)) (hq : q = p) (hb : Below w.heap.size w w') : LexPost s w (.returned (.tuple #[.slice none 0 0, .int .i64 q, .int .i64 c])) w' := by
  subst hq
  exact lex_post_bad h hb
theorem alloc_size (w : World) (O : Obj) : (w.alloc O).heap.size = w.heap.size + 1 := Array.size_push _
theorem wpList_append_tok2 {ops : Array Oper} {rest : List Oper} {o : Oper} {a : Act} {Q : Exit → Act → World → Prop} (w00 w0 : World) (O : Obj) (C : Array Value) (T : TypeId) (hgd : o.guard = none) (s x : Operand)
    (ho : o.op = .call { callee := .builtin .append, args := #[s, x], argTypes := #[22, 22] })
    (v : Value) (acc : List Tok) (t : Tok) (hs : a.eval s = v) (hown : OwnToks w0 w00.heap.size v acc) (hb : Below w00.heap.size w00 w0)
    (hx : a.eval x = .slice (some ⟨w0.heap.size + 1, 0, none⟩) 1 1) (hC : C = (tokC t).toArray) (hl : acc.length ≤ 9000)
    (h : ∀ v' w', OwnToks w' w00.heap.size v' (acc ++ [t]) → Below w00.heap.size w00 w' → wpList Tryd.prog ops Q rest (a.put o.dst v') w') : wpList Tryd.prog ops Q (o :: rest) a ((w0.alloc O).alloc (.cells C T)) :=
  wpList_append_tok w00 (w0.alloc O) C T hgd s x ho v acc t hs (World.ownsRow.alloc hown O) (hb.alloc hb.size O) (by rw [hx, alloc_size]) hC hl h
theorem ext_str (s : ByteArray) (p q : Nat) : (⟨((s.data.toList.drop p).take q).toArray⟩ : ByteArray) = s.extract p (p + q) := by
  have h := ext_list s p (p + q)
  rw [Nat.add_sub_cancel_left] at h
  rw [← h]
theorem aln_at (s : ByteArray) (pos q : Nat) (hp : pos < s.size) : (q < runS isAln (s.data.toList.drop pos) → ∃ hk : pos + q < s.size, isAln ((s[pos + q]'hk).toNat : Int) = true) ∧
    (q = runS isAln (s.data.toList.drop pos) → pos + q ≤ s.size ∧ ∀ hk : pos + q < s.size, isLet ((s[pos + q]'hk).toNat : Int) = false ∧ isDig ((s[pos + q]'hk).toNat : Int) = false) := by
  have hle := runS_le isAln (s.data.toList.drop pos)
  rw [List.length_drop, ← Lib.size_eq] at hle
  constructor
  · intro h
    have hk : pos + q < s.size := by omega
    have e := runS_split isAln (s.data.toList.drop pos) q (by omega)
    rw [List.drop_drop, drop_at s (pos + q) hk] at e
    simp only [runS] at e
    refine ⟨hk, ?_⟩
    split at e
    · assumption
    · omega
  · intro h
    refine ⟨by omega, fun hk => ?_⟩
    have e := runS_split isAln (s.data.toList.drop pos) q (by omega)
    rw [List.drop_drop, drop_at s (pos + q) hk] at e
    simp only [runS] at e
    split at e
    · omega
    · rename_i h1
      unfold isAln at h1
      simpa using h1

set_option maxHeartbeats 1000000 in
set_option maxRecDepth 100000 in
theorem rlex_big (s : ByteArray) (w : World) (hs : 8192 < s.size) : Calls Tryd.prog 12 #[.string s] w (LexPost s w) := by
  have hlex : lexS s.data.toList = ([], 0, 2) := by
    unfold lexS; rw [if_pos (by rw [← Lib.size_eq]; omega)]
  have HLEX := Lib.hid hlex
  clear hlex
  go_enter Tryd.func12, Tryd.ntmps12
  go_wp2
  go_ret3
  exact lex_post_bad HLEX.out (Below.refl _ _)

set_option maxHeartbeats 40000000 in
set_option maxRecDepth 100000 in
theorem rlex_go (s : ByteArray) (w : World) (hs : s.size ≤ 8192) : Calls Tryd.prog 12 #[.string s] w (LexPost s w) := by
  have hlex : lexS s.data.toList = lexGo ⟨s.data.toList, 0, [], false⟩ := by
    unfold lexS; rw [if_neg (by rw [← Lib.size_eq]; omega)]
  have HLEX := Lib.hid hlex
  clear hlex
  obtain ⟨ti, hti, htz, hts, hty⟩ := info_parts tok_info
  go_enter Tryd.func12, Tryd.ntmps12
  go_wp2
  go_loopw [5, 6, 7] (fun v B i wr => ∃ (pos : Nat) (acc : List Tok) (b : Int), B = .int .i64 b ∧ i = .int .i64 pos ∧ b ≤ pos ∧ pos ≤ s.size ∧ acc.length ≤ pos ∧ OwnToks wr w.heap.size v acc ∧ Below w.heap.size w wr ∧ lexGo ⟨s.data.toList.drop pos, pos, acc, decide (b = pos)⟩ = lexGo ⟨s.data.toList, 0, [], false⟩) (fun _ _ i _ => s.size - (intOf i).toNat)
  case atStart => exact ⟨0, [], -1, rfl, rfl, by omega, by omega, by simp, OwnToks.nil_ _ _, Below.refl _ _, rfl⟩
  case round =>
    obtain ⟨pos, acc, B, rfl, rfl, hBp, hpos, hal, hown, hb, hu⟩ := hrel
    have FIN : ∀ x, lexStep ⟨s.data.toList.drop pos, pos, acc, decide (B = pos)⟩ = .inl x → lexS s.data.toList = x := fun x hx => by rw [HLEX.out, ← hu]; exact lexGo_inl hx
    have NXT : ∀ y, lexStep ⟨s.data.toList.drop pos, pos, acc, decide (B = pos)⟩ = .inr y → lexGo y = lexGo ⟨s.data.toList, 0, [], false⟩ := fun y hx => by rw [← hu]; exact (lexGo_inr hx).symm
    clear hu
    by_cases hlt : pos < s.size
    · have hd := drop_at s pos hlt
      have h256 := (s[pos]'hlt).toNat_lt
      by_cases hbl : isBlank (s[pos]'hlt).toNat = true
      · have HN := Lib.hid (NXT _ (by rw [hd]; exact lexStep_blank hbl))
        have hbl2 : s[pos].toNat = 32 ∨ s[pos].toNat = 9 ∨ s[pos].toNat = 10 ∨ s[pos].toNat = 13 := by unfold isBlank at hbl; exact of_decide_eq_true hbl
        clear FIN NXT hbl hd
        rcases hbl2 with hb2 | hb2 | hb2 | hb2
        all_goals
          have t32 : ((s[pos].toNat : Int) == 32) = decide (s[pos].toNat = 32) := by rw [Bool.eq_iff_iff, beq_iff_eq, decide_eq_true_eq]; omega
          have t9 : ((s[pos].toNat : Int) == 9) = decide (s[pos].toNat = 9) := by rw [Bool.eq_iff_iff, beq_iff_eq, decide_eq_true_eq]; omega
          have t10 : ((s[pos].toNat : Int) == 10) = decide (s[pos].toNat = 10) := by rw [Bool.eq_iff_iff, beq_iff_eq, decide_eq_true_eq]; omega
          have t13 : ((s[pos].toNat : Int) == 13) = decide (s[pos].toNat = 13) := by rw [Bool.eq_iff_iff, beq_iff_eq, decide_eq_true_eq]; omega
          simp only [hb2] at t32 t9 t10 t13
          go_wp2
          go_roundw
          case rel => exact ⟨pos + 1, acc, B, rfl, by go_num, by omega, by omega, by omega, hown, hb, by rw [← HN.out, decide_eq_false (by omega)]⟩
          case measure => simp [intOf]; omega
      · have hbl : isBlank (s[pos]'hlt).toNat = false := by simpa using hbl
        have hbn : ¬ (s[pos].toNat = 32 ∨ s[pos].toNat = 9 ∨ s[pos].toNat = 10 ∨ s[pos].toNat = 13) := by unfold isBlank at hbl; exact of_decide_eq_false hbl
        have n32 : ((s[pos].toNat : Int) == 32) = false := by rw [beq_eq_false_iff_ne]; omega
        have n9 : ((s[pos].toNat : Int) == 9) = false := by rw [beq_eq_false_iff_ne]; omega
        have n10 : ((s[pos].toNat : Int) == 10) = false := by rw [beq_eq_false_iff_ne]; omega
        have n13 : ((s[pos].toNat : Int) == 13) = false := by rw [beq_eq_false_iff_ne]; omega
        clear hbn
        have HBL := Lib.hid hbl
        clear hbl
        have HF := Lib.hid FIN
        have HX := Lib.hid NXT
        have HD := Lib.hid hd
        clear FIN NXT hd
        cases hlet : isLet ((s[pos]'hlt).toNat : Int) with
        | true =>
          by_cases hB : B = pos
          · have HST := Lib.hid (HF.out ([], pos, 14) (by rw [HD.out, decide_eq_true hB]; exact lexStep_glue HBL.out (.inl hlet)))
            have tB : ((pos : Int) == B) = true := by rw [beq_iff_eq]; exact hB.symm
            clear hB
            go_wp2_with (go_at_call 25; refine (rletter_any _ _).mono ?_; rintro e w1 ⟨rfl, rfl⟩)
            go_ret3
            exact rlex_bad HST.out rfl hb
          · have nB : ((pos : Int) == B) = false := by rw [beq_eq_false_iff_ne]; exact fun h => hB h.symm
            have HN := Lib.hid (HX.out _ (by rw [HD.out, decide_eq_false hB, lexStep_word HBL.out hlet, if_neg (by decide), ← HD.out]))
            have HOWN := Lib.hid hown
            have HAL := Lib.hid (fun q => aln_at s pos q hlt)
            have HN1 := Lib.hid (show 1 ≤ runS isAln (s.data.toList.drop pos) by rw [HD.out]; exact runS_pos hlet)
            generalize runS isAln (s.data.toList.drop pos) = N at HN HAL HN1
            clear hB hown
            go_wp2_with (go_at_call 25; refine (rletter_any _ _).mono ?_; rintro e w1 ⟨rfl, rfl⟩)
            go_loop [10] (fun i => ∃ q : Nat, i = .int .i64 (pos + q : Nat) ∧ q ≤ N) (fun i => s.size - (intOf i).toNat)
            case atStart => exact ⟨0, rfl, by omega⟩
            case round =>
              obtain ⟨q, rfl, hq⟩ := hrel
              by_cases hqN : q < N
              · obtain ⟨hk, ha⟩ := (HAL.out q).1 hqN
                cases hl2 : isLet ((s[pos + q]'hk).toNat : Int) with
                | true =>
                  go_wp2_with (go_at_call 25; refine (rletter_any _ _).mono ?_; rintro e w1 ⟨rfl, rfl⟩)
                  try any_goals (exfalso; omega)
                  go_round
                  case rel => exact ⟨q + 1, by go_num, by omega⟩
                  case measure => simp [intOf]; omega
                | false =>
                  have hd2 : isDig ((s[pos + q]'hk).toNat : Int) = true := by unfold isAln at ha; rw [hl2] at ha; simpa using ha
                  go_wp2_with (first | (go_at_call 25; refine (rletter_any _ _).mono ?_; rintro e w1 ⟨rfl, rfl⟩) | (go_at_call 26; refine (rdigit_any _ _).mono ?_; rintro e w1 ⟨rfl, rfl⟩))
                  try any_goals (exfalso; omega)
                  go_round
                  case rel => exact ⟨q + 1, by go_num, by omega⟩
                  case measure => simp [intOf]; omega
              · obtain rfl : q = N := by omega
                obtain ⟨hNl, hNx⟩ := (HAL.out q).2 rfl
                have HXE := Lib.hid (ext_str s pos q)
                have HQ1 : 1 ≤ q := HN1.out
                rcases Nat.lt_or_ge (pos + q) s.size with hk | hk
                · obtain ⟨hl2, hd2⟩ := hNx hk
                  go_wp2_with (first | (go_at_call 25; refine (rletter_any _ _).mono ?_; rintro e w1 ⟨rfl, rfl⟩) | (go_at_call 26; refine (rdigit_any _ _).mono ?_; rintro e w1 ⟨rfl, rfl⟩) | (at_builtin; refine wpList_append_tok2 w wr _ _ _ rfl (.tmp 122) (.tmp 124) rfl _ acc ⟨1, (s.data.toList.drop pos).take q, 0, pos⟩ rfl HOWN.out hb rfl (by simp only [tokC]; rw [HXE.out]) (by omega) ?_; intro v3 w3 hown3 hb3))
                  try any_goals (exfalso; omega)
                  go_roundw
                  case rel => exact ⟨pos + q, _, _, rfl, by go_num, by omega, by omega, by simp; omega, hown3, hb3, by rw [← HN.out, List.drop_drop, decide_eq_true (by omega)]⟩
                  case measure => simp [intOf]; omega
                · go_wp2_with (at_builtin; refine wpList_append_tok2 w wr _ _ _ rfl (.tmp 122) (.tmp 124) rfl _ acc ⟨1, (s.data.toList.drop pos).take q, 0, pos⟩ rfl HOWN.out hb rfl (by simp only [tokC]; rw [HXE.out]) (by omega) ?_; intro v3 w3 hown3 hb3)
                  try any_goals (exfalso; omega)
                  go_roundw
                  case rel => exact ⟨pos + q, _, _, rfl, by go_num, by omega, by omega, by simp; omega, hown3, hb3, by rw [← HN.out, List.drop_drop, decide_eq_true (by omega)]⟩
                  case measure => simp [intOf]; omega
        | false =>
          by_cases hdg : isDig ((s[pos]'hlt).toNat : Int) = true ∨ (s[pos]'hlt).toNat = 45
          · have hdg2 : (isDig ((s[pos]'hlt).toNat : Int) = true) ∨ (isDig ((s[pos]'hlt).toNat : Int) = false ∧ ((s[pos].toNat : Int) == 45) = true) := by
              cases h1 : isDig ((s[pos]'hlt).toNat : Int) with
              | true => exact .inl rfl
              | false => exact .inr ⟨rfl, by rw [beq_iff_eq]; rcases hdg with h2 | h2 <;> first | omega | (rw [h1] at h2; cases h2)⟩
            by_cases hB : B = pos
            · have HST := Lib.hid (HF.out ([], pos, 14) (by rw [HD.out, decide_eq_true hB]; exact lexStep_glue HBL.out (.inr hdg)))
              have tB : ((pos : Int) == B) = true := by rw [beq_iff_eq]; exact hB.symm
              clear hB hdg
              rcases hdg2 with hg1 | ⟨hg1, t45⟩
              all_goals
                go_wp2_with (first | (go_at_call 25; refine (rletter_any _ _).mono ?_; rintro e w1 ⟨rfl, rfl⟩) | (go_at_call 26; refine (rdigit_any _ _).mono ?_; rintro e w1 ⟨rfl, rfl⟩))
                go_ret3
                exact rlex_bad HST.out rfl hb
            · have nB : ((pos : Int) == B) = false := by rw [beq_eq_false_iff_ne]; exact fun h => hB h.symm
              obtain ⟨N, hN⟩ : ∃ N, numP (s.data.toList.drop pos) = N := ⟨_, rfl⟩
              have HNUM := Lib.hid (fun W => number_at s pos W N hlt (by omega) hdg hN)
              obtain ⟨x, n, c⟩ := N
              have hq : lexStep ⟨s.data.toList.drop pos, pos, acc, decide (B = pos)⟩ = if c ≠ 0 then .inl ([], pos, c) else .inr ⟨(s.data.toList.drop pos).drop n, pos + n, acc ++ [⟨2, [], x, pos⟩], true⟩ := by
                rw [HD.out] at hN ⊢
                rw [decide_eq_false hB]
                exact lexStep_numP HBL.out hlet hdg hN
              have HOWN := Lib.hid hown
              by_cases hc0 : c = 0
              · subst hc0
                have hnl := numP_len (by rw [← HD.out]; exact hN) hdg
                rw [← HD.out, List.length_drop, ← Lib.size_eq] at hnl
                have HN := Lib.hid (HX.out _ (hq.trans (if_neg (by simp))))
                clear hq hN hB hdg hown
                rcases hdg2 with hg1 | ⟨hg1, t45⟩
                all_goals
                  go_wp2_with (first | (go_at_call 25; refine (rletter_any _ _).mono ?_; rintro e w1 ⟨rfl, rfl⟩) | (go_at_call 26; refine (rdigit_any _ _).mono ?_; rintro e w1 ⟨rfl, rfl⟩) | (go_at_call 27; refine (HNUM.out _).mono ?_; rintro e w1 ⟨rfl, rfl⟩) | (at_builtin; refine wpList_append_tok2 w wr _ _ _ rfl (.tmp 122) (.tmp 124) rfl _ acc ⟨2, [], x, pos⟩ rfl HOWN.out hb rfl rfl (by omega) ?_; intro v3 w3 hown3 hb3))
                  try any_goals (exfalso; omega)
                  go_roundw
                  case rel => exact ⟨pos + n, _, _, rfl, by go_num, by omega, by omega, by simp; omega, hown3, hb3, by rw [← HN.out, List.drop_drop, decide_eq_true (by omega)]⟩
                  case measure => simp [intOf]; omega
              · have HST := Lib.hid (HF.out _ (hq.trans (if_pos hc0)))
                have nc : (c == 0) = false := by rw [beq_eq_false_iff_ne]; exact hc0
                have mc : (c != 0) = true := by rw [bne, nc]; rfl
                clear hq hN hB hdg hown
                rcases hdg2 with hg1 | ⟨hg1, t45⟩
                all_goals
                  go_wp2_with (first | (go_at_call 25; refine (rletter_any _ _).mono ?_; rintro e w1 ⟨rfl, rfl⟩) | (go_at_call 26; refine (rdigit_any _ _).mono ?_; rintro e w1 ⟨rfl, rfl⟩) | (go_at_call 27; refine (HNUM.out _).mono ?_; rintro e w1 ⟨rfl, rfl⟩))
                  try any_goals (exfalso; omega)
                  go_ret3
                  exact rlex_bad HST.out rfl (hb.alloc hb.size _)
          · have hg1 : isDig ((s[pos]'hlt).toNat : Int) = false := by
              cases h1 : isDig ((s[pos]'hlt).toNat : Int) with
              | true => exact absurd (.inl h1) hdg
              | false => rfl
            have h45 : s[pos].toNat ≠ 45 := fun h => hdg (.inr h)
            have n45 : ((s[pos].toNat : Int) == 45) = false := by rw [beq_eq_false_iff_ne]; omega
            clear hdg
            by_cases h34 : s[pos].toNat = 34
            · have t34 : ((s[pos].toNat : Int) == 34) = true := by rw [beq_iff_eq]; omega
              have htake := fun W => take_any s pos W hlt (by omega) h34
              obtain ⟨U, hU⟩ : ∃ U, unq (cutQ (s.data.toList.drop (pos + 1))) [] = U := ⟨_, rfl⟩
              obtain ⟨K, hK⟩ : ∃ K, quotS false (s.data.toList.drop (pos + 1)) = K := ⟨_, rfl⟩
              have hq := lexStep_quot (p := pos) (acc := acc) (g := decide (B = pos)) h34 U K hU hK
              rw [← HD.out, List.drop_drop] at hq
              have hKl := quotS_len (s.data.toList.drop (pos + 1)) false
              rw [List.length_drop, ← Lib.size_eq, hK] at hKl
              rw [hU, hK] at htake
              have HT := Lib.hid htake
              clear htake hU hK h45
              obtain ⟨E, X⟩ := U
              by_cases hE0 : E = 0
              · subst hE0
                have HN := Lib.hid (HX.out _ (hq.trans (if_neg (by simp))))
                clear hq h34
                go_wp2_with (first | (go_at_call 25; refine (rletter_any _ _).mono ?_; rintro e w1 ⟨rfl, rfl⟩) | (go_at_call 26; refine (rdigit_any _ _).mono ?_; rintro e w1 ⟨rfl, rfl⟩) | (go_at_call 28; refine (HT.out _).mono ?_; rintro e w1 ⟨rfl, hb1⟩; have hbb := hb.trans (hb1.mono hb.size); have hown1 := own_below hown hb1) | (at_builtin; refine wpList_append_tok w _ _ _ rfl (.tmp 142) (.tmp 146) rfl _ acc ⟨3, X, 0, pos⟩ rfl hown1 hbb rfl rfl (by omega) ?_; intro v3 w3 hown3 hb3))
                go_roundw
                case rel => exact ⟨pos + 1 + K, _, B, rfl, by go_num, by omega, by omega, by simp; omega, hown3, hb3, by rw [← HN.out, decide_eq_false (by omega), Nat.add_assoc]⟩
                case measure => simp [intOf]; omega
              · by_cases hE4 : E = 4
                · subst hE4
                  have HST := Lib.hid (HF.out _ (hq.trans (if_pos hE0)))
                  clear hq h34 hE0
                  go_wp2_with (first | (go_at_call 25; refine (rletter_any _ _).mono ?_; rintro e w1 ⟨rfl, rfl⟩) | (go_at_call 26; refine (rdigit_any _ _).mono ?_; rintro e w1 ⟨rfl, rfl⟩) | (go_at_call 28; refine (HT.out _).mono ?_; rintro e w1 ⟨rfl, hb1⟩))
                  go_ret3
                  exact rlex_bad HST.out rfl (hb.trans (hb1.mono hb.size))
                · have HST := Lib.hid (HF.out ([], pos, E) ((hq.trans (if_pos hE0)).trans (by rw [if_neg hE4])))
                  have nE0 : (E == 0) = false := by rw [beq_eq_false_iff_ne]; exact hE0
                  have bE0 : (E != 0) = true := by rw [bne, nE0]; rfl
                  have nE4 : (E == 4) = false := by rw [beq_eq_false_iff_ne]; exact hE4
                  clear hq h34
                  go_wp2_with (first | (go_at_call 25; refine (rletter_any _ _).mono ?_; rintro e w1 ⟨rfl, rfl⟩) | (go_at_call 26; refine (rdigit_any _ _).mono ?_; rintro e w1 ⟨rfl, rfl⟩) | (go_at_call 28; refine (HT.out _).mono ?_; rintro e w1 ⟨rfl, hb1⟩))
                  try any_goals (exfalso; omega)
                  go_ret3
                  exact rlex_bad HST.out rfl (hb.trans (hb1.mono hb.size))
            · have n34 : ((s[pos].toNat : Int) == 34) = false := by rw [beq_eq_false_iff_ne]; omega
              have hq := lexStep_sign (t := s.data.toList.drop (pos + 1)) (p := pos) (acc := acc) (g := decide (B = pos)) HBL.out hlet hg1 h45 h34
              rw [← HD.out] at hq
              have HSG := Lib.hid (fun W => rsign_any s pos W hlt (by omega))
              have hsl := signS_len (s.data.toList.drop pos)
              rw [List.length_drop, ← Lib.size_eq] at hsl
              generalize signS (s.data.toList.drop pos) = X at hq HSG hsl
              by_cases hX : X = []
              · have HST := Lib.hid (HF.out _ (hq.trans (if_pos hX)))
                have hem2 : X.isEmpty = true := by rw [hX]; rfl
                clear hX hq h34 h45
                go_wp2_with (first | (go_at_call 25; refine (rletter_any _ _).mono ?_; rintro e w1 ⟨rfl, rfl⟩) | (go_at_call 26; refine (rdigit_any _ _).mono ?_; rintro e w1 ⟨rfl, rfl⟩) | (go_at_call 29; refine (HSG.out _).mono ?_; rintro e w1 ⟨rfl, hb1⟩))
                go_ret3
                exact rlex_bad HST.out rfl (hb.trans (hb1.mono hb.size))
              · have HN := Lib.hid (HX.out _ (hq.trans (if_neg hX)))
                have hem2 : X.isEmpty = false := by simpa using hX
                have hXp : 1 ≤ X.length := List.length_pos_iff.2 hX
                obtain ⟨K, hK⟩ : ∃ K, X.length = K := ⟨_, rfl⟩
                have hxz : (⟨X.toArray⟩ : ByteArray).size = K := by rw [Lib.size_eq]; exact hK
                rw [hK] at HN hXp hsl
                clear hX hq hK h34 h45
                go_wp2_with (first | (go_at_call 25; refine (rletter_any _ _).mono ?_; rintro e w1 ⟨rfl, rfl⟩) | (go_at_call 26; refine (rdigit_any _ _).mono ?_; rintro e w1 ⟨rfl, rfl⟩) | (go_at_call 29; refine (HSG.out _).mono ?_; rintro e w1 ⟨rfl, hb1⟩; have hbb := hb.trans (hb1.mono hb.size); have hown1 := own_below hown hb1) | (at_builtin; refine wpList_append_tok w _ _ _ rfl (.tmp 34) (.tmp 38) rfl _ acc ⟨4, X, 0, pos⟩ rfl hown1 hbb rfl rfl (by omega) ?_; intro v3 w3 hown3 hb3))
                go_roundw
                case rel => exact ⟨pos + K, _, B, rfl, by go_num, by omega, by omega, by simp; omega, hown3, hb3, by rw [← HN.out, List.drop_drop, decide_eq_false (by omega)]⟩
                case measure => simp [intOf]; omega
    · obtain rfl : pos = s.size := by omega
      have hdr : s.data.toList.drop s.size = [] := List.drop_eq_nil_of_le (by rw [← Lib.size_eq]; omega)
      have HST := Lib.hid (FIN (acc ++ [⟨0, [], 0, s.size⟩], 0, 0) (by rw [hdr]; rfl))
      clear hdr FIN NXT hlt
      go_wp2_with (at_builtin; refine wpList_append_tok w _ _ _ rfl (.tmp 149) (.tmp 153) rfl _ acc ⟨0, [], 0, s.size⟩ rfl hown hb rfl rfl (by omega) ?_; intro v3 w3 hown3 hb3)
      try any_goals (exfalso; omega)
      go_ret3
      unfold LexPost
      rw [HST.out]
      exact ⟨_, rfl, hown3, hb3⟩
end Go.Proofs.YthogialdoikanaaDoor
