/- walk: Lex. -/
import Derived.Test.YthogialdoikanaaDoorW9
import Derived.Laws.AppendOwnNone
namespace Go.Proofs.YthogialdoikanaaDoor
open Go.RowKit

theorem wpList_append_tok {ops : Array Oper} {rest : List Oper} {o : Oper} {a : Act} {Q : Exit → Act → World → Prop} (w00 w0 : World) (C : Array Value) (T : TypeId) (hgd : o.guard = none) (s x : Operand)
    (ho : o.op = .call { callee := .builtin .append, args := #[s, x], argTypes := #[22, 22] })
    (v : Value) (acc : List Tok) (t : Tok) (hs : a.eval s = v) (hown : OwnToks w0 w00.heap.size v acc) (hb : Below w00.heap.size w00 w0)
    (hx : a.eval x = .slice (some ⟨w0.heap.size, 0, none⟩) 1 1) (hC : C = (tokC t).toArray) (hl : acc.length ≤ 9000)
    (h : ∀ v' w', OwnToks w' w00.heap.size v' (acc ++ [t]) → Below w00.heap.size w00 w' → wpList Tryd.prog ops Q rest (a.put o.dst v') w') : wpList Tryd.prog ops Q (o :: rest) a (w0.alloc (.cells C T)) := by
  obtain ⟨ti, hti, htz, hts, hty⟩ := info_parts tok_info
  subst hC
  refine wpList_append_own _ hgd s x 22 ho w00.heap.size 29 ti _ 4 40 Tryd.underlying22 hti htz hts hty rfl (by omega) v acc.length (toksC acc) hs (World.ownsRow.alloc hown _) ⟨_, 0, none⟩ 1 1 (tokC t) hx rfl (news_new _ _ _) ?_ (by simp only [maxLen]; omega) (by omega) (by have := hb.size; simp; omega) ?_
  · intro u hu
    simp only [tokC, List.mem_cons, List.not_mem_nil, or_false] at hu
    rcases hu with rfl | rfl | rfl | rfl <;> rfl
  · intro v2 w2 hown2 hg2 _
    refine h v2 w2 ?_ (below_own (hb.alloc hb.size _) (World.ownsRow.alloc hown _) hg2 (Nat.le_refl _) (by have := hb.size; simp; omega))
    unfold OwnToks
    rw [toksC_append, toksC_one, List.length_append]
    exact hown2

theorem take_str (s : ByteArray) (n : Nat) : (⟨(s.data.toList.take n).toArray⟩ : ByteArray) = s.extract 0 n := by
  have h : (s.extract 0 n).data.toList = s.data.toList.take n := by simp [ByteArray.data_extract, Array.toList_extract]
  rw [← h]

theorem signS_le (l : List UInt8) : (signS l).length ≤ l.length := by
  unfold signS
  cases h : signs.find? fun x => x.isPrefixOf l with
  | none => simp
  | some x =>
    have h2 : x.isPrefixOf l = true := by simpa using List.find?_some h
    exact (List.isPrefixOf_iff_prefix.1 h2).length_le

theorem quotS_le : ∀ (l : List UInt8) (q : Bool), quotS q l ≤ l.length
  | [], _ => by simp [quotS]
  | b :: r, q => by
    simp only [quotS]
    split
    · simp
    · have := quotS_le r (decide (b.toNat = 92 ∧ q = false)); simp only [List.length_cons]; omega

theorem lexStep_num {b : UInt8} {t : List UInt8} {pos : Nat} {acc : List Tok} {g : Bool} (h1 : isBlank b.toNat = false) (h2 : isLet (b.toNat : Int) = false) (h3 : (isDig (b.toNat : Int) || decide (b.toNat = 45)) = true) :
    lexStep ⟨b :: t, pos, acc, g⟩ = if g || decide (numLen (b :: t) = 1 ∧ b.toNat = 45) then .inl ([], pos, 14) else match numS ((b :: t).take (numLen (b :: t))) with
      | none => .inl ([], pos, 12)
      | some v => .inr ⟨(b :: t).drop (numLen (b :: t)), pos + numLen (b :: t), acc ++ [⟨2, [], v, pos⟩], true⟩ := by
  simp only [lexStep]
  rw [if_neg (by rw [h1]; decide), if_neg (by rw [h2]; decide), if_pos h3]
  rfl

theorem wpList_append_toks {ops : Array Oper} {rest : List Oper} {o : Oper} {a : Act} {Q : Exit → Act → World → Prop} (w00 w0 : World) (hgd : o.guard = none) (s x : Operand)
    (ho : o.op = .call { callee := .builtin .append, args := #[s, x], argTypes := #[22, 22] })
    (u v : Value) (acc : List Tok) (hs : a.eval s = u) (hou : OwnToks w0 w00.heap.size u []) (hov : OwnToks w0 w00.heap.size v acc) (hb : Below w00.heap.size w00 w0)
    (hx : a.eval x = v) (hl : acc.length ≤ 9000)
    (h : ∀ v' w', OwnToks w' w00.heap.size v' acc → Below w00.heap.size w00 w' → wpList Tryd.prog ops Q rest (a.put o.dst v') w') : wpList Tryd.prog ops Q (o :: rest) a w0 := by
  obtain ⟨ti, hti, htz, hts, hty⟩ := info_parts tok_info
  obtain ⟨hxl, ⟨rfl, hn⟩ | ⟨g, cap, cur, rfl, hbg, hgg, hcap, hcm, hcz, htk⟩⟩ := id hov
  · obtain rfl : acc = [] := List.eq_nil_of_length_eq_zero hn
    exact wpList_append_own_none hgd s x 22 ho w00.heap.size 29 ti 4 Tryd.underlying22 hti u 0 (toksC []) hs hou hx (h _ _ hou hb)
  · refine wpList_append_own _ hgd s x 22 ho w00.heap.size 29 ti _ 4 40 Tryd.underlying22 hti htz hts hty rfl (by omega) u 0 (toksC []) hs hou ⟨g, 0, none⟩ acc.length cap (toksC acc) hx (toksC_length _) (World.ownsRow.cells hov rfl) ?_ (by simp only [maxLen]; omega) (by omega) hb.size ?_
    · intro u hu
      simp only [toksC, List.mem_flatMap] at hu
      obtain ⟨t, _, hu⟩ := hu
      simp only [tokC, List.mem_cons, List.not_mem_nil, or_false] at hu
      rcases hu with rfl | rfl | rfl | rfl <;> rfl
    · intro v2 w2 hown2 hg2 _
      refine h v2 w2 ?_ (below_own hb hou hg2 (Nat.le_refl _) hb.size)
      rw [Nat.zero_add, show toksC [] ++ toksC acc = toksC acc from rfl] at hown2
      exact hown2

theorem lex_post_bad {s : ByteArray} {w w' : World} {p : Nat} {c : Int} (h : lexS s.data.toList = ([], p, c)) (hb : Below w.heap.size w w') : LexPost s w (.returned (.tuple #[.slice none 0 0, .int .i64 p, .int .i64 c])) w' := by
  unfold LexPost
  rw [h]
  exact ⟨_, rfl, OwnToks.nil_ _ _, hb⟩

set_option maxHeartbeats 40000000 in
set_option maxRecDepth 100000 in
theorem lex_go (s : ByteArray) (w : World) (hT : Tabs w) (hs : s.size ≤ 8192) : Calls Tryd.prog 9 #[.string s] w (LexPost s w) := by
  have hlex : lexS s.data.toList = lexGo ⟨s.data.toList, 0, [], false⟩ := by
    unfold lexS; rw [if_neg (by rw [← Lib.size_eq]; omega)]
  have HLEX := Lib.hid hlex
  clear hlex
  obtain ⟨ti, hti, htz, hts, hty⟩ := info_parts tok_info
  go_enter Tryd.func9, Tryd.ntmps9
  go_wp2
  refine wp_scope_into 0 4 (LJ s w) (fun a _ => s.size - (intOf (a.tmps.getD 3 undef)).toNat) rfl ?_ ?_
  · intro hrest
    have HR := Lib.hid hrest
    clear hrest
    go_wp2
    go_step3
    refine (‹∀ (a : Act) (w : World), Code.wp Tryd.prog _ _ a w → _›) _ _ (HR.out _ _ ?_)
    exact ⟨0, [], .slice none 0 0, false, rfl, rfl, rfl, rfl, rfl, rfl, by omega, by simp, OwnToks.nil_ _ _, Below.refl _ _, rfl⟩
  · rintro ⟨F, D⟩ wr ⟨pos, acc, v, g, hD, hF, f0, f2, f3, f9, h2, h3, hown, hb, hu⟩
    simp only at hD hF f0 f2 f3 f9
    obtain ⟨u, hu', rfl⟩ := frame149 F hF
    subst hD
    rw [← hu' 0 (by omega)] at f0
    rw [← hu' 2 (by omega)] at f2
    rw [← hu' 3 (by omega)] at f3
    rw [← hu' 9 (by omega)] at f9
    clear hu' hF
    rw [f0, f2, f3, f9]
    clear f0 f2 f3 f9
    have FIN : ∀ x, lexStep ⟨s.data.toList.drop pos, pos, acc, g⟩ = .inl x → lexS s.data.toList = x := fun x hx => by rw [HLEX.out, ← hu]; exact lexGo_inl hx
    have NXT : ∀ y, lexStep ⟨s.data.toList.drop pos, pos, acc, g⟩ = .inr y → lexGo y = lexGo ⟨s.data.toList, 0, [], false⟩ := fun y hx => by rw [← hu]; exact (lexGo_inr hx).symm
    have HFIN := Lib.hid FIN
    have HNXT := Lib.hid NXT
    have HOWN := Lib.hid hown
    have HT := hT.here hb
    clear FIN NXT hu hown
    by_cases hlt : pos < s.size
    · have hd := drop_at s pos hlt
      have HD := Lib.hid hd
      clear hd
      have hrl := Lib.extract_to_end s pos
      have hrz : (s.extract pos s.size).size = s.size - pos := by rw [ByteArray.size_extract]; omega
      have hem : (s.extract pos s.size).toList.isEmpty = false := by rw [Lib.toList_data, hrl, HD.out]; rfl
      have hxp : 0 < (s.extract pos s.size).size := by omega
      have hx0 : (s.extract pos s.size)[0]'hxp = s[pos] := by
        have h1 := drop_at (s.extract pos s.size) 0 hxp
        rw [List.drop_zero, hrl, HD.out] at h1
        injection h1 with h1 _
        exact h1.symm
      have HRL0 := Lib.hid hrl
      have HRZ0 := Lib.hid hrz
      clear hrl hrz
      go_wp2_with fail
      have hrl := HRL0.out
      have hrz := HRZ0.out
      clear HRL0 HRZ0
      clear hx0
      generalize s.extract pos s.size = rs at hrl hrz hem hxp ⊢
      have hr0 : rs.data.toList = s[pos] :: rs.data.toList.drop 1 := by rw [hrl, HD.out]; rfl
      have hx1 : rs[0] = s[pos] := by
        have h1 := drop_at rs 0 hxp
        rw [List.drop_zero, hrl, HD.out] at h1
        injection h1 with h1 _
        exact h1.symm
      rw [← hrl] at HFIN HNXT
      have HRL := Lib.hid hrl
      have HRZ := Lib.hid hrz
      have HR0 := Lib.hid hr0
      have hrle : rs.size ≤ 8192 := by omega
      have hpz : pos + rs.size = s.size := by omega
      have HPZ := Lib.hid hpz
      have hw := wrap32_byte s[pos]
      clear hrl hrz hr0 HD hpz
      generalize s[pos] = b at *
      rcases blank_cases b with ⟨hbl, hat⟩ | ⟨hbl, hat⟩
      · have hq : lexStep ⟨rs.data.toList, pos, acc, g⟩ = .inr ⟨rs.data.toList.drop 1, pos + 1, acc, false⟩ := by
          rw [HR0.out]
          simp only [lexStep]
          rw [if_pos hbl]
          rfl
        have HN := Lib.hid (HNXT.out _ hq)
        clear hq hbl
        refine (blank_any b _).mono ?_
        rintro e w1 ⟨rfl, rfl⟩
        go_wp2
        go_step3
        simp only [Exit.inBlock, Exit.then]
        refine Hops_head ?_
        refine ⟨⟨pos + 1, acc, v, false, rfl, rfl, rfl, rfl, by go_num, rfl, by omega, by omega, HOWN.out, hb, ?_⟩, ?_⟩
        · rw [← HN.out, HRL.out, List.drop_drop]
        · show s.size - ((pos : Int) + 1).toNat < s.size - (pos : Int).toNat
          omega
      · have HBL := Lib.hid hbl
        clear hbl
        by_cases hlet : isLet (b.toNat : Int) = true
        · have hq : lexStep ⟨rs.data.toList, pos, acc, g⟩ = if g then .inl ([], pos, 14) else .inr ⟨rs.data.toList.drop (runS isAln rs.data.toList), pos + runS isAln rs.data.toList, acc ++ [⟨1, rs.data.toList.take (runS isAln rs.data.toList), 0, pos⟩], true⟩ := by
            have h0 := HR0.out
            generalize rs.data.toList = L at h0 ⊢
            rw [h0]
            simp only [lexStep]
            rw [if_neg (by rw [HBL.out]; decide), if_pos hlet]
          cases g with
          | true =>
            have HST := Lib.hid (HFIN.out _ hq)
            clear hq
            refine (blank_any b _).mono ?_
            rintro e w1 ⟨rfl, rfl⟩
            go_wp2_with fail
            rw [hw]
            refine (letter_any _ _).mono ?_
            rintro e w1 ⟨rfl, rfl⟩
            go_wp2
            go_step3
            simp only [Exit.inBlock, Exit.then]
            refine Hops_on (n := 3) (l := 1) (h := 0) (by decide) (by rfl) ?_
            go_wp2
            refine Hops_ret ?_
            go_ret3
            exact lex_post_bad HST.out hb
          | false =>
            have hrun : runS isAln rs.data.toList ≤ rs.size := by rw [Lib.size_eq]; exact runS_le _ _
            obtain ⟨N, hN⟩ : ∃ N, runS isAln rs.data.toList = N := ⟨_, rfl⟩
            have hNp : 1 ≤ N := by rw [← hN, HR0.out]; exact runS_pos hlet
            have HRUN : ∀ W, Calls Tryd.prog 20 #[.string rs, .func (.func 21) #[] #[]] W fun e w' => e = .returned (.int .i64 N) ∧ Below W.heap.size W w' := fun W => by rw [← hN]; exact run_aln rs W
            rw [hN] at hq hrun
            have HN := Lib.hid (HNXT.out _ hq)
            have HRUNH := Lib.hid HRUN
            clear hq hN HRUN
            refine (blank_any b _).mono ?_
            rintro e w1 ⟨rfl, rfl⟩
            go_wp2_with fail
            rw [hw]
            refine (letter_any _ _).mono ?_
            rintro e w1 ⟨rfl, rfl⟩
            go_wp2
            go_step3
            simp only [Exit.inBlock, Exit.then]
            refine Hops_on (n := 3) (l := 1) (h := 0) (by decide) (by rfl) ?_
            go_wp2_with fail
            refine (HRUNH.out _).mono ?_
            rintro e w1 ⟨rfl, hb1⟩
            have hbb := hb.trans (hb1.mono hb.size)
            have hown1 := own_below HOWN.out hb1
            have hxe := take_str rs N
            have HXE := Lib.hid hxe
            clear hxe
            go_wp2_with (at_builtin; refine wpList_append_tok w _ _ _ rfl (.tmp 74) (.tmp 80) rfl _ acc ⟨1, rs.data.toList.take N, 0, pos⟩ rfl hown1 hbb rfl (by simp only [tokC]; rw [HXE.out]) (by omega) ?_; intro v2 w2 hown2 hb2)
            go_step3
            simp only [Exit.then]
            refine Hops_head ?_
            refine ⟨⟨pos + N, _, v2, true, rfl, rfl, rfl, rfl, by go_num, rfl, by have := HPZ.out; omega, by simp; omega, hown2, hb2, ?_⟩, ?_⟩
            · rw [← HN.out, HRL.out, List.drop_drop]
            · show s.size - ((pos : Int) + N).toNat < s.size - (pos : Int).toNat
              have := HPZ.out
              omega
        · have hlet : isLet (b.toNat : Int) = false := by simpa using hlet
          by_cases hdg : isDig (b.toNat : Int) || decide (b.toNat = 45)
          · by_cases b45 : (b.toNat : Int) = 45
            · have t45 : ((b.toNat : Int) == 45) = true := by rw [beq_iff_eq]; exact b45
              have hdig : isDig (b.toNat : Int) = false := by rw [b45]; decide
              have l45 : isLet 45 = false := by decide
              have d45 : isDig 45 = false := by decide
              have hKl : runS isDig (rs.data.toList.drop 1) ≤ rs.size - 1 := by
                have := runS_le isDig (rs.data.toList.drop 1)
                rw [List.length_drop, ← Lib.size_eq] at this
                exact this
              obtain ⟨K, hK⟩ : ∃ K, runS isDig (rs.data.toList.drop 1) = K := ⟨_, rfl⟩
              have hnl : numLen rs.data.toList = 1 + K := by
                have h0 := HR0.out
                generalize rs.data.toList = L at h0 hK ⊢
                rw [h0]
                simp only [numLen]
                rw [if_pos (by omega), hK]
              have hrun : ∀ W, Calls Tryd.prog 20 #[.string (rs.extract 1 rs.size), .func (.func 18) #[] #[]] W fun e w' => e = .returned (.int .i64 K) ∧ Below W.heap.size W w' := fun W => by
                have h := run_dig (rs.extract 1 rs.size) W
                rw [Lib.extract_to_end, hK] at h
                exact h
              have HRUN := Lib.hid hrun
              rw [hK] at hKl
              clear hrun hK
              have hq : lexStep ⟨rs.data.toList, pos, acc, g⟩ = if g || decide ((1 + K) = 1 ∧ b.toNat = 45) then .inl ([], pos, 14) else match numS (rs.data.toList.take (1 + K)) with
                  | none => .inl ([], pos, 12)
                  | some v => .inr ⟨rs.data.toList.drop (1 + K), pos + (1 + K), acc ++ [⟨2, [], v, pos⟩], true⟩ := by
                have h := lexStep_num (t := rs.data.toList.drop 1) (pos := pos) (acc := acc) (g := g) HBL.out hlet hdg
                rw [← HR0.out, hnl] at h
                exact h
              have HQ := Lib.hid hq
              clear hq hnl
              cases g with
              | true =>
                have HST := Lib.hid (HFIN.out _ HQ.out)
                refine (blank_any b _).mono ?_
                rintro e w1 ⟨rfl, rfl⟩
                go_wp2_with fail
                refine (letter_any _ _).mono ?_
                rintro e w1 ⟨rfl, rfl⟩
                go_wp2_with fail
                refine (digit_any _ _).mono ?_
                rintro e w1 ⟨rfl, rfl⟩
                go_wp2
                go_step3
                simp only [Exit.inBlock, Exit.then]
                refine Hops_on (n := 3) (l := 2) (h := 0) (by decide) (by rfl) ?_
                go_wp2_with fail
                refine (HRUN.out _).mono ?_
                rintro e w1 ⟨rfl, hb1⟩
                have hbb := hb.trans (hb1.mono hb.size)
                have hown1 := own_below HOWN.out hb1
                go_wp2
                try any_goals (exfalso; omega)
                refine Hops_ret ?_
                go_ret3
                exact lex_post_bad HST.out hbb
              | false =>
                by_cases hK0 : K = 0
                · subst hK0
                  have HST := Lib.hid (HFIN.out _ (HQ.out.trans (if_pos (by simp; omega))))
                  refine (blank_any b _).mono ?_
                  rintro e w1 ⟨rfl, rfl⟩
                  go_wp2_with fail
                  refine (letter_any _ _).mono ?_
                  rintro e w1 ⟨rfl, rfl⟩
                  go_wp2_with fail
                  refine (digit_any _ _).mono ?_
                  rintro e w1 ⟨rfl, rfl⟩
                  go_wp2
                  go_step3
                  simp only [Exit.inBlock, Exit.then]
                  refine Hops_on (n := 3) (l := 2) (h := 0) (by decide) (by rfl) ?_
                  go_wp2_with fail
                  refine (HRUN.out _).mono ?_
                  rintro e w1 ⟨rfl, hb1⟩
                  have hbb := hb.trans (hb1.mono hb.size)
                  have hown1 := own_below HOWN.out hb1
                  go_wp2
                  try any_goals (exfalso; omega)
                  refine Hops_ret ?_
                  go_ret3
                  exact lex_post_bad HST.out hbb
                · have hq2 := HQ.out
                  rw [if_neg (by simp; omega)] at hq2
                  have hn1 : ((1 : Int) + (K : Int) == 1) = false := by rw [beq_eq_false_iff_ne]; omega
                  have hne : (1 + K) ≤ rs.size := by omega
                  have hxe := take_str rs (1 + K)
                  have hxs : (rs.extract 0 (1 + K)).size ≤ 281474976710656 := by rw [ByteArray.size_extract]; omega
                  have hnum := fun (W : World) (hW : Tabs W) => number_any (rs.extract 0 (1 + K)) W hW hxs
                  have hxd : (rs.extract 0 (1 + K)).data.toList = rs.data.toList.take (1 + K) := by rw [← hxe]
                  rw [hxd] at hnum
                  have HXE := Lib.hid hxe
                  clear hxd hxs hxe
                  cases hns : numS (rs.data.toList.take (1 + K)) with
                  | none =>
                    rw [hns] at hq2
                    have HST := Lib.hid (HFIN.out _ hq2)
                    have hnv : numV (rs.data.toList.take (1 + K)) = 0 := by unfold numV; rw [hns]; rfl
                    have hne2 : numE (rs.data.toList.take (1 + K)) = 12 := by unfold numE; rw [hns]; rfl
                    rw [hnv, hne2] at hnum
                    have HNUM := Lib.hid hnum
                    clear hnv hne2 hnum hns hq2 HQ
                    refine (blank_any b _).mono ?_
                    rintro e w1 ⟨rfl, rfl⟩
                    go_wp2_with fail
                    refine (letter_any _ _).mono ?_
                    rintro e w1 ⟨rfl, rfl⟩
                    go_wp2_with fail
                    refine (digit_any _ _).mono ?_
                    rintro e w1 ⟨rfl, rfl⟩
                    go_wp2
                    go_step3
                    simp only [Exit.inBlock, Exit.then]
                    refine Hops_on (n := 3) (l := 2) (h := 0) (by decide) (by rfl) ?_
                    go_wp2_with fail
                    refine (HRUN.out _).mono ?_
                    rintro e w1 ⟨rfl, hb1⟩
                    have hbb := hb.trans (hb1.mono hb.size)
                    have hown1 := own_below HOWN.out hb1
                    go_wp2_with (go_at_call 22; refine (HNUM.out _ (HT.here hb1)).mono ?_; rintro e w2 ⟨rfl, hb2⟩)
                    try any_goals (exfalso; omega)
                    refine Hops_ret ?_
                    go_ret3
                    exact lex_post_bad HST.out (hbb.trans (hb2.mono hbb.size))
                  | some x =>
                    rw [hns] at hq2
                    have HN := Lib.hid (HNXT.out _ hq2)
                    have hnv : numV (rs.data.toList.take (1 + K)) = x := by unfold numV; rw [hns]; rfl
                    have hne2 : numE (rs.data.toList.take (1 + K)) = 0 := by unfold numE; rw [hns]; rfl
                    rw [hnv, hne2] at hnum
                    have HNUM := Lib.hid hnum
                    clear hnv hne2 hnum hns hq2 HQ
                    refine (blank_any b _).mono ?_
                    rintro e w1 ⟨rfl, rfl⟩
                    go_wp2_with fail
                    refine (letter_any _ _).mono ?_
                    rintro e w1 ⟨rfl, rfl⟩
                    go_wp2_with fail
                    refine (digit_any _ _).mono ?_
                    rintro e w1 ⟨rfl, rfl⟩
                    go_wp2
                    go_step3
                    simp only [Exit.inBlock, Exit.then]
                    refine Hops_on (n := 3) (l := 2) (h := 0) (by decide) (by rfl) ?_
                    go_wp2_with fail
                    refine (HRUN.out _).mono ?_
                    rintro e w1 ⟨rfl, hb1⟩
                    have hbb := hb.trans (hb1.mono hb.size)
                    have hown1 := own_below HOWN.out hb1
                    go_wp2_with (first | (go_at_call 22; refine (HNUM.out _ (HT.here hb1)).mono ?_; rintro e w2 ⟨rfl, hb2⟩; have hbb2 := hbb.trans (hb2.mono hbb.size); have hown2 := own_below hown1 hb2) | (at_builtin; refine wpList_append_tok w _ _ _ rfl (.tmp 116) (.tmp 120) rfl _ acc ⟨2, [], x, pos⟩ rfl hown2 hbb2 rfl rfl (by omega) ?_; intro v3 w3 hown3 hb3))
                    try any_goals (exfalso; omega)
                    go_step3
                    simp only [Exit.then]
                    refine Hops_head ?_
                    refine ⟨⟨pos + (1 + K), _, v3, true, rfl, rfl, rfl, rfl, by go_num, rfl, by have := HPZ.out; omega, by simp; omega, hown3, hb3, ?_⟩, ?_⟩
                    · rw [← HN.out, HRL.out, List.drop_drop]
                    · show s.size - ((pos : Int) + (1 + K)).toNat < s.size - (pos : Int).toNat
                      have := HPZ.out
                      omega
            · have n45 : ((b.toNat : Int) == 45) = false := by rw [beq_eq_false_iff_ne]; exact b45
              have hdig : isDig (b.toNat : Int) = true := by
                rcases Bool.or_eq_true _ _ ▸ hdg with h | h
                · exact h
                · exact absurd (of_decide_eq_true h) (by omega)
              have hKl : runS isDig rs.data.toList ≤ rs.size := by rw [Lib.size_eq]; exact runS_le _ _
              obtain ⟨K, hK⟩ : ∃ K, runS isDig rs.data.toList = K := ⟨_, rfl⟩
              have hKp : 1 ≤ K := by
                rw [← hK, HR0.out]
                simp only [runS]
                rw [if_pos hdig]
                omega
              have hnl : numLen rs.data.toList = K := by
                have h0 := HR0.out
                generalize rs.data.toList = L at h0 hK ⊢
                rw [h0] at hK ⊢
                simp only [numLen]
                rw [if_neg (by omega), hK]
              have hrun : ∀ W, Calls Tryd.prog 20 #[.string rs, .func (.func 18) #[] #[]] W fun e w' => e = .returned (.int .i64 K) ∧ Below W.heap.size W w' := fun W => by
                have h := run_dig rs W
                rw [hK] at h
                exact h
              have HRUN := Lib.hid hrun
              rw [hK] at hKl
              clear hrun hK
              have hq : lexStep ⟨rs.data.toList, pos, acc, g⟩ = if g || decide (K = 1 ∧ b.toNat = 45) then .inl ([], pos, 14) else match numS (rs.data.toList.take K) with
                  | none => .inl ([], pos, 12)
                  | some v => .inr ⟨rs.data.toList.drop K, pos + K, acc ++ [⟨2, [], v, pos⟩], true⟩ := by
                have h := lexStep_num (t := rs.data.toList.drop 1) (pos := pos) (acc := acc) (g := g) HBL.out hlet hdg
                rw [← HR0.out, hnl] at h
                exact h
              have HQ := Lib.hid hq
              clear hq hnl
              cases g with
              | true =>
                have HST := Lib.hid (HFIN.out _ HQ.out)
                refine (blank_any b _).mono ?_
                rintro e w1 ⟨rfl, rfl⟩
                go_wp2_with fail
                rw [hw]
                refine (letter_any _ _).mono ?_
                rintro e w1 ⟨rfl, rfl⟩
                go_wp2_with fail
                rw [hw]
                refine (digit_any _ _).mono ?_
                rintro e w1 ⟨rfl, rfl⟩
                go_wp2
                go_step3
                simp only [Exit.inBlock, Exit.then]
                refine Hops_on (n := 3) (l := 2) (h := 0) (by decide) (by rfl) ?_
                go_wp2_with fail
                refine (HRUN.out _).mono ?_
                rintro e w1 ⟨rfl, hb1⟩
                have hbb := hb.trans (hb1.mono hb.size)
                have hown1 := own_below HOWN.out hb1
                go_wp2
                try any_goals (exfalso; omega)
                refine Hops_ret ?_
                go_ret3
                exact lex_post_bad HST.out hbb
              | false =>
                · have hq2 := HQ.out
                  rw [if_neg (by simp; omega)] at hq2
                  have hne : K ≤ rs.size := by omega
                  have hxe := take_str rs K
                  have hxs : (rs.extract 0 K).size ≤ 281474976710656 := by rw [ByteArray.size_extract]; omega
                  have hnum := fun (W : World) (hW : Tabs W) => number_any (rs.extract 0 K) W hW hxs
                  have hxd : (rs.extract 0 K).data.toList = rs.data.toList.take K := by rw [← hxe]
                  rw [hxd] at hnum
                  have HXE := Lib.hid hxe
                  clear hxd hxs hxe
                  cases hns : numS (rs.data.toList.take K) with
                  | none =>
                    rw [hns] at hq2
                    have HST := Lib.hid (HFIN.out _ hq2)
                    have hnv : numV (rs.data.toList.take K) = 0 := by unfold numV; rw [hns]; rfl
                    have hne2 : numE (rs.data.toList.take K) = 12 := by unfold numE; rw [hns]; rfl
                    rw [hnv, hne2] at hnum
                    have HNUM := Lib.hid hnum
                    clear hnv hne2 hnum hns hq2 HQ
                    by_cases hK1 : K = 1
                    · subst hK1
                      refine (blank_any b _).mono ?_
                      rintro e w1 ⟨rfl, rfl⟩
                      go_wp2_with fail
                      rw [hw]
                      refine (letter_any _ _).mono ?_
                      rintro e w1 ⟨rfl, rfl⟩
                      go_wp2_with fail
                      rw [hw]
                      refine (digit_any _ _).mono ?_
                      rintro e w1 ⟨rfl, rfl⟩
                      go_wp2
                      go_step3
                      simp only [Exit.inBlock, Exit.then]
                      refine Hops_on (n := 3) (l := 2) (h := 0) (by decide) (by rfl) ?_
                      go_wp2_with fail
                      refine (HRUN.out _).mono ?_
                      rintro e w1 ⟨rfl, hb1⟩
                      have hbb := hb.trans (hb1.mono hb.size)
                      have hown1 := own_below HOWN.out hb1
                      go_wp2_with (go_at_call 22; refine (HNUM.out _ (HT.here hb1)).mono ?_; rintro e w2 ⟨rfl, hb2⟩)
                      try any_goals (exfalso; omega)
                      refine Hops_ret ?_
                      go_ret3
                      exact lex_post_bad HST.out (hbb.trans (hb2.mono hbb.size))
                    · have nK1 : ((K : Int) == 1) = false := by rw [beq_eq_false_iff_ne]; omega
                      refine (blank_any b _).mono ?_
                      rintro e w1 ⟨rfl, rfl⟩
                      go_wp2_with fail
                      rw [hw]
                      refine (letter_any _ _).mono ?_
                      rintro e w1 ⟨rfl, rfl⟩
                      go_wp2_with fail
                      rw [hw]
                      refine (digit_any _ _).mono ?_
                      rintro e w1 ⟨rfl, rfl⟩
                      go_wp2
                      go_step3
                      simp only [Exit.inBlock, Exit.then]
                      refine Hops_on (n := 3) (l := 2) (h := 0) (by decide) (by rfl) ?_
                      go_wp2_with fail
                      refine (HRUN.out _).mono ?_
                      rintro e w1 ⟨rfl, hb1⟩
                      have hbb := hb.trans (hb1.mono hb.size)
                      have hown1 := own_below HOWN.out hb1
                      go_wp2_with (go_at_call 22; refine (HNUM.out _ (HT.here hb1)).mono ?_; rintro e w2 ⟨rfl, hb2⟩)
                      try any_goals (exfalso; omega)
                      refine Hops_ret ?_
                      go_ret3
                      exact lex_post_bad HST.out (hbb.trans (hb2.mono hbb.size))
                  | some x =>
                    rw [hns] at hq2
                    have HN := Lib.hid (HNXT.out _ hq2)
                    have hnv : numV (rs.data.toList.take K) = x := by unfold numV; rw [hns]; rfl
                    have hne2 : numE (rs.data.toList.take K) = 0 := by unfold numE; rw [hns]; rfl
                    rw [hnv, hne2] at hnum
                    have HNUM := Lib.hid hnum
                    clear hnv hne2 hnum hns hq2 HQ
                    by_cases hK1 : K = 1
                    · subst hK1
                      refine (blank_any b _).mono ?_
                      rintro e w1 ⟨rfl, rfl⟩
                      go_wp2_with fail
                      rw [hw]
                      refine (letter_any _ _).mono ?_
                      rintro e w1 ⟨rfl, rfl⟩
                      go_wp2_with fail
                      rw [hw]
                      refine (digit_any _ _).mono ?_
                      rintro e w1 ⟨rfl, rfl⟩
                      go_wp2
                      go_step3
                      simp only [Exit.inBlock, Exit.then]
                      refine Hops_on (n := 3) (l := 2) (h := 0) (by decide) (by rfl) ?_
                      go_wp2_with fail
                      refine (HRUN.out _).mono ?_
                      rintro e w1 ⟨rfl, hb1⟩
                      have hbb := hb.trans (hb1.mono hb.size)
                      have hown1 := own_below HOWN.out hb1
                      go_wp2_with (first | (go_at_call 22; refine (HNUM.out _ (HT.here hb1)).mono ?_; rintro e w2 ⟨rfl, hb2⟩; have hbb2 := hbb.trans (hb2.mono hbb.size); have hown2 := own_below hown1 hb2) | (at_builtin; refine wpList_append_tok w _ _ _ rfl (.tmp 116) (.tmp 120) rfl _ acc ⟨2, [], x, pos⟩ rfl hown2 hbb2 rfl rfl (by omega) ?_; intro v3 w3 hown3 hb3))
                      try any_goals (exfalso; omega)
                      go_step3
                      simp only [Exit.then]
                      refine Hops_head ?_
                      refine ⟨⟨pos + 1, _, v3, true, rfl, rfl, rfl, rfl, by go_num, rfl, by have := HPZ.out; omega, by simp; omega, hown3, hb3, ?_⟩, ?_⟩
                      · rw [← HN.out, HRL.out, List.drop_drop]
                      · show s.size - ((pos : Int) + 1).toNat < s.size - (pos : Int).toNat
                        have := HPZ.out
                        omega
                    · have nK1 : ((K : Int) == 1) = false := by rw [beq_eq_false_iff_ne]; omega
                      refine (blank_any b _).mono ?_
                      rintro e w1 ⟨rfl, rfl⟩
                      go_wp2_with fail
                      rw [hw]
                      refine (letter_any _ _).mono ?_
                      rintro e w1 ⟨rfl, rfl⟩
                      go_wp2_with fail
                      rw [hw]
                      refine (digit_any _ _).mono ?_
                      rintro e w1 ⟨rfl, rfl⟩
                      go_wp2
                      go_step3
                      simp only [Exit.inBlock, Exit.then]
                      refine Hops_on (n := 3) (l := 2) (h := 0) (by decide) (by rfl) ?_
                      go_wp2_with fail
                      refine (HRUN.out _).mono ?_
                      rintro e w1 ⟨rfl, hb1⟩
                      have hbb := hb.trans (hb1.mono hb.size)
                      have hown1 := own_below HOWN.out hb1
                      go_wp2_with (first | (go_at_call 22; refine (HNUM.out _ (HT.here hb1)).mono ?_; rintro e w2 ⟨rfl, hb2⟩; have hbb2 := hbb.trans (hb2.mono hbb.size); have hown2 := own_below hown1 hb2) | (at_builtin; refine wpList_append_tok w _ _ _ rfl (.tmp 116) (.tmp 120) rfl _ acc ⟨2, [], x, pos⟩ rfl hown2 hbb2 rfl rfl (by omega) ?_; intro v3 w3 hown3 hb3))
                      try any_goals (exfalso; omega)
                      go_step3
                      simp only [Exit.then]
                      refine Hops_head ?_
                      refine ⟨⟨pos + K, _, v3, true, rfl, rfl, rfl, rfl, by go_num, rfl, by have := HPZ.out; omega, by simp; omega, hown3, hb3, ?_⟩, ?_⟩
                      · rw [← HN.out, HRL.out, List.drop_drop]
                      · show s.size - ((pos : Int) + K).toNat < s.size - (pos : Int).toNat
                        have := HPZ.out
                        omega
          · have hdg : isDig (b.toNat : Int) = false ∧ ((b.toNat : Int) == 45) = false := by
              simp only [Bool.or_eq_true, not_or, Bool.not_eq_true, decide_eq_false_iff_not, beq_eq_false_iff_ne] at hdg ⊢
              exact ⟨hdg.1, by omega⟩
            obtain ⟨hdg, n45⟩ := hdg
            by_cases b34 : (b.toNat : Int) = 34
            · have t34 : ((b.toNat : Int) == 34) = true := by rw [beq_iff_eq]; exact b34
              have hKl : quotS true rs.data.toList ≤ rs.size := by rw [Lib.size_eq]; exact quotS_le _ _
              have hKp : 1 ≤ quotS true rs.data.toList := by rw [HR0.out]; exact quotS_pos
              have hquot := fun (W : World) => quoted_any rs W (by omega)
              have hq : lexStep ⟨rs.data.toList, pos, acc, g⟩ = if (unquoteS (rs.data.toList.take (quotS true rs.data.toList))).1 ≠ 0 then .inl ([], pos, if (unquoteS (rs.data.toList.take (quotS true rs.data.toList))).1 = 4 then 14 else (unquoteS (rs.data.toList.take (quotS true rs.data.toList))).1)
                  else .inr ⟨rs.data.toList.drop (quotS true rs.data.toList), pos + quotS true rs.data.toList, acc ++ [⟨3, (unquoteS (rs.data.toList.take (quotS true rs.data.toList))).2, 0, pos⟩], false⟩ := by
                have h0 := HR0.out
                have n45' := n45
                rw [beq_eq_false_iff_ne] at n45'
                generalize rs.data.toList = L at h0 ⊢
                rw [h0]
                simp only [lexStep]
                rw [if_neg (by rw [HBL.out]; decide), if_neg (by rw [hlet]; decide), if_neg (by rw [hdg]; simp; omega), if_pos (by omega)]
              generalize quotS true rs.data.toList = K at hKl hKp hquot hq
              have hxe := take_str rs K
              have hxs : (rs.extract 0 K).size ≤ 1099511627776 := by rw [ByteArray.size_extract]; omega
              have hunq := fun (W : World) (hW : Tabs W) => unquote_any (rs.extract 0 K) W hW hxs
              have hxd : (rs.extract 0 K).data.toList = rs.data.toList.take K := by rw [← hxe]
              rw [hxd] at hunq
              generalize hU : unquoteS (rs.data.toList.take K) = U at hunq hq
              obtain ⟨E, X⟩ := U
              simp only at hunq hq
              have HUNQ := Lib.hid hunq
              have HQUOT := Lib.hid hquot
              have HQ := Lib.hid hq
              clear hxd hxs hxe hunq hU hq hquot b34
              by_cases hE0 : E = 0
              · have hq2 := HQ.out
                rw [if_neg (by simpa using hE0)] at hq2
                have HN := Lib.hid (HNXT.out _ hq2)
                subst hE0
                clear hq2
                refine (blank_any b _).mono ?_
                rintro e w1 ⟨rfl, rfl⟩
                go_wp2_with fail
                rw [hw]
                refine (letter_any _ _).mono ?_
                rintro e w1 ⟨rfl, rfl⟩
                go_wp2_with fail
                rw [hw]
                refine (digit_any _ _).mono ?_
                rintro e w1 ⟨rfl, rfl⟩
                go_wp2
                go_step3
                simp only [Exit.inBlock, Exit.then]
                refine Hops_on (n := 3) (l := 3) (h := 0) (by decide) (by rfl) ?_
                go_wp2_with fail
                refine (HQUOT.out _).mono ?_
                rintro e w1 ⟨rfl, hb1⟩
                have hbb := hb.trans (hb1.mono hb.size)
                have hown1 := own_below HOWN.out hb1
                go_wp2_with (first | (go_at_call 24; refine (HUNQ.out _ (HT.here hb1)).mono ?_; rintro e w2 ⟨rfl, hb2⟩; have hbb2 := hbb.trans (hb2.mono hbb.size); have hown2 := own_below hown1 hb2) | (at_builtin; refine wpList_append_tok w _ _ _ rfl (.tmp 140) (.tmp 144) rfl _ acc ⟨3, X, 0, pos⟩ rfl hown2 hbb2 rfl rfl (by omega) ?_; intro v3 w3 hown3 hb3))
                go_step3
                refine Hops_head ?_
                refine ⟨⟨pos + K, _, v3, false, rfl, rfl, rfl, rfl, by go_num, rfl, by have := HPZ.out; omega, by simp; omega, hown3, hb3, ?_⟩, ?_⟩
                · rw [← HN.out, HRL.out, List.drop_drop]
                · show s.size - ((pos : Int) + K).toNat < s.size - (pos : Int).toNat
                  have := HPZ.out
                  omega
              · have hq2 := HQ.out
                rw [if_pos hE0] at hq2
                have HST := Lib.hid (HFIN.out _ hq2)
                have nE0 : (E == 0) = false := by rw [beq_eq_false_iff_ne]; exact hE0
                have bE0 : (E != 0) = true := by rw [bne, nE0]; rfl
                clear hq2
                by_cases hE4 : E = 4
                · have hst := HST.out
                  rw [if_pos hE4] at hst
                  have HST2 := Lib.hid hst
                  have nE4 : (E == 4) = true := by rw [beq_iff_eq]; exact hE4
                  clear hst hE4 hE0
                  refine (blank_any b _).mono ?_
                  rintro e w1 ⟨rfl, rfl⟩
                  go_wp2_with fail
                  rw [hw]
                  refine (letter_any _ _).mono ?_
                  rintro e w1 ⟨rfl, rfl⟩
                  go_wp2_with fail
                  rw [hw]
                  refine (digit_any _ _).mono ?_
                  rintro e w1 ⟨rfl, rfl⟩
                  go_wp2
                  go_step3
                  simp only [Exit.inBlock, Exit.then]
                  refine Hops_on (n := 3) (l := 3) (h := 0) (by decide) (by rfl) ?_
                  go_wp2_with fail
                  refine (HQUOT.out _).mono ?_
                  rintro e w1 ⟨rfl, hb1⟩
                  have hbb := hb.trans (hb1.mono hb.size)
                  go_wp2_with (go_at_call 24; refine (HUNQ.out _ (HT.here hb1)).mono ?_; rintro e w2 ⟨rfl, hb2⟩)
                  refine Hops_ret ?_
                  go_ret3
                  exact lex_post_bad HST2.out (hbb.trans (hb2.mono hbb.size))
                · have hst := HST.out
                  rw [if_neg hE4] at hst
                  have HST2 := Lib.hid hst
                  have nE4 : (E == 4) = false := by rw [beq_eq_false_iff_ne]; exact hE4
                  clear hst hE4 hE0
                  refine (blank_any b _).mono ?_
                  rintro e w1 ⟨rfl, rfl⟩
                  go_wp2_with fail
                  rw [hw]
                  refine (letter_any _ _).mono ?_
                  rintro e w1 ⟨rfl, rfl⟩
                  go_wp2_with fail
                  rw [hw]
                  refine (digit_any _ _).mono ?_
                  rintro e w1 ⟨rfl, rfl⟩
                  go_wp2
                  go_step3
                  simp only [Exit.inBlock, Exit.then]
                  refine Hops_on (n := 3) (l := 3) (h := 0) (by decide) (by rfl) ?_
                  go_wp2_with fail
                  refine (HQUOT.out _).mono ?_
                  rintro e w1 ⟨rfl, hb1⟩
                  have hbb := hb.trans (hb1.mono hb.size)
                  go_wp2_with (go_at_call 24; refine (HUNQ.out _ (HT.here hb1)).mono ?_; rintro e w2 ⟨rfl, hb2⟩)
                  refine Hops_ret ?_
                  go_ret3
                  exact lex_post_bad HST2.out (hbb.trans (hb2.mono hbb.size))
            · have n34 : ((b.toNat : Int) == 34) = false := by rw [beq_eq_false_iff_ne]; exact b34
              have hq : lexStep ⟨rs.data.toList, pos, acc, g⟩ = if signS rs.data.toList = [] then .inl ([], pos, 14) else .inr ⟨rs.data.toList.drop (signS rs.data.toList).length, pos + (signS rs.data.toList).length, acc ++ [⟨4, signS rs.data.toList, 0, pos⟩], false⟩ := by
                have h0 := HR0.out
                have n45' := n45
                rw [beq_eq_false_iff_ne] at n45'
                generalize rs.data.toList = L at h0 ⊢
                rw [h0]
                simp only [lexStep]
                rw [if_neg (by rw [HBL.out]; decide), if_neg (by rw [hlet]; decide), if_neg (by rw [hdg]; simp; omega), if_neg (by omega)]
              have HSG := Lib.hid (sign_any rs)
              have hsl : (signS rs.data.toList).length ≤ rs.size := by rw [Lib.size_eq]; exact signS_le _
              generalize signS rs.data.toList = X at hq HSG hsl
              have HQ := Lib.hid hq
              clear hq b34
              by_cases hX : X = []
              · have HST := Lib.hid (HFIN.out _ (HQ.out.trans (if_pos hX)))
                have hem2 : X.isEmpty = true := by rw [hX]; rfl
                clear hX
                refine (blank_any b _).mono ?_
                rintro e w1 ⟨rfl, rfl⟩
                go_wp2_with fail
                rw [hw]
                refine (letter_any _ _).mono ?_
                rintro e w1 ⟨rfl, rfl⟩
                go_wp2_with fail
                rw [hw]
                refine (digit_any _ _).mono ?_
                rintro e w1 ⟨rfl, rfl⟩
                go_wp2_with (go_at_call 19; refine (HSG.out _).mono ?_; rintro e w1 ⟨rfl, rfl⟩)
                refine Hops_ret ?_
                go_ret3
                exact lex_post_bad HST.out hb
              · have HN := Lib.hid (HNXT.out _ (HQ.out.trans (if_neg hX)))
                have hem2 : X.isEmpty = false := by simpa using hX
                have hXp : 1 ≤ X.length := List.length_pos_iff.2 hX
                obtain ⟨K, hK⟩ : ∃ K, X.length = K := ⟨_, rfl⟩
                have hxz : (⟨X.toArray⟩ : ByteArray).size = K := by rw [Lib.size_eq]; exact hK
                rw [hK] at HN hXp hsl
                have hown1 := HOWN.out
                clear hX hK HQ
                refine (blank_any b _).mono ?_
                rintro e w1 ⟨rfl, rfl⟩
                go_wp2_with fail
                rw [hw]
                refine (letter_any _ _).mono ?_
                rintro e w1 ⟨rfl, rfl⟩
                go_wp2_with fail
                rw [hw]
                refine (digit_any _ _).mono ?_
                rintro e w1 ⟨rfl, rfl⟩
                go_wp2_with (first | (go_at_call 19; refine (HSG.out _).mono ?_; rintro e w1 ⟨rfl, rfl⟩) | (at_builtin; refine wpList_append_tok w _ _ _ rfl (.tmp 60) (.tmp 64) rfl _ acc ⟨4, X, 0, pos⟩ rfl hown1 hb rfl rfl (by omega) ?_; intro v3 w3 hown3 hb3))
                go_step3
                simp only [Exit.then]
                refine Hops_head ?_
                refine ⟨⟨pos + K, _, v3, false, rfl, rfl, rfl, rfl, by go_num, rfl, by have := HPZ.out; omega, by simp; omega, hown3, hb3, ?_⟩, ?_⟩
                · rw [← HN.out, HRL.out, List.drop_drop]
                · show s.size - ((pos : Int) + K).toNat < s.size - (pos : Int).toNat
                  have := HPZ.out
                  omega
    · obtain rfl : pos = s.size := by omega
      have hdr : s.data.toList.drop s.size = [] := List.drop_eq_nil_of_le (by rw [← Lib.size_eq]; omega)
      have HST := Lib.hid (HFIN.out (acc ++ [⟨0, [], 0, s.size⟩], 0, 0) (by rw [hdr]; rfl))
      have hem : (s.extract s.size s.size).toList.isEmpty = true := by rw [Lib.toList_data, Lib.extract_to_end, hdr]; rfl
      have h9 : acc.length ≤ 9000 := by omega
      have hown := HOWN.out
      clear hdr HFIN HNXT hlt
      obtain ⟨hxl, ⟨rfl, hn⟩ | ⟨g0, cap, cur, rfl, hbg, hgg, hcap, hcm, hcz, htk⟩⟩ := id hown
      · have ht : 40 * 1 ≤ 281474976710656 := by omega
        go_wp2_with (first | (at_make; refine wpList_make_own wr rfl _ _ 22 rfl w.heap.size 29 ti _ 4 Tryd.underlying22 hti htz hts _ _ _ 1 rfl rfl rfl (by rw [hty]; omega) (by simp only [maxLen]; omega) hb.size ?_; intro w1 hm1 hg1; have hb1 := hb.grown hg1 hb.size (by intro k hk; cases hk); have hov1 := (World.ownsRow.kept hown hg1 (by simp [Value.ownBlock]))) | (at_builtin; refine wpList_append_toks w _ rfl (.tmp 22) (.tmp 23) rfl _ _ acc rfl hm1 hov1 hb1 rfl h9 ?_; intro v2 w2 ho2 hb2) | (at_builtin; refine wpList_append_tok w _ _ _ rfl (.tmp 24) (.tmp 27) rfl _ acc ⟨0, [], 0, s.size⟩ rfl ho2 hb2 rfl rfl (by omega) ?_; intro v3 w3 hown3 hb3))
        refine Hops_ret ?_
        go_ret3
        unfold LexPost
        rw [HST.out]
        exact ⟨_, rfl, hown3, hb3⟩
      · have hlen : acc.length + 1 ≤ 9000 := by omega
        go_wp2_with (first | (at_make; refine wpList_make_own wr rfl _ _ 22 rfl w.heap.size 29 ti _ 4 Tryd.underlying22 hti htz hts _ _ _ (acc.length + 1) rfl rfl (by omega) (by rw [hty]; omega) (by simp only [maxLen]; omega) hb.size ?_; intro w1 hm1 hg1; have hb1 := hb.grown hg1 hb.size (by intro k hk; cases hk); have hov1 := (World.ownsRow.kept hown hg1 (by simp [Value.ownBlock]))) | (at_builtin; refine wpList_append_toks w _ rfl (.tmp 22) (.tmp 23) rfl _ _ acc rfl hm1 hov1 hb1 rfl h9 ?_; intro v2 w2 ho2 hb2) | (at_builtin; refine wpList_append_tok w _ _ _ rfl (.tmp 24) (.tmp 27) rfl _ acc ⟨0, [], 0, s.size⟩ rfl ho2 hb2 rfl rfl (by omega) ?_; intro v3 w3 hown3 hb3))
        refine Hops_ret ?_
        go_ret3
        unfold LexPost
        rw [HST.out]
        exact ⟨_, rfl, hown3, hb3⟩
end Go.Proofs.YthogialdoikanaaDoor
