/- walk: Unquote. -/
import Derived.Test.YthogialdoikanaaDoorW6
namespace Go.Proofs.YthogialdoikanaaDoor
open Go.RowKit

def UJ (s : ByteArray) (w : World) (a : Act) (wr : World) : Prop :=
  ∃ (pos : Nat) (acc : List UInt8) (v : Value), a.defers = [] ∧ a.tmps.size = 154 ∧ a.tmps.getD 0 undef = .string s ∧ a.tmps.getD 4 undef = v ∧ a.tmps.getD 9 undef = .int .i64 pos ∧
    1 ≤ pos ∧ pos ≤ s.size ∧ acc.length ≤ pos ∧ wr.ownsRow w.heap.size 5 1 v acc.length (Lib.byteCells acc) ∧ Below w.heap.size w wr ∧ unq (s.data.toList.drop pos) acc = unq (s.data.toList.drop 1) []

theorem ret_se {a b : List UInt8} {x y : Int} (h : b = a) (k : y = x) : Ending.returned (.tuple #[.string ⟨a.toArray⟩, .int .i64 x]) = .returned (.tuple #[.string ⟨b.toArray⟩, .int .i64 y]) := by rw [h, k]

set_option maxHeartbeats 4000000 in
set_option maxRecDepth 100000 in
theorem unquote_go (s : ByteArray) (w : World) (hT : Tabs w) (hs : s.size ≤ 1099511627776) (h0 : 0 < s.size) (h34 : (s[0].toNat : Int) = 34) :
    Calls Tryd.prog 24 #[.string s] w fun e w' => e = .returned (.tuple #[.string ⟨(unq (s.data.toList.drop 1) []).2.toArray⟩, .int .i64 (unq (s.data.toList.drop 1) []).1]) ∧ Below w.heap.size w w' := by
  have hem : s.toList.isEmpty = false := by rw [Lib.toList_data, ← List.drop_zero (l := s.data.toList), drop_at s 0 h0]; rfl
  obtain ⟨bi, hbi, hbz, hbs, hby⟩ := info_parts byte_info
  go_enter Tryd.func24, Tryd.ntmps24
  go_wp2
  refine wp_scope_into 2 4 (UJ s w) (fun a _ => s.size - (intOf (a.tmps.getD 9 undef)).toNat) rfl ?_ ?_
  · intro hrest
    have HR := Lib.hid hrest
    clear hrest
    go_wp2
    go_step3
    refine (‹∀ (a : Act) (w : World), Code.wp Tryd.prog _ _ a w → _›) _ _ (HR.out _ _ ?_)
    exact ⟨1, [], .slice none 0 0, rfl, rfl, rfl, rfl, rfl, by omega, by omega, by simp, ⟨by simp [Lib.byteCells], .inl ⟨rfl, rfl⟩⟩, Below.refl _ _, rfl⟩
  · clear h34 hem
    rintro ⟨F, D⟩ wr ⟨pos, acc, v, hD, hF, f0, f4, f9, h1, h2, h3, hown, hb, hu⟩
    simp only at hD hF f0 f4 f9
    obtain ⟨u, hu', rfl⟩ := frame154 F hF
    subst hD
    rw [← hu' 0 (by omega)] at f0
    rw [← hu' 4 (by omega)] at f4
    rw [← hu' 9 (by omega)] at f9
    clear hu' hF
    rw [f0, f4, f9]
    clear f0 f4 f9
    have FIN : ∀ x, unqStep (s.data.toList.drop pos, acc) = .inl x → unq (s.data.toList.drop 1) [] = x := fun x hx => by rw [← hu]; exact unq_inl hx
    have NXT : ∀ r' acc', unqStep (s.data.toList.drop pos, acc) = .inr (r', acc') → unq r' acc' = unq (s.data.toList.drop 1) [] := fun r' acc' hx => by rw [← hu]; exact (unq_inr hx).symm
    have HFIN := Lib.hid FIN
    have HNXT := Lib.hid NXT
    have HOWN := Lib.hid hown
    have HT := hT.here hb
    clear FIN NXT hu hown
    by_cases hlt : pos < s.size
    · have hd := drop_at s pos hlt
      have HD := Lib.hid hd
      clear hd
      have hne : ((pos : Int) == (s.size : Int)) = false := by rw [beq_eq_false_iff_ne]; omega
      by_cases b34 : (s[pos].toNat : Int) = 34
      · have hq := unqStep_quote (b := s[pos]) (t := s.data.toList.drop (pos + 1)) (acc := acc) (by omega)
        rw [← HD.out] at hq
        by_cases hend : pos + 1 < s.size
        · rw [if_neg (by intro hh; have := congrArg List.length hh; rw [List.length_drop, ← Lib.size_eq] at this; simp at this; omega)] at hq
          have HST := Lib.hid (HFIN.out _ hq)
          clear hq
          go_wp2
          go_step3
          simp only [Exit.inBlock, Exit.then]
          refine Hops_on (n := 3) (l := 0) (h := 2) (by decide) (by rfl) ?_
          go_wp2
          refine Hops_ret ?_
          go_ret2
          exact ⟨ret_se (by rw [HST.out]) (by rw [HST.out]), hb⟩
        · rw [if_pos (List.drop_eq_nil_of_le (by rw [← Lib.size_eq]; omega))] at hq
          have HST := Lib.hid (HFIN.out _ hq)
          have hcv := own_string HOWN.out
          have hge : ¬ ((pos : Int) + 1 < (s.size : Int)) := by omega
          clear hq
          go_wp2
          go_step3
          simp only [Exit.inBlock, Exit.then]
          refine Hops_on (n := 3) (l := 0) (h := 2) (by decide) (by rfl) ?_
          go_wp2
          refine Hops_ret ?_
          go_ret2
          exact ⟨ret_se (by rw [HST.out]) (by rw [HST.out]), hb⟩
      · have n34 : ((s[pos].toNat : Int) == 34) = false := by rw [beq_eq_false_iff_ne]; exact b34
        by_cases b92 : (s[pos].toNat : Int) = 92
        · have hq := unqStep_back (b := s[pos]) (t := s.data.toList.drop (pos + 1)) (acc := acc) (by omega)
          rw [← HD.out] at hq
          have FIN : ∀ x, unqB (s.data.toList.drop (pos + 1)) acc = .inl x → unq (s.data.toList.drop 1) [] = x := fun x hx => HFIN.out x (hq.trans hx)
          have NXT : ∀ r' acc', unqB (s.data.toList.drop (pos + 1)) acc = .inr (r', acc') → unq r' acc' = unq (s.data.toList.drop 1) [] := fun r' a' hx => HNXT.out r' a' (hq.trans hx)
          have HFINB := Lib.hid FIN
          have HNXTB := Lib.hid NXT
          clear FIN NXT hq
          by_cases hend : pos + 1 < s.size
          · have hd1 := drop_at s (pos + 1) hend
            have HD1 := Lib.hid hd1
            clear hd1
            have ne1 : ((pos : Int) + 1 == (s.size : Int)) = false := by rw [beq_eq_false_iff_ne]; omega
            by_cases b117 : (s[pos + 1].toNat : Int) = 117
            · have hq : unqB (s.data.toList.drop (pos + 1)) acc = unqU (s.data.toList.drop (pos + 2)) acc := by
                rw [HD1.out]
                simp only [unqB]
                rw [if_pos (by omega)]
              have HQ := Lib.hid hq
              clear hq
              have hdl : (s.data.toList.drop (pos + 2)).length = s.size - (pos + 2) := by rw [List.length_drop, ← Lib.size_eq]
              cases hf : fourS (s.data.toList.drop (pos + 2)) with
              | none =>
                have hq : unqU (s.data.toList.drop (pos + 2)) acc = .inl (4, []) := by unfold unqU; rw [hf]
                have HST := Lib.hid (HFINB.out _ (HQ.out.trans hq))
                have hfv : fourV (s.data.toList.drop (pos + 2)) = 0 := by unfold fourV; rw [hf]; rfl
                have hfb : fourB (s.data.toList.drop (pos + 2)) = false := by unfold fourB; rw [hf]; rfl
                clear hq hf hdl
                go_wp2
                go_step3
                simp only [Exit.inBlock, Exit.then]
                refine Hops_on (n := 3) (l := 1) (h := 2) (by decide) (by rfl) ?_
                go_wp2
                go_step3
                simp only [Exit.then]
                refine Hops_on (n := 2) (l := 3) (h := 2) (by decide) (by rfl) ?_
                go_wp2_with (go_at_call 43; refine (four_at _ _ _).mono ?_; rintro e w1 ⟨rfl, rfl⟩)
                refine Hops_ret ?_
                go_ret2
                exact ⟨ret_se (by rw [HST.out]) (by rw [HST.out]), hb⟩
              | some x =>
                have hx := fourS_lt hf
                have hlen : 4 ≤ (s.data.toList.drop (pos + 2)).length := by
                  rcases Nat.lt_or_ge (s.data.toList.drop (pos + 2)).length 4 with h | h
                  · have := fourF_short 4 0 _ h
                    rw [show fourF 4 0 (s.data.toList.drop (pos + 2)) = fourS (s.data.toList.drop (pos + 2)) from rfl, hf] at this
                    cases this
                  · exact h
                rw [hdl] at hlen
                have hfv : fourV (s.data.toList.drop (pos + 2)) = x := by unfold fourV; rw [hf]; rfl
                have hfb : fourB (s.data.toList.drop (pos + 2)) = true := by unfold fourB; rw [hf]; rfl
                have hfour : ∀ W, Calls Tryd.prog 43 #[.string (s.extract (pos + 2) s.size)] W fun e w' => e = .returned (.tuple #[.int .i32 (x : Int), .bool true]) ∧ W = w' := fun W => by
                  have h := four_at s (pos + 2) W
                  rw [hfv, hfb] at h
                  exact h
                have HFOUR := Lib.hid hfour
                have HF := Lib.hid hf
                have HX := Lib.hid hx
                clear hf hfv hfb hfour hdl hx
                by_cases hhalf : 55296 ≤ x ∧ x < 57344
                · obtain ⟨hl1, hl2⟩ := hhalf
                  obtain ⟨X, hxx⟩ : ∃ X : Int, (x : Int) = X := ⟨_, rfl⟩
                  have i1 : (55296 : Int) ≤ X := by omega
                  have i2 : X < 57344 := by omega
                  have hU : unqU (s.data.toList.drop (pos + 2)) acc = if 56320 ≤ x ∨ Lib.hasPrefix (s.data.toList.drop (pos + 6)) [92, 117] = false then .inl (11, [])
                      else match fourS (s.data.toList.drop (pos + 8)) with
                        | none => .inl (11, [])
                        | some y => if y < 56320 ∨ 57344 ≤ y then .inl (11, []) else .inr (s.data.toList.drop (pos + 12), acc ++ Lib.encodeRune (65536 + (X - 55296) * 1024 + ((y : Int) - 56320))) := by
                    unfold unqU
                    rw [HF.out]
                    simp only
                    rw [if_pos ⟨hl1, hl2⟩, List.drop_drop, List.drop_drop, List.drop_drop, hxx]
                    rfl
                  have HUU := Lib.hid hU
                  rw [hxx] at HFOUR
                  have HXX := Lib.hid hxx
                  have HL1 := Lib.hid hl1
                  have HL2 := Lib.hid hl2
                  clear hU hxx hl1 hl2 HF
                  by_cases hhi : 56320 ≤ x
                  · have hq := HUU.out
                    rw [if_pos (.inl hhi)] at hq
                    have HST := Lib.hid (HFINB.out _ (HQ.out.trans hq))
                    have i3 : (56320 : Int) ≤ X := by have := HXX.out; omega
                    clear hq hhi
                    go_wp2
                    go_step3
                    simp only [Exit.inBlock, Exit.then]
                    refine Hops_on (n := 3) (l := 1) (h := 2) (by decide) (by rfl) ?_
                    go_wp2
                    go_step3
                    simp only [Exit.then]
                    refine Hops_on (n := 2) (l := 3) (h := 2) (by decide) (by rfl) ?_
                    go_wp2_with fail
                    refine (HFOUR.out _).mono ?_
                    rintro e w1 ⟨rfl, rfl⟩
                    go_wp2_with fail
                    go_step3
                    simp only [Exit.then]
                    refine Hops_on (n := 1) (l := 4) (h := 2) (by decide) (by rfl) ?_
                    go_wp2
                    refine Hops_ret ?_
                    go_ret2
                    exact ⟨ret_se (by rw [HST.out]) (by rw [HST.out]), hb⟩
                  · have i3 : X < 56320 := by have := HXX.out; omega
                    cases hp : Lib.hasPrefix (s.data.toList.drop (pos + 6)) [92, 117] with
                    | false =>
                      have hq := HUU.out
                      rw [if_pos (.inr hp)] at hq
                      have HST := Lib.hid (HFINB.out _ (HQ.out.trans hq))
                      have hpre : ∀ W, Calls Tryd.prog 38 #[.string (s.extract (pos + 6) s.size), .string ⟨#[92, 117]⟩] W fun e w' => e = .returned (.bool false) ∧ W = w' := fun W => by
                        have h := prefix_at s ⟨#[92, 117]⟩ (pos + 6) W
                        rw [hp] at h
                        exact h
                      have HPRE := Lib.hid hpre
                      clear hq hhi hpre hp
                      go_wp2
                      go_step3
                      simp only [Exit.inBlock, Exit.then]
                      refine Hops_on (n := 3) (l := 1) (h := 2) (by decide) (by rfl) ?_
                      go_wp2
                      go_step3
                      simp only [Exit.then]
                      refine Hops_on (n := 2) (l := 3) (h := 2) (by decide) (by rfl) ?_
                      go_wp2_with fail
                      refine (HFOUR.out _).mono ?_
                      rintro e w1 ⟨rfl, rfl⟩
                      go_wp2_with fail
                      go_step3
                      simp only [Exit.then]
                      refine Hops_on (n := 1) (l := 4) (h := 2) (by decide) (by rfl) ?_
                      go_wp2_with (go_at_call 38; refine (HPRE.out _).mono ?_; rintro e w3 ⟨rfl, rfl⟩)
                      refine Hops_ret ?_
                      go_ret2
                      exact ⟨ret_se (by rw [HST.out]) (by rw [HST.out]), hb⟩
                    | true =>
                      have hq := HUU.out
                      rw [if_neg (by rw [hp]; simp; omega)] at hq
                      have hpre : ∀ W, Calls Tryd.prog 38 #[.string (s.extract (pos + 6) s.size), .string ⟨#[92, 117]⟩] W fun e w' => e = .returned (.bool true) ∧ W = w' := fun W => by
                        have h := prefix_at s ⟨#[92, 117]⟩ (pos + 6) W
                        rw [hp] at h
                        exact h
                      have hpl : pos + 8 ≤ s.size := by
                        have h2 := (List.isPrefixOf_iff_prefix.1 hp).length_le
                        rw [List.length_drop, ← Lib.size_eq] at h2
                        simp at h2
                        omega
                      have HPRE := Lib.hid hpre
                      have HQQ := Lib.hid hq
                      clear hq hhi hpre hp
                      have hfour2 : ∀ W, Calls Tryd.prog 43 #[.string (s.extract (pos + 8) s.size)] W fun e w' => e = .returned (.tuple #[.int .i32 (fourV (s.data.toList.drop (pos + 8))), .bool (fourB (s.data.toList.drop (pos + 8)))]) ∧ W = w' := fun W => four_at s (pos + 8) W
                      cases hf2 : fourS (s.data.toList.drop (pos + 8)) with
                      | none =>
                        have hq := HQQ.out
                        rw [hf2] at hq
                        have HST := Lib.hid (HFINB.out _ (HQ.out.trans hq))
                        have hfv : fourV (s.data.toList.drop (pos + 8)) = 0 := by unfold fourV; rw [hf2]; rfl
                        have hfb : fourB (s.data.toList.drop (pos + 8)) = false := by unfold fourB; rw [hf2]; rfl
                        rw [hfv, hfb] at hfour2
                        have HFOUR2 := Lib.hid hfour2
                        clear hq hf2 hfv hfb hfour2
                        go_wp2
                        go_step3
                        simp only [Exit.inBlock, Exit.then]
                        refine Hops_on (n := 3) (l := 1) (h := 2) (by decide) (by rfl) ?_
                        go_wp2
                        go_step3
                        simp only [Exit.then]
                        refine Hops_on (n := 2) (l := 3) (h := 2) (by decide) (by rfl) ?_
                        go_wp2_with fail
                        refine (HFOUR.out _).mono ?_
                        rintro e w1 ⟨rfl, rfl⟩
                        go_wp2_with fail
                        go_step3
                        simp only [Exit.then]
                        refine Hops_on (n := 1) (l := 4) (h := 2) (by decide) (by rfl) ?_
                        go_wp2_with fail
                        refine (HPRE.out _).mono ?_
                        rintro e w3 ⟨rfl, rfl⟩
                        go_wp2_with fail
                        refine (HFOUR2.out _).mono ?_
                        rintro e w4 ⟨rfl, rfl⟩
                        go_wp2
                        refine Hops_ret ?_
                        go_ret2
                        exact ⟨ret_se (by rw [HST.out]) (by rw [HST.out]), hb⟩
                      | some y =>
                        have hq := HQQ.out
                        rw [hf2] at hq
                        simp only at hq
                        have hy := fourS_lt hf2
                        have hl2 : pos + 12 ≤ s.size := by
                          rcases Nat.lt_or_ge (s.data.toList.drop (pos + 8)).length 4 with h | h
                          · have := fourF_short 4 0 _ h
                            rw [show fourF 4 0 (s.data.toList.drop (pos + 8)) = fourS (s.data.toList.drop (pos + 8)) from rfl, hf2] at this
                            cases this
                          · rw [List.length_drop, ← Lib.size_eq] at h; omega
                        obtain ⟨Y, hyy⟩ : ∃ Y : Int, (y : Int) = Y := ⟨_, rfl⟩
                        have y0 : 0 ≤ Y := by omega
                        have ym : Y ≤ 65535 := by omega
                        have hfv : fourV (s.data.toList.drop (pos + 8)) = Y := by unfold fourV; rw [hf2]; exact hyy
                        have hfb : fourB (s.data.toList.drop (pos + 8)) = true := by unfold fourB; rw [hf2]; rfl
                        rw [hfv, hfb] at hfour2
                        have HFOUR2 := Lib.hid hfour2
                        have HYY := Lib.hid hyy
                        by_cases hbad : y < 56320 ∨ 57344 ≤ y
                        · rw [if_pos hbad] at hq
                          have HST := Lib.hid (HFINB.out _ (HQ.out.trans hq))
                          have hb2 : Y < 56320 ∨ 57344 ≤ Y := by omega
                          clear hq hf2 hfv hfb hfour2 hyy hy hbad
                          rcases hb2 with j1 | j1
                          all_goals
                            go_wp2
                            go_step3
                            simp only [Exit.inBlock, Exit.then]
                            refine Hops_on (n := 3) (l := 1) (h := 2) (by decide) (by rfl) ?_
                            go_wp2
                            go_step3
                            simp only [Exit.then]
                            refine Hops_on (n := 2) (l := 3) (h := 2) (by decide) (by rfl) ?_
                            go_wp2_with fail
                            refine (HFOUR.out _).mono ?_
                            rintro e w1 ⟨rfl, rfl⟩
                            go_wp2_with fail
                            go_step3
                            simp only [Exit.then]
                            refine Hops_on (n := 1) (l := 4) (h := 2) (by decide) (by rfl) ?_
                            go_wp2_with fail
                            try any_goals (exfalso; omega)
                            refine (HPRE.out _).mono ?_
                            rintro e w3 ⟨rfl, rfl⟩
                            go_wp2_with fail
                            refine (HFOUR2.out _).mono ?_
                            rintro e w4 ⟨rfl, rfl⟩
                            go_wp2
                            refine Hops_ret ?_
                            go_ret2
                            exact ⟨ret_se (by rw [HST.out]) (by rw [HST.out]), hb⟩
                        · rw [if_neg hbad] at hq
                          have HN := Lib.hid (HNXTB.out _ _ (HQ.out.trans hq))
                          have j1 : (56320 : Int) ≤ Y := by omega
                          have j2 : Y < 57344 := by omega
                          have hrl : (Lib.encodeRune (65536 + (X - 55296) * 1024 + ((y : Int) - 56320))).length ≤ 4 := by
                            have := Lib.encodeRuneZ_length (65536 + (X - 55296) * 1024 + ((y : Int) - 56320))
                            simp [Lib.encodeRune]; omega
                          rw [hyy] at HN hrl
                          clear hq hf2 hfv hfb hfour2 hyy hy hbad
                          go_wp2
                          go_step3
                          simp only [Exit.inBlock, Exit.then]
                          refine Hops_on (n := 3) (l := 1) (h := 2) (by decide) (by rfl) ?_
                          go_wp2
                          go_step3
                          simp only [Exit.then]
                          refine Hops_on (n := 2) (l := 3) (h := 2) (by decide) (by rfl) ?_
                          go_wp2_with fail
                          refine (HFOUR.out _).mono ?_
                          rintro e w1 ⟨rfl, rfl⟩
                          go_wp2_with fail
                          go_step3
                          simp only [Exit.then]
                          refine Hops_on (n := 1) (l := 4) (h := 2) (by decide) (by rfl) ?_
                          go_wp2_with fail
                          refine (HPRE.out _).mono ?_
                          rintro e w3 ⟨rfl, rfl⟩
                          go_wp2_with fail
                          refine (HFOUR2.out _).mono ?_
                          rintro e w4 ⟨rfl, rfl⟩
                          go_wp2_with fail
                          refine (rune_any _ w.heap.size v acc _ (by omega) (by omega) HOWN.out (by omega) hb.size).mono ?_
                          rintro e w5 ⟨v2, rfl, hown2, hb2⟩
                          go_wp2
                          go_step3
                          simp only [Exit.then]
                          refine Hops_head ?_
                          refine ⟨⟨pos + 12, acc ++ Lib.encodeRune (65536 + (X - 55296) * 1024 + (Y - 56320)), v2, rfl, rfl, rfl, rfl, by go_num, by omega, by omega, by rw [List.length_append]; omega, hown2, hb.trans hb2, HN.out⟩, ?_⟩
                          show s.size - ((pos : Int) + 12).toNat < s.size - (pos : Int).toNat
                          omega
                · have hq : unqU (s.data.toList.drop (pos + 2)) acc = .inr (s.data.toList.drop (pos + 6), acc ++ Lib.encodeRune x) := by
                    unfold unqU
                    rw [HF.out]
                    simp only
                    rw [if_neg hhalf, List.drop_drop]
                  have HN := Lib.hid (HNXTB.out _ _ (HQ.out.trans hq))
                  have hrl : (Lib.encodeRune (x : Int)).length ≤ 4 := by
                    have := Lib.encodeRuneZ_length (x : Int)
                    simp [Lib.encodeRune]; omega
                  clear hq
                  obtain ⟨X, hxx⟩ : ∃ X : Int, (x : Int) = X := ⟨_, rfl⟩
                  have x0 : 0 ≤ X := by omega
                  have xm : X ≤ 65535 := by have := HX.out; omega
                  have hlo' : X < 55296 ∨ 57344 ≤ X := by omega
                  rw [hxx] at HN hrl HFOUR
                  have hxm := HX
                  clear HF HX
                  by_cases hlo : X < 55296
                  · have i1 : X < 55296 := hlo
                    clear hlo
                    clear hhalf HQ hlo' hxx hxm
                    go_wp2
                    go_step3
                    simp only [Exit.inBlock, Exit.then]
                    refine Hops_on (n := 3) (l := 1) (h := 2) (by decide) (by rfl) ?_
                    go_wp2
                    go_step3
                    simp only [Exit.then]
                    refine Hops_on (n := 2) (l := 3) (h := 2) (by decide) (by rfl) ?_
                    go_wp2_with fail
                    refine (HFOUR.out _).mono ?_
                    rintro e w1 ⟨rfl, rfl⟩
                    go_wp2_with fail
                    refine (rune_any _ w.heap.size v acc X (by omega) (by omega) HOWN.out (by omega) hb.size).mono ?_
                    rintro e w2 ⟨v2, rfl, hown2, hb2⟩
                    go_wp2
                    go_step3
                    simp only [Exit.then]
                    refine Hops_head ?_
                    refine ⟨⟨pos + 6, acc ++ Lib.encodeRune X, v2, rfl, rfl, rfl, rfl, by go_num, by omega, by omega, by rw [List.length_append]; omega, hown2, hb.trans hb2, HN.out⟩, ?_⟩
                    show s.size - ((pos : Int) + 6).toNat < s.size - (pos : Int).toNat
                    omega
                  · have i1 : (55296 : Int) ≤ X := by omega
                    have i2 : (57344 : Int) ≤ X := by omega
                    clear hlo
                    clear hhalf HQ hlo' hxx hxm
                    go_wp2
                    go_step3
                    simp only [Exit.inBlock, Exit.then]
                    refine Hops_on (n := 3) (l := 1) (h := 2) (by decide) (by rfl) ?_
                    go_wp2
                    go_step3
                    simp only [Exit.then]
                    refine Hops_on (n := 2) (l := 3) (h := 2) (by decide) (by rfl) ?_
                    go_wp2_with fail
                    refine (HFOUR.out _).mono ?_
                    rintro e w1 ⟨rfl, rfl⟩
                    go_wp2_with fail
                    refine (rune_any _ w.heap.size v acc X (by omega) (by omega) HOWN.out (by omega) hb.size).mono ?_
                    rintro e w2 ⟨v2, rfl, hown2, hb2⟩
                    go_wp2
                    go_step3
                    simp only [Exit.then]
                    refine Hops_head ?_
                    refine ⟨⟨pos + 6, acc ++ Lib.encodeRune X, v2, rfl, rfl, rfl, rfl, by go_num, by omega, by omega, by rw [List.length_append]; omega, hown2, hb.trans hb2, HN.out⟩, ?_⟩
                    show s.size - ((pos : Int) + 6).toNat < s.size - (pos : Int).toNat
                    omega
            · have n117 : ((s[pos + 1].toNat : Int) == 117) = false := by rw [beq_eq_false_iff_ne]; exact b117
              have hq : unqB (s.data.toList.drop (pos + 1)) acc = match longS s[pos + 1].toNat with
                  | none => .inl (4, [])
                  | some d => .inr (s.data.toList.drop (pos + 2), acc ++ [d.toUInt8]) := by
                rw [HD1.out]
                simp only [unqB]
                rw [if_neg (by omega)]
                rfl
              have HQ := Lib.hid hq
              clear hq b117
              cases hl : longS s[pos + 1].toNat with
              | none =>
                have hq := HQ.out
                rw [hl] at hq
                have HST := Lib.hid (HFINB.out _ hq)
                have hlv : longV s[pos + 1].toNat = 0 := by unfold longV; rw [hl]; rfl
                have hlb : longB s[pos + 1].toNat = false := by unfold longB; rw [hl]; rfl
                clear hq hl
                go_wp2
                go_step3
                simp only [Exit.inBlock, Exit.then]
                refine Hops_on (n := 3) (l := 1) (h := 2) (by decide) (by rfl) ?_
                go_wp2_with (go_at_call 42; refine (long_any _ _).mono ?_; rintro e w1 ⟨rfl, rfl⟩)
                refine Hops_ret ?_
                go_ret2
                exact ⟨ret_se (by rw [HST.out]) (by rw [HST.out]), hb⟩
              | some d =>
                have hq := HQ.out
                rw [hl] at hq
                have HN := Lib.hid (HNXTB.out _ _ hq)
                have hlv : longV s[pos + 1].toNat = d := by unfold longV; rw [hl]; rfl
                have hlb : longB s[pos + 1].toNat = true := by unfold longB; rw [hl]; rfl
                have hd : d < 256 := by
                  have hbt := s[pos + 1].toNat_lt
                  unfold longS at hl
                  repeat' split at hl
                  all_goals first | (injection hl with hl; omega) | cases hl
                have hcell : Lib.byteCells acc ++ [.int .u8 (d : Int)] = Lib.byteCells (acc ++ [d.toUInt8]) := by
                  rw [Lib.byteCells_append]
                  have : (d.toUInt8).toNat = d := by simp [Nat.toUInt8, UInt8.toNat_ofNat']; omega
                  simp [Lib.byteCells, this]
                have HCELL := Lib.hid hcell
                clear hq hl hcell
                go_wp2
                go_step3
                simp only [Exit.inBlock, Exit.then]
                refine Hops_on (n := 3) (l := 1) (h := 2) (by decide) (by rfl) ?_
                go_wp2_with (first | (go_at_call 42; refine (long_any _ _).mono ?_; rintro e w1 ⟨rfl, rfl⟩) | (at_builtin; refine wpList_append_own _ rfl (.tmp 82) (.tmp 84) 39 rfl w.heap.size 5 bi (.int .u8 0) 1 1 Tryd.underlying39 hbi hbz hbs hby rfl (by omega) v acc.length (Lib.byteCells acc) rfl (HOWN.out.alloc _) ⟨_, 0, none⟩ 1 1 [.int .u8 (d : Int)] rfl rfl (news_new _ _ _) (by intro u hu; simp at hu; subst hu; rfl) (by simp only [maxLen]; omega) (by omega) (by have := hb.size; simp; omega) ?_; intro v2 w2 hown2 hg2 _h2))
                go_step3
                simp only [Exit.then]
                refine Hops_head ?_
                refine ⟨⟨pos + 2, acc ++ [d.toUInt8], v2, rfl, rfl, rfl, rfl, by go_num, by omega, by omega, by simp; omega, by rw [← HCELL.out]; simpa using hown2, below_own (hb.alloc hb.size _) (HOWN.out.alloc _) hg2 (Nat.le_refl _) (by have := hb.size; simp; omega), HN.out⟩, ?_⟩
                show s.size - ((pos : Int) + 2).toNat < s.size - (pos : Int).toNat
                omega
          · have hq : unqB (s.data.toList.drop (pos + 1)) acc = .inl (4, []) := by rw [List.drop_eq_nil_of_le (by rw [← Lib.size_eq]; omega)]; rfl
            have HST := Lib.hid (HFINB.out _ hq)
            have ne1 : ((pos : Int) + 1 == (s.size : Int)) = true := by rw [beq_iff_eq]; omega
            clear hq
            go_wp2
            go_step3
            simp only [Exit.inBlock, Exit.then]
            refine Hops_on (n := 3) (l := 1) (h := 2) (by decide) (by rfl) ?_
            go_wp2
            refine Hops_ret ?_
            go_ret2
            exact ⟨ret_se (by rw [HST.out]) (by rw [HST.out]), hb⟩
        · have n92 : ((s[pos].toNat : Int) == 92) = false := by rw [beq_eq_false_iff_ne]; exact b92
          by_cases b32 : (s[pos].toNat : Int) < 32
          · have hq := unqStep_small (b := s[pos]) (t := s.data.toList.drop (pos + 1)) (acc := acc) (by omega) (by omega) (by omega)
            rw [← HD.out] at hq
            have HST := Lib.hid (HFIN.out _ hq)
            clear hq b34 b92
            go_wp2
            refine Hops_ret ?_
            go_ret2
            exact ⟨ret_se (by rw [HST.out]) (by rw [HST.out]), hb⟩
          · have b32' : (32 : Int) ≤ s[pos].toNat := by omega
            have hq := unqStep_other (b := s[pos]) (t := s.data.toList.drop (pos + 1)) (acc := acc) (by omega) (by omega) (by omega)
            rw [← HD.out] at hq
            have hnn : s.data.toList.drop pos ≠ [] := by rw [HD.out]; exact List.cons_ne_nil _ _
            have hdb := dec_bounds _ hnn
            rw [List.length_drop, ← Lib.size_eq] at hdb
            have hdc := decode_any s pos hlt wr HT
            obtain ⟨X, hX⟩ : ∃ X, (decL (s.data.toList.drop pos)).1 = X := ⟨_, rfl⟩
            obtain ⟨K, hK⟩ : ∃ K, (decL (s.data.toList.drop pos)).2 = K := ⟨_, rfl⟩
            rw [hX, hK] at hdc hq
            rw [hK] at hdb
            obtain ⟨k1, k2⟩ := hdb
            have HDC := Lib.hid hdc
            have HQ := Lib.hid hq
            clear hdc hq hX hK hnn b34 b92 b32
            by_cases hbad : X = 65533 ∧ K = 1
            · have hq := HQ.out
              rw [if_pos hbad] at hq
              obtain ⟨rfl, rfl⟩ := hbad
              have HST := Lib.hid (HFIN.out _ hq)
              clear hq
              go_wp2_with (go_at_call 41; refine HDC.out.mono ?_; rintro e w1 ⟨rfl, hb1⟩)
              refine Hops_ret ?_
              go_ret2
              exact ⟨ret_se (by rw [HST.out]) (by rw [HST.out]), hb.trans (hb1.mono hb.size)⟩
            · have hq := HQ.out
              rw [if_neg hbad, Nat.max_eq_right k1] at hq
              have hn := HNXT.out _ _ hq
              rw [List.drop_drop] at hn
              have HN := Lib.hid hn
              have hxs : (s.extract pos (pos + K)).size ≤ K := by rw [ByteArray.size_extract]; omega
              have hxe : (s.extract pos (pos + K)).data.toList = (s.data.toList.drop pos).take K := by rw [Lib.extract_data, Nat.add_sub_cancel_left]
              have hxc : acc.length + (s.extract pos (pos + K)).size = (acc ++ (s.data.toList.drop pos).take K).length := by rw [List.length_append, ← hxe, ← Lib.size_eq]
              have hxr : Lib.byteCells acc ++ Lib.strCells (s.extract pos (pos + K)) = Lib.byteCells (acc ++ (s.data.toList.drop pos).take K) := by rw [Lib.byteCells_append, Lib.strCells_eq, hxe]
              have HXC := Lib.hid hxc
              have HXR := Lib.hid hxr
              clear hq hn hxe hxc hxr
              have hsum : IntKind.i64.wrap ((pos : Int) + (K : Int)) = (pos : Int) + K := IntWalk.i64_in _ (by omega)
              by_cases hX : X = 65533
              · have bX : ((X : Int) == 65533) = true := by rw [beq_iff_eq]; omega
                have bK : ((K : Int) == 1) = false := by rw [beq_eq_false_iff_ne]; omega
                clear hX hbad
                go_wp2_with (first | (go_at_call 41; refine HDC.out.mono ?_; rintro e w1 ⟨rfl, hb1⟩) | (at_builtin; refine Lib.wpList_append_own_string _ rfl (.tmp 51) (.tmp 57) 39 9 rfl w.heap.size 5 bi Tryd.underlying39 Tryd.underlying9 hbi hbz hbs hby v acc.length (Lib.byteCells acc) rfl (own_below HOWN.out hb1) (s.extract pos (pos + K)) rfl (by simp only [maxLen]; omega) (by omega) (Nat.le_trans hb.size hb1.size) ?_; intro v2 w2 hown2 hg2 _h2))
                go_step3
                simp only [Exit.then]
                refine Hops_head ?_
                refine ⟨⟨pos + K, acc ++ (s.data.toList.drop pos).take K, v2, rfl, rfl, rfl, rfl, by go_num, by omega, by omega, by rw [← HXC.out]; omega, by rw [← HXC.out, ← HXR.out]; exact hown2, below_own (hb.trans (hb1.mono hb.size)) (own_below HOWN.out hb1) hg2 (Nat.le_refl _) (Nat.le_trans hb.size hb1.size), HN.out⟩, ?_⟩
                show s.size - ((pos : Int) + K).toNat < s.size - (pos : Int).toNat
                omega
              · have bX : ((X : Int) == 65533) = false := by rw [beq_eq_false_iff_ne]; omega
                clear hX hbad
                go_wp2_with (first | (go_at_call 41; refine HDC.out.mono ?_; rintro e w1 ⟨rfl, hb1⟩) | (at_builtin; refine Lib.wpList_append_own_string _ rfl (.tmp 51) (.tmp 57) 39 9 rfl w.heap.size 5 bi Tryd.underlying39 Tryd.underlying9 hbi hbz hbs hby v acc.length (Lib.byteCells acc) rfl (own_below HOWN.out hb1) (s.extract pos (pos + K)) rfl (by simp only [maxLen]; omega) (by omega) (Nat.le_trans hb.size hb1.size) ?_; intro v2 w2 hown2 hg2 _h2))
                go_step3
                simp only [Exit.then]
                refine Hops_head ?_
                refine ⟨⟨pos + K, acc ++ (s.data.toList.drop pos).take K, v2, rfl, rfl, rfl, rfl, by go_num, by omega, by omega, by rw [← HXC.out]; omega, by rw [← HXC.out, ← HXR.out]; exact hown2, below_own (hb.trans (hb1.mono hb.size)) (own_below HOWN.out hb1) hg2 (Nat.le_refl _) (Nat.le_trans hb.size hb1.size), HN.out⟩, ?_⟩
                show s.size - ((pos : Int) + K).toNat < s.size - (pos : Int).toNat
                omega
    · obtain rfl : pos = s.size := by omega
      have hst := HFIN.out (4, []) (by rw [List.drop_eq_nil_of_le (by rw [← Lib.size_eq]; omega)]; rfl)
      have HST := Lib.hid hst
      clear hst
      go_wp2
      refine Hops_ret ?_
      go_ret2
      exact ⟨ret_se (by rw [HST.out]) (by rw [HST.out]), hb⟩
end Go.Proofs.YthogialdoikanaaDoor
