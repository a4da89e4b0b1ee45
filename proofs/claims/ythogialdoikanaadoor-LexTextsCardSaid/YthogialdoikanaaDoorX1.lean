/- walks: the answer's own Part behind backslash and u. -/
import Derived.Test.YthogialdoikanaaDoorZ7
namespace Go.Proofs.YthogialdoikanaaDoor
open Go.RowKit

theorem rfour_at (s : ByteArray) (q : Nat) (i X : Int) (w : World) (hq : q ≤ s.size) (hs : s.size ≤ 1000000000000000000) (hi : i = q) (hX : fourR (s.data.toList.drop q) = X) :
    Calls Tryd.prog 61 #[.string s, .int .i64 i] w fun e w' => e = .returned (.int .i64 X) ∧ w = w' := by
  subst hi; subst hX
  exact rfour_any s q w hq hs
theorem partR_u {s : ByteArray} {k : Nat} (hk : k < s.size) (hk1 : k + 1 < s.size) (h : (s[k]'hk).toNat = 92) (h7 : (s[k + 1]'hk1).toNat = 117) : partR (s.data.toList.drop k) = ((partU (s.data.toList.drop (k + 2))).1, (partU (s.data.toList.drop (k + 2))).2.1, (partU (s.data.toList.drop (k + 2))).2.2) := by
  rw [drop_two s k hk hk1]; simp only [partR]; rw [if_neg (by omega), if_pos h]
  have hl : longS (s[k + 1]'hk1).toNat = none := by rw [h7]; rfl
  rw [hl]
  simp only
  rw [if_pos h7]
theorem partU_none {v : List UInt8} (h : fourS v = none) : partU v = (4, [], 0) := by unfold partU; rw [h]
theorem partU_out {v : List UInt8} {x : Nat} (h : fourS v = some x) (hx : x < 55296 ∨ 57343 < x) : partU v = (0, Lib.encodeRune x, 6) := by
  unfold partU; rw [h]
  simp only
  split
  · rw [if_neg (by omega)]
  · rw [if_neg (by omega), if_neg (by omega)]
theorem partU_bad {v : List UInt8} {x : Nat} (h : fourS v = some x) (hx : 55296 ≤ x ∧ x ≤ 57343) (hb : 56319 < x ∨ Lib.hasPrefix (v.drop 4) [92, 117] = false ∨ ∀ y, fourS (v.drop 6) = some y → y < 56320 ∨ 57343 < y) : partU v = (11, [], 0) := by
  unfold partU; rw [h]
  simp only
  split
  · rw [if_pos hx]
  · rename_i y hy
    rw [if_neg, if_pos hx]
    rintro ⟨h1, h2, h3⟩
    rcases hb with hb | hb | hb
    · omega
    · rw [hb] at h2; cases h2
    · have := hb y hy; omega
theorem partU_two {v : List UInt8} {x y : Nat} (h : fourS v = some x) (hx : 55296 ≤ x ∧ x ≤ 56319) (hp : Lib.hasPrefix (v.drop 4) [92, 117] = true) (hy : fourS (v.drop 6) = some y) (hyr : 56320 ≤ y ∧ y ≤ 57343) :
    partU v = (0, Lib.encodeRune (65536 + ((x : Int) - 55296) * 1024 + y - 56320), 12) := by
  unfold partU; rw [h]
  simp only
  rw [hy]
  simp only
  rw [if_pos ⟨hx, hp, hyr⟩]
theorem pre_at {s : ByteArray} {k : Nat} (h6 : k + 6 < s.size) (h7 : k + 7 < s.size) : Lib.hasPrefix ((s.data.toList.drop (k + 2)).drop 4) [92, 117] = (decide ((s[k + 6]'h6).toNat = 92) && decide ((s[k + 7]'h7).toNat = 117)) := by
  rw [List.drop_drop]
  show Lib.hasPrefix (s.data.toList.drop (k + 6)) [92, 117] = _
  rw [drop_two s (k + 6) h6 h7]
  rw [Bool.eq_iff_iff]
  simp only [Lib.hasPrefix, List.isPrefixOf, Bool.and_true, Bool.and_eq_true, beq_iff_eq, decide_eq_true_eq]
  constructor
  · rintro ⟨h1, h2⟩; rw [← h1, ← h2]; exact ⟨rfl, rfl⟩
  · rintro ⟨h1, h2⟩; exact ⟨(UInt8.toNat_inj.1 h1).symm, (UInt8.toNat_inj.1 h2).symm⟩
theorem pre_out {s : ByteArray} {k : Nat} (h7 : s.size ≤ k + 7) : Lib.hasPrefix ((s.data.toList.drop (k + 2)).drop 4) [92, 117] = false := by
  rw [List.drop_drop]
  have hl : (s.data.toList.drop (k + 2 + 4)).length ≤ 1 := by rw [List.length_drop, ← Lib.size_eq]; omega
  generalize s.data.toList.drop (k + 2 + 4) = u at hl
  match u, hl with
  | [], _ => rfl
  | [a], _ => simp [Lib.hasPrefix, List.isPrefixOf]
theorem four_len {s : ByteArray} {q x : Nat} (h : fourS (s.data.toList.drop q) = some x) : q + 4 ≤ s.size ∧ x < 65536 := by
  refine ⟨?_, fourS_lt h⟩
  rcases Nat.lt_or_ge s.size (q + 4) with h1 | h1
  · rw [show fourS (s.data.toList.drop q) = none from fourF_short 4 0 _ (by rw [List.length_drop, ← Lib.size_eq]; omega)] at h; cases h
  · exact h1
theorem enc_ne (X : Int) (h0 : 0 ≤ X) (h : X < 55296 ∨ (57343 < X ∧ X ≤ 1114111)) : Lib.encodeRune X ≠ [] := by
  obtain ⟨n, rfl⟩ : ∃ n : Nat, X = n := ⟨X.toNat, by omega⟩
  exact (next_encode n (by omega) []).2
theorem one_no (v V : Int) (w : World) (hv : v = V) (h : 55296 ≤ V ∧ V ≤ 57343) : Calls Tryd.prog 62 #[.int .i64 v] w fun e w' => e = .returned (.tuple #[.slice none 0 0, .bool false]) ∧ w = w' := by
  subst hv
  exact one_bad v w (.inr (.inr h))
theorem one_yes (v V : Int) (w : World) (hv : v = V) (h0 : 0 ≤ V) (h : V < 55296 ∨ (57343 < V ∧ V ≤ 1114111)) : Calls Tryd.prog 62 #[.int .i64 v] w fun e w' => ∃ x, e = .returned (.tuple #[x, .bool true]) ∧ ShowsBytes w' x (Lib.encodeRune V) ∧ Below w.heap.size w w' := by
  subst hv
  refine (one_ok v w h0 (by omega) (by omega)).mono ?_
  rintro e w' ⟨x, rfl, ho, hb⟩
  exact ⟨x, rfl, shows_own ho (enc_ne v h0 h), hb⟩

set_option maxHeartbeats 16000000 in
set_option maxRecDepth 100000 in
theorem part_u (s : ByteArray) (k : Nat) (w : World) (hk : k < s.size) (hs : s.size ≤ 1000000000000000000) (h : (s[k]'hk).toNat = 92) (hk1 : k + 1 < s.size) (h7 : (s[k + 1]'hk1).toNat = 117) :
    Calls Tryd.prog 45 #[.string s, .int .i64 k] w (PartPost (partR (s.data.toList.drop k)) k w) := by
  have n34 : ((s[k].toNat : Int) == 34) = false := by rw [beq_eq_false_iff_ne]; omega
  have n92 : ((s[k].toNat : Int) == 92) = true := by rw [beq_iff_eq]; omega
  have m92 : ((s[k].toNat : Int) != 92) = false := by rw [bne, n92]; rfl
  have n117 : ((s[k + 1].toNat : Int) == 117) = true := by rw [beq_iff_eq]; omega
  have m117 : ((s[k + 1].toNat : Int) != 117) = false := by rw [bne, n117]; rfl
  have hl : longS (s[k + 1]'hk1).toNat = none := by rw [h7]; rfl
  have HT := Lib.hid (tab8_long _ hl)
  have ix := idx_at s (k + 1) ((k : Int) + 1) hk1 (by omega)
  have HR := Lib.hid (partR_u hk hk1 h h7)
  clear hl
  go_enter Tryd.func45, Tryd.ntmps45
  go_wp2
  go_loopw [11] (fun vi wr => ∃ j m : Nat, vi = .int .i64 j ∧ j ≤ 8 ∧ wr = w.drewN m) (fun vi _ => 8 - (intOf vi).toNat)
  case atStart => exact ⟨0, 0, rfl, by omega, rfl⟩
  case round =>
    obtain ⟨j, m, rfl, hj, hwr⟩ := hrel
    have HW := Lib.hid hwr
    clear hwr
    by_cases hlt : j < 8
    · have tb : ((s[k + 1].toNat : Int) == (((⟨#[34, 92, 47, 98, 102, 110, 114, 116]⟩ : ByteArray)[j]'hlt).toNat : Int)) = false := by
        rw [beq_eq_false_iff_ne, lit8 j hlt]; intro h; exact HT.out j hlt (UInt8.toNat_inj.1 (by omega))
      go_wp2
      go_quiet (fail)
      go_wp2
      go_roundw
      case rel => exact ⟨j + 1, _, by go_num, by omega, by rw [HW.out]; exact World.drewN_drewN _ _ _⟩
      case measure => simp [intOf]; omega
    · obtain rfl : j = 8 := by omega
      have hbw : Below w.heap.size w wr := by rw [HW.out]; exact below_dr (Below.refl _ _) _
      have HBW := Lib.hid hbw
      clear hbw HT HW hlt hj
      generalize hv : s.data.toList.drop (k + 2) = v at HR
      cases hx : fourS v with
      | none =>
        have HX := Lib.hid (show fourR (s.data.toList.drop (k + 2)) = -1 by rw [hv]; exact fourR_none hx)
        have HP := Lib.hid (show (partR (s.data.toList.drop k)).1 = 4 by rw [HR.out, partU_none hx])
        clear hx hv HR
        go_wp2_with (go_at_call 61; refine (rfour_at s (k + 2) _ (-1) _ (by omega) hs (by omega) HX.out).mono ?_; rintro e w1 ⟨rfl, rfl⟩)
        go_ret3
        exact part_err HP.out (by decide) (by decide) HBW.out
      | some x =>
        obtain ⟨h6, hxl⟩ := four_len (show fourS (s.data.toList.drop (k + 2)) = some x by rw [hv]; exact hx)
        obtain ⟨X, hX⟩ : ∃ X : Int, X = x := ⟨_, rfl⟩
        have HX := Lib.hid (show fourR (s.data.toList.drop (k + 2)) = X by rw [hv, hX]; exact fourR_some hx)
        have HV := Lib.hid hv
        have HXX := Lib.hid hx
        have hX0 : 0 ≤ X := by omega
        have hX1 : X < 65536 := by omega
        clear hx hv
        by_cases c1 : X < 55296
        · have HP := Lib.hid (show partR (s.data.toList.drop k) = (0, Lib.encodeRune X, 6) by rw [HR.out, partU_out HXX.out (by omega), hX])
          clear hX HR HXX HV hxl
          go_wp2_with (first | (go_at_call 61; refine (rfour_at s (k + 2) _ X _ (by omega) hs (by omega) HX.out).mono ?_; rintro e w1 ⟨rfl, rfl⟩) | (go_at_call 62; refine (one_yes _ X _ rfl hX0 (by omega)).mono ?_; rintro e w1 ⟨x1, rfl, hsh, hb1⟩))
          try any_goals (exfalso; omega)
          go_ret3
          exact part_yes HP.out (by omega) (HBW.out.trans (hb1.mono HBW.out.size)) hsh
        · by_cases c2 : 57343 < X
          · have HP := Lib.hid (show partR (s.data.toList.drop k) = (0, Lib.encodeRune X, 6) by rw [HR.out, partU_out HXX.out (by omega), hX])
            clear hX HR HXX HV hxl
            go_wp2_with (first | (go_at_call 61; refine (rfour_at s (k + 2) _ X _ (by omega) hs (by omega) HX.out).mono ?_; rintro e w1 ⟨rfl, rfl⟩) | (go_at_call 62; refine (one_yes _ X _ rfl hX0 (by omega)).mono ?_; rintro e w1 ⟨x1, rfl, hsh, hb1⟩))
            try any_goals (exfalso; omega)
            go_ret3
            exact part_yes HP.out (by omega) (HBW.out.trans (hb1.mono HBW.out.size)) hsh
          · by_cases c3 : 56319 < X
            · have HP := Lib.hid (show (partR (s.data.toList.drop k)).1 = 11 by rw [HR.out, partU_bad HXX.out (by omega) (.inl (by omega))])
              clear hX HR HXX HV hxl
              go_wp2_with (first | (go_at_call 61; refine (rfour_at s (k + 2) _ X _ (by omega) hs (by omega) HX.out).mono ?_; rintro e w1 ⟨rfl, rfl⟩) | (go_at_call 62; refine (one_no _ X _ rfl (by omega)).mono ?_; rintro e w1 ⟨rfl, rfl⟩))
              try any_goals (exfalso; omega)
              go_ret3
              exact part_err HP.out (by decide) (by decide) HBW.out
            · by_cases c7 : s.size ≤ k + 7
              · have HP := Lib.hid (show (partR (s.data.toList.drop k)).1 = 11 by rw [HR.out, partU_bad HXX.out (by omega) (.inr (.inl (by rw [← HV.out]; exact pre_out c7)))])
                clear hX HR HXX HV hxl
                go_wp2_with (first | (go_at_call 61; refine (rfour_at s (k + 2) _ X _ (by omega) hs (by omega) HX.out).mono ?_; rintro e w1 ⟨rfl, rfl⟩) | (go_at_call 62; refine (one_no _ X _ rfl (by omega)).mono ?_; rintro e w1 ⟨rfl, rfl⟩))
                try any_goals (exfalso; omega)
                go_ret3
                exact part_err HP.out (by decide) (by decide) HBW.out
              · have k6 : k + 6 < s.size := by omega
                have k7 : k + 7 < s.size := by omega
                have HPRE := Lib.hid (pre_at k6 k7)
                have i6 := idx_at s (k + 6) ((k : Int) + 6) k6 (by omega)
                have i7 := idx_at s (k + 7) ((k : Int) + 7) k7 (by omega)
                by_cases c4 : (s[k + 6]'k6).toNat = 92
                · have t6 : ((s[k + 6].toNat : Int) == 92) = true := by rw [beq_iff_eq]; omega
                  by_cases c5 : (s[k + 7]'k7).toNat = 117
                  · have t7 : ((s[k + 7].toNat : Int) == 117) = true := by rw [beq_iff_eq]; omega
                    have HPT := Lib.hid (show Lib.hasPrefix (v.drop 4) [92, 117] = true by rw [← HV.out, HPRE.out, c4, c5]; rfl)
                    have hv6 : v.drop 6 = s.data.toList.drop (k + 8) := by rw [← HV.out, List.drop_drop]
                    cases hy : fourS (v.drop 6) with
                    | none =>
                      obtain ⟨Y, hY⟩ : ∃ Y : Int, Y = -1 := ⟨_, rfl⟩
                      have HY := Lib.hid (show fourR (s.data.toList.drop (k + 8)) = Y by rw [hY, ← hv6]; exact fourR_none hy)
                      have HP := Lib.hid (show (partR (s.data.toList.drop k)).1 = 11 by rw [HR.out, partU_bad HXX.out (by omega) (.inr (.inr (fun y h => by rw [hy] at h; cases h)))])
                      clear hy hv6 hX HR HXX HV hxl
                      go_wp2_with (first | (go_at_call 61; refine (rfour_at s (k + 2) _ X _ (by omega) hs (by omega) HX.out).mono ?_; rintro e w1 ⟨rfl, rfl⟩) | (go_at_call 61; refine (rfour_at s (k + 8) _ Y _ (by omega) hs (by omega) HY.out).mono ?_; rintro e w1 ⟨rfl, rfl⟩) | (go_at_call 62; refine (one_no _ X _ rfl (by omega)).mono ?_; rintro e w1 ⟨rfl, rfl⟩))
                      try any_goals (exfalso; omega)
                      go_ret3
                      exact part_err HP.out (by decide) (by decide) HBW.out
                    | some y =>
                      have hyl := fourS_lt hy
                      obtain ⟨Y, hY⟩ : ∃ Y : Int, Y = y := ⟨_, rfl⟩
                      have HY := Lib.hid (show fourR (s.data.toList.drop (k + 8)) = Y by rw [hY, ← hv6]; exact fourR_some hy)
                      have hY0 : 0 ≤ Y := by omega
                      have hY1 : Y < 65536 := by omega
                      have HYY := Lib.hid hy
                      clear hy hv6
                      by_cases c8 : 56320 ≤ Y ∧ Y ≤ 57343
                      · have HP := Lib.hid (show partR (s.data.toList.drop k) = (0, Lib.encodeRune (65536 + (X - 55296) * 1024 + Y - 56320), 12) by rw [HR.out, partU_two HXX.out (by omega) HPT.out HYY.out (by omega), hX, hY])
                        obtain ⟨c8, c9⟩ := c8
                        clear hX HR HXX HV hxl hY hyl HYY
                        go_wp2_with (first | (go_at_call 61; refine (rfour_at s (k + 2) _ X _ (by omega) hs (by omega) HX.out).mono ?_; rintro e w1 ⟨rfl, rfl⟩) | (go_at_call 61; refine (rfour_at s (k + 8) _ Y _ (by omega) hs (by omega) HY.out).mono ?_; rintro e w1 ⟨rfl, rfl⟩) | (go_at_call 62; refine (one_yes _ (65536 + (X - 55296) * 1024 + Y - 56320) _ (by omega) (by omega) (by omega)).mono ?_; rintro e w1 ⟨x1, rfl, hsh, hb1⟩))
                        try any_goals (exfalso; omega)
                        go_ret3
                        exact part_yes HP.out (by omega) (HBW.out.trans (hb1.mono HBW.out.size)) hsh
                      · have HP := Lib.hid (show (partR (s.data.toList.drop k)).1 = 11 by rw [HR.out, partU_bad HXX.out (by omega) (.inr (.inr (fun z h => by rw [HYY.out] at h; injection h with h; omega)))])
                        clear hX HR HXX HV hxl HYY hY hyl
                        have c9 : Y < 56320 ∨ 57343 < Y := by omega
                        clear c8
                        rcases c9 with c9 | c9
                        all_goals
                          go_wp2_with (first | (go_at_call 61; refine (rfour_at s (k + 2) _ X _ (by omega) hs (by omega) HX.out).mono ?_; rintro e w1 ⟨rfl, rfl⟩) | (go_at_call 61; refine (rfour_at s (k + 8) _ Y _ (by omega) hs (by omega) HY.out).mono ?_; rintro e w1 ⟨rfl, rfl⟩) | (go_at_call 62; refine (one_no _ X _ rfl (by omega)).mono ?_; rintro e w1 ⟨rfl, rfl⟩))
                          try any_goals (exfalso; omega)
                          go_ret3
                          exact part_err HP.out (by decide) (by decide) HBW.out
                  · have t7 : ((s[k + 7].toNat : Int) == 117) = false := by rw [beq_eq_false_iff_ne]; omega
                    have HP := Lib.hid (show (partR (s.data.toList.drop k)).1 = 11 by rw [HR.out, partU_bad HXX.out (by omega) (.inr (.inl (by rw [← HV.out, HPRE.out, decide_eq_false c5, Bool.and_false])))])
                    clear hX HR HXX HV hxl
                    go_wp2_with (first | (go_at_call 61; refine (rfour_at s (k + 2) _ X _ (by omega) hs (by omega) HX.out).mono ?_; rintro e w1 ⟨rfl, rfl⟩) | (go_at_call 62; refine (one_no _ X _ rfl (by omega)).mono ?_; rintro e w1 ⟨rfl, rfl⟩))
                    try any_goals (exfalso; omega)
                    go_ret3
                    exact part_err HP.out (by decide) (by decide) HBW.out
                · have t6 : ((s[k + 6].toNat : Int) == 92) = false := by rw [beq_eq_false_iff_ne]; omega
                  have HP := Lib.hid (show (partR (s.data.toList.drop k)).1 = 11 by rw [HR.out, partU_bad HXX.out (by omega) (.inr (.inl (by rw [← HV.out, HPRE.out, decide_eq_false c4, Bool.false_and])))])
                  clear hX HR HXX HV hxl
                  go_wp2_with (first | (go_at_call 61; refine (rfour_at s (k + 2) _ X _ (by omega) hs (by omega) HX.out).mono ?_; rintro e w1 ⟨rfl, rfl⟩) | (go_at_call 62; refine (one_no _ X _ rfl (by omega)).mono ?_; rintro e w1 ⟨rfl, rfl⟩))
                  try any_goals (exfalso; omega)
                  go_ret3
                  exact part_err HP.out (by decide) (by decide) HBW.out
end Go.Proofs.YthogialdoikanaaDoor
