/- walk: the answer's own number. -/
import Derived.Test.YthogialdoikanaaDoorZ1
import Derived.Test.YthogialdoikanaaDoorZ9
namespace Go.Proofs.YthogialdoikanaaDoor
open Go.RowKit

theorem numBad_neg (D V h : Nat) : numBad true D V h ↔ (19 < D ∨ h = 48 ∨ 9223372036854775808 < V) := by simp [numBad]
theorem numBad_pos (D V h : Nat) : numBad false D V h ↔ (19 < D ∨ (h = 48 ∧ 1 < D) ∨ 9223372036854775808 ≤ V) := by simp [numBad]
theorem take_digs {l : List UInt8} {j : Nat} (hj : j ≤ runS isDig l) : ∀ b ∈ l.take j, isDig (b.toNat : Int) = true := by
  intro b hb
  refine runS_take isDig l b ?_
  have e : l.take j = (l.take (runS isDig l)).take j := by rw [List.take_take, Nat.min_eq_left hj]
  rw [e] at hb
  exact List.mem_of_mem_take hb
theorem dig_low {l : List UInt8} {j : Nat} (hj : j ≤ runS isDig l) (h : j ≤ 18) : digV 0 (l.take j) < 1000000000000000000 := by
  refine pow_low (j := j) ?_ h
  refine digV_lt _ 0 0 j (take_digs hj) (by simp) ?_
  rw [List.length_take]; have := runS_le isDig l; omega
theorem dig_top {l : List UInt8} {j : Nat} (hj : j ≤ runS isDig l) (h : j ≤ 19) : digV 0 (l.take j) < 10000000000000000000 := by
  have h1 : digV 0 (l.take j) < 10 ^ j := by
    refine digV_lt _ 0 0 j (take_digs hj) (by simp) ?_
    rw [List.length_take]; have := runS_le isDig l; omega
  have h2 : 10 ^ j ≤ 10 ^ 19 := Nat.pow_le_pow_right (by omega) h
  exact Nat.lt_of_lt_of_le h1 h2
theorem dig_more {l r : List UInt8} {j : Nat} {b : UInt8} (h : l.drop j = b :: r) : digV 0 (l.take (j + 1)) = digV 0 (l.take j) * 10 + (b.toNat - 48) := by
  have hj : j < l.length := by
    rcases Nat.lt_or_ge j l.length with h1 | h1
    · exact h1
    · rw [List.drop_eq_nil_of_le h1] at h; cases h
  have e : l.take (j + 1) = l.take j ++ [b] := by
    rw [List.take_add, h]; rfl
  rw [e, digV_append]
  rfl
theorem dig_ge {c : UInt8} {r : List UInt8} {j : Nat} (h : 1 ≤ j) : c.toNat - 48 ≤ digV 0 ((c :: r).take j) := by
  obtain ⟨q, rfl⟩ : ∃ q, j = q + 1 := ⟨j - 1, by omega⟩
  rw [List.take_succ_cons]
  have := digV_ge (r.take q) (0 * 10 + (c.toNat - 48))
  rw [Nat.zero_mul, Nat.zero_add] at this
  refine Nat.le_trans this ?_
  show _ ≤ digV (0 * 10 + (c.toNat - 48)) (r.take q)
  rw [Nat.zero_mul, Nat.zero_add]
  exact Nat.le_refl _

def NumPost (N : Int × Nat × Int) (k : Nat) (w : World) (e : Ending) (w' : World) : Prop :=
  e = .returned (.tuple #[.int .i64 N.1, .int .i64 (if N.2.2 = 0 then ((k + N.2.1 : Nat) : Int) else 0), .int .i64 N.2.2]) ∧ w = w'
theorem num_err {N : Int × Nat × Int} {k : Nat} {w : World} {c : Int} (h : N = (0, 0, c)) (hc : c ≠ 0) : NumPost N k w (.returned (.tuple #[.int .i64 0, .int .i64 0, .int .i64 c])) w := by
  subst h
  refine ⟨?_, rfl⟩
  simp only
  rw [if_neg hc]
theorem num_yes {N : Int × Nat × Int} {k n : Nat} {w : World} {v x p : Int} (h : N = (v, n, 0)) (hx : x = v) (hp : p = ((k + n : Nat) : Int)) : NumPost N k w (.returned (.tuple #[.int .i64 x, .int .i64 p, .int .i64 0])) w := by
  subst h; subst hx; subst hp
  exact ⟨rfl, rfl⟩

set_option maxHeartbeats 8000000 in
set_option maxRecDepth 100000 in
theorem number_pos (s : ByteArray) (k : Nat) (w : World) (hk : k < s.size) (hs : s.size ≤ 1000000000000) (h : isDig ((s[k]'hk).toNat : Int) = true) : Calls Tryd.prog 27 #[.string s, .int .i64 k] w (NumPost (numP (s.data.toList.drop k)) k w) := by
  have hc := dig_range h
  have hd := drop_at s k hk
  obtain ⟨D, hD⟩ : ∃ D, runS isDig (s.data.toList.drop k) = D := ⟨_, rfl⟩
  obtain ⟨V, hV⟩ : ∃ V, digV 0 (((s.data.toList.drop k).take D).take 19) = V := ⟨_, rfl⟩
  have hN : numP (s.data.toList.drop k) = if numBad false D V (s[k]'hk).toNat then (0, 0, 12) else ((V : Int), D, 0) := by
    rw [hd] at hD hV ⊢
    exact numP_pos h D V hD hV

  have hDl : k + D ≤ s.size := by
    have := runS_le isDig (s.data.toList.drop k)
    rw [List.length_drop, ← Lib.size_eq] at this
    omega
  have hD1 : 1 ≤ D := by rw [← hD, hd]; simp only [runS]; rw [if_pos h]; omega
  have hVt : V < 10000000000000000000 := by
    rw [← hV, List.take_take]
    exact dig_top (by rw [hD]; omega) (by omega)
  have HN := Lib.hid hN
  have HD := Lib.hid hD
  have HV := Lib.hid hV
  have n45 : ((s[k].toNat : Int) == 45) = false := by rw [beq_eq_false_iff_ne]; omega
  clear hN hD hV hd h
  go_enter Tryd.func27, Tryd.ntmps27
  go_wp2
  go_loop [7, 9] (fun i n => ∃ j m : Nat, i = .int .i64 (k + j : Nat) ∧ n = .int .u64 m ∧ j ≤ D ∧ m = digV 0 ((s.data.toList.drop k).take (min j 19))) (fun i _ => s.size - (intOf i).toNat)
  case atStart => exact ⟨0, 0, by go_num, rfl, by omega, rfl⟩
  case round =>
    obtain ⟨j, m, rfl, rfl, hj, hm⟩ := hrel
    have HM := Lib.hid hm
    clear hm
    by_cases hlt : j < D
    · have hkj : k + j < s.size := by omega
      have hdr : (s.data.toList.drop k).drop j = s[k + j] :: s.data.toList.drop (k + j + 1) := by
        rw [List.drop_drop]; exact drop_at s (k + j) hkj
      have hdg : isDig (s[k + j].toNat : Int) = true := by
        have e := runS_split isDig (s.data.toList.drop k) j (by have := HD.out; omega)
        rw [HD.out, hdr] at e
        simp only [runS] at e
        split at e
        · assumption
        · omega
      have hr := dig_range hdg
      have h256 := (s[k + j]).toNat_lt
      have hw := wrap64_byte s[k + j]
      by_cases h19 : j < 19
      · have hmn : min j 19 = j := by omega
        have hm := HM.out
        rw [hmn] at hm
        have hlow : m < 1000000000000000000 := by rw [hm]; exact dig_low (by rw [HD.out]; exact hj) (by omega)
        have HM2 := Lib.hid (show m * 10 + (s[k + j].toNat - 48) = digV 0 ((s.data.toList.drop k).take (min (j + 1) 19)) by rw [show min (j + 1) 19 = j + 1 by omega, dig_more hdr, hm])
        clear hm hmn hdr
        go_wp2_with (go_at_call 26; refine (rdigit_any _ _).mono ?_; rintro e w1 ⟨rfl, rfl⟩)
        try any_goals (exfalso; omega)
        go_round
        case rel => exact ⟨j + 1, _, by go_num, int_eq (by omega), by omega, HM2.out⟩
        case measure => simp [intOf]; omega
      · have HM2 := Lib.hid (show m = digV 0 ((s.data.toList.drop k).take (min (j + 1) 19)) by rw [HM.out]; congr 2; omega)
        clear hdr
        go_wp2_with (go_at_call 26; refine (rdigit_any _ _).mono ?_; rintro e w1 ⟨rfl, rfl⟩)
        try any_goals (exfalso; omega)
        go_round
        case rel => exact ⟨j + 1, _, by go_num, rfl, by omega, HM2.out⟩
        case measure => simp [intOf]; omega
    · obtain rfl : j = D := by omega
      have hm := HM.out
      have hv := HV.out
      rw [List.take_take, Nat.min_comm] at hv
      rw [hv] at hm
      obtain rfl : m = V := hm
      clear hv
      have hex : ∀ hkd : k + j < s.size, isDig ((s[k + j]'hkd).toNat : Int) = false := by
        intro hkd
        have e := runS_split isDig (s.data.toList.drop k) j (by have := HD.out; omega)
        rw [HD.out, List.drop_drop, show s.data.toList.drop (k + j) = _ from drop_at s (k + j) hkd] at e
        simp only [runS] at e
        split at e
        · omega
        · rename_i h1; simpa using h1
      by_cases c48 : (s[k]'hk).toNat = 48
      · have t48 : ((s[k].toNat : Int) == 48) = true := by rw [beq_iff_eq]; omega
        rcases Nat.lt_or_ge (k + j) s.size with hkd | hkd
        · have hdg := hex hkd
          clear hex
          go_wp2_with (go_at_call 26; refine (rdigit_any _ _).mono ?_; rintro e w1 ⟨rfl, rfl⟩)
          all_goals first | (exfalso; omega) | (go_ret3; first | exact num_err (by rw [HN.out, if_pos ((numBad_pos _ _ _).2 (by omega))]) (by decide) | exact num_yes (by rw [HN.out, if_neg (fun hb => by have := (numBad_pos _ _ _).1 hb; omega)]) (by omega) (by omega))
        · clear hex
          go_wp2_with (go_at_call 26; refine (rdigit_any _ _).mono ?_; rintro e w1 ⟨rfl, rfl⟩)
          all_goals first | (exfalso; omega) | (go_ret3; first | exact num_err (by rw [HN.out, if_pos ((numBad_pos _ _ _).2 (by omega))]) (by decide) | exact num_yes (by rw [HN.out, if_neg (fun hb => by have := (numBad_pos _ _ _).1 hb; omega)]) (by omega) (by omega))
      · have n48 : ((s[k].toNat : Int) == 48) = false := by rw [beq_eq_false_iff_ne]; omega
        rcases Nat.lt_or_ge (k + j) s.size with hkd | hkd
        · have hdg := hex hkd
          clear hex
          go_wp2_with (go_at_call 26; refine (rdigit_any _ _).mono ?_; rintro e w1 ⟨rfl, rfl⟩)
          all_goals first | (exfalso; omega) | (go_ret3; first | exact num_err (by rw [HN.out, if_pos ((numBad_pos _ _ _).2 (by omega))]) (by decide) | exact num_yes (by rw [HN.out, if_neg (fun hb => by have := (numBad_pos _ _ _).1 hb; omega)]) (by omega) (by omega))
        · clear hex
          go_wp2_with (go_at_call 26; refine (rdigit_any _ _).mono ?_; rintro e w1 ⟨rfl, rfl⟩)
          all_goals first | (exfalso; omega) | (go_ret3; first | exact num_err (by rw [HN.out, if_pos ((numBad_pos _ _ _).2 (by omega))]) (by decide) | exact num_yes (by rw [HN.out, if_neg (fun hb => by have := (numBad_pos _ _ _).1 hb; omega)]) (by omega) (by omega))
set_option maxHeartbeats 8000000 in
set_option maxRecDepth 100000 in
theorem number_neg (s : ByteArray) (k : Nat) (w : World) (hk : k < s.size) (hs : s.size ≤ 1000000000000) (h : (s[k]'hk).toNat = 45) : Calls Tryd.prog 27 #[.string s, .int .i64 k] w (NumPost (numP (s.data.toList.drop k)) k w) := by
  have t45 : ((s[k].toNat : Int) == 45) = true := by rw [beq_iff_eq]; omega
  have hd := drop_at s k hk
  by_cases hz : runS isDig (s.data.toList.drop (k + 1)) = 0
  · have hN : numP (s.data.toList.drop k) = (0, 0, 14) := by rw [hd]; exact numP_none h hz
    have hex : ∀ hk1 : k + 1 < s.size, isDig ((s[k + 1]'hk1).toNat : Int) = false := by
      intro hk1
      rw [drop_at s (k + 1) hk1] at hz
      simp only [runS] at hz
      split at hz
      · omega
      · rename_i h1; simpa using h1
    have HN := Lib.hid hN
    clear hN hd hz
    rcases Nat.lt_or_ge (k + 1) s.size with hk1 | hk1
    · have hdg := hex hk1
      clear hex
      go_enter Tryd.func27, Tryd.ntmps27
      go_wp2
      go_loop [7, 9] (fun i n => i = .int .i64 ((k : Int) + 1) ∧ n = .int .u64 0) (fun _ _ => 0)
      case atStart => exact ⟨rfl, rfl⟩
      case round =>
        obtain ⟨rfl, rfl⟩ := hrel
        go_wp2_with (go_at_call 26; refine (rdigit_any _ _).mono ?_; rintro e w1 ⟨rfl, rfl⟩)
        all_goals first | (exfalso; omega) | (go_ret3; exact num_err HN.out (by decide))
    · clear hex
      go_enter Tryd.func27, Tryd.ntmps27
      go_wp2
      go_loop [7, 9] (fun i n => i = .int .i64 ((k : Int) + 1) ∧ n = .int .u64 0) (fun _ _ => 0)
      case atStart => exact ⟨rfl, rfl⟩
      case round =>
        obtain ⟨rfl, rfl⟩ := hrel
        go_wp2
        all_goals first | (exfalso; omega) | (go_ret3; exact num_err HN.out (by decide))
  have hk1 : k + 1 < s.size := by
    rcases Nat.lt_or_ge (k + 1) s.size with h1 | h1
    · exact h1
    · rw [List.drop_eq_nil_of_le (by rw [← Lib.size_eq]; exact h1)] at hz; exact absurd rfl hz
  have hd1 := drop_at s (k + 1) hk1
  have hdg1 : isDig ((s[k + 1]'hk1).toNat : Int) = true := by
    rw [hd1] at hz
    simp only [runS] at hz
    split at hz
    · assumption
    · exact absurd rfl hz
  have hc := dig_range hdg1
  obtain ⟨D, hD⟩ : ∃ D, runS isDig (s.data.toList.drop (k + 1)) = D := ⟨_, rfl⟩
  obtain ⟨V, hV⟩ : ∃ V, digV 0 (((s.data.toList.drop (k + 1)).take D).take 19) = V := ⟨_, rfl⟩
  have hN : numP (s.data.toList.drop k) = if numBad true D V (s[k + 1]'hk1).toNat then (0, 0, 12) else (-(V : Int), 1 + D, 0) := by
    rw [hd]
    exact numP_neg h _ _ hd1 hdg1 D V hD hV

  have hDl : k + 1 + D ≤ s.size := by
    have := runS_le isDig (s.data.toList.drop (k + 1))
    rw [List.length_drop, ← Lib.size_eq] at this
    omega
  have hD1 : 1 ≤ D := by omega
  have hV1 : s[k + 1].toNat - 48 ≤ V := by
    rw [← hV, List.take_take, hd1]
    exact dig_ge (by omega)
  have hVt : V < 10000000000000000000 := by
    rw [← hV, List.take_take]
    exact dig_top (by rw [hD]; omega) (by omega)
  have HN := Lib.hid hN
  have HD := Lib.hid hD
  have HV := Lib.hid hV
  clear hN hD hV hd h hd1 hdg1 hz
  go_enter Tryd.func27, Tryd.ntmps27
  go_wp2
  go_loop [7, 9] (fun i n => ∃ j m : Nat, i = .int .i64 (k + 1 + j : Nat) ∧ n = .int .u64 m ∧ j ≤ D ∧ m = digV 0 ((s.data.toList.drop (k + 1)).take (min j 19))) (fun i _ => s.size - (intOf i).toNat)
  case atStart => exact ⟨0, 0, by go_num, rfl, by omega, rfl⟩
  case round =>
    obtain ⟨j, m, rfl, rfl, hj, hm⟩ := hrel
    have HM := Lib.hid hm
    clear hm
    by_cases hlt : j < D
    · have hkj : k + 1 + j < s.size := by omega
      have hdr : (s.data.toList.drop (k + 1)).drop j = s[k + 1 + j] :: s.data.toList.drop (k + 1 + j + 1) := by
        rw [List.drop_drop]; exact drop_at s (k + 1 + j) hkj
      have hdg : isDig (s[k + 1 + j].toNat : Int) = true := by
        have e := runS_split isDig (s.data.toList.drop (k + 1)) j (by have := HD.out; omega)
        rw [HD.out, hdr] at e
        simp only [runS] at e
        split at e
        · assumption
        · omega
      have hr := dig_range hdg
      have h256 := (s[k + 1 + j]).toNat_lt
      have hw := wrap64_byte s[k + 1 + j]
      by_cases h19 : j < 19
      · have hmn : min j 19 = j := by omega
        have hm := HM.out
        rw [hmn] at hm
        have hlow : m < 1000000000000000000 := by rw [hm]; exact dig_low (by rw [HD.out]; exact hj) (by omega)
        have HM2 := Lib.hid (show m * 10 + (s[k + 1 + j].toNat - 48) = digV 0 ((s.data.toList.drop (k + 1)).take (min (j + 1) 19)) by rw [show min (j + 1) 19 = j + 1 by omega, dig_more hdr, hm])
        clear hm hmn hdr
        go_wp2_with (go_at_call 26; refine (rdigit_any _ _).mono ?_; rintro e w1 ⟨rfl, rfl⟩)
        try any_goals (exfalso; omega)
        go_round
        case rel => exact ⟨j + 1, _, by go_num, int_eq (by omega), by omega, HM2.out⟩
        case measure => simp [intOf]; omega
      · have HM2 := Lib.hid (show m = digV 0 ((s.data.toList.drop (k + 1)).take (min (j + 1) 19)) by rw [HM.out]; congr 2; omega)
        clear hdr
        go_wp2_with (go_at_call 26; refine (rdigit_any _ _).mono ?_; rintro e w1 ⟨rfl, rfl⟩)
        try any_goals (exfalso; omega)
        go_round
        case rel => exact ⟨j + 1, _, by go_num, rfl, by omega, HM2.out⟩
        case measure => simp [intOf]; omega
    · obtain rfl : j = D := by omega
      have hm := HM.out
      have hv := HV.out
      rw [List.take_take, Nat.min_comm] at hv
      rw [hv] at hm
      obtain rfl : m = V := hm
      clear hv
      have hex : ∀ hkd : k + 1 + j < s.size, isDig ((s[k + 1 + j]'hkd).toNat : Int) = false := by
        intro hkd
        have e := runS_split isDig (s.data.toList.drop (k + 1)) j (by have := HD.out; omega)
        rw [HD.out, List.drop_drop, show s.data.toList.drop (k + 1 + j) = _ from drop_at s (k + 1 + j) hkd] at e
        simp only [runS] at e
        split at e
        · omega
        · rename_i h1; simpa using h1
      by_cases c48 : (s[k + 1]'hk1).toNat = 48
      · have t48 : ((s[k + 1].toNat : Int) == 48) = true := by rw [beq_iff_eq]; omega
        rcases Nat.lt_or_ge (k + 1 + j) s.size with hkd | hkd
        · have hdg := hex hkd
          clear hex
          go_wp2_with (go_at_call 26; refine (rdigit_any _ _).mono ?_; rintro e w1 ⟨rfl, rfl⟩)
          all_goals first | (exfalso; omega) | (go_ret3; first | exact num_err (by rw [HN.out, if_pos ((numBad_neg _ _ _).2 (by omega))]) (by decide) | exact num_yes (by rw [HN.out, if_neg (fun hb => by have := (numBad_neg _ _ _).1 hb; omega)]) (by omega) (by omega))
        · clear hex
          go_wp2_with (go_at_call 26; refine (rdigit_any _ _).mono ?_; rintro e w1 ⟨rfl, rfl⟩)
          all_goals first | (exfalso; omega) | (go_ret3; first | exact num_err (by rw [HN.out, if_pos ((numBad_neg _ _ _).2 (by omega))]) (by decide) | exact num_yes (by rw [HN.out, if_neg (fun hb => by have := (numBad_neg _ _ _).1 hb; omega)]) (by omega) (by omega))
      · have n48 : ((s[k + 1].toNat : Int) == 48) = false := by rw [beq_eq_false_iff_ne]; omega
        rcases Nat.lt_or_ge (k + 1 + j) s.size with hkd | hkd
        · have hdg := hex hkd
          clear hex
          go_wp2_with (go_at_call 26; refine (rdigit_any _ _).mono ?_; rintro e w1 ⟨rfl, rfl⟩)
          all_goals first | (exfalso; omega) | (go_ret3; first | exact num_err (by rw [HN.out, if_pos ((numBad_neg _ _ _).2 (by omega))]) (by decide) | exact num_yes (by rw [HN.out, if_neg (fun hb => by have := (numBad_neg _ _ _).1 hb; omega)]) (by omega) (by omega))
        · clear hex
          go_wp2_with (go_at_call 26; refine (rdigit_any _ _).mono ?_; rintro e w1 ⟨rfl, rfl⟩)
          all_goals first | (exfalso; omega) | (go_ret3; first | exact num_err (by rw [HN.out, if_pos ((numBad_neg _ _ _).2 (by omega))]) (by decide) | exact num_yes (by rw [HN.out, if_neg (fun hb => by have := (numBad_neg _ _ _).1 hb; omega)]) (by omega) (by omega))
end Go.Proofs.YthogialdoikanaaDoor
