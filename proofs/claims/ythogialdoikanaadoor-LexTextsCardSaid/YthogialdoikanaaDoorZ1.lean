/- walk: the answer's own Next. -/
import Derived.Test.YthogialdoikanaaDoorF1
import Derived.Test.YthogialdoikanaaDoorU1
namespace Go.Proofs.YthogialdoikanaaDoor
open Go.RowKit

/-- a character at a place, and the place behind; false: none begins there -/
def NextPost (x : Option (Nat × Nat)) (k : Nat) (e : Ending) : Prop :=
  match x with
  | none => ∃ a b : Int, e = .returned (.tuple #[.int .i64 a, .int .i64 b, .bool false])
  | some (v, n) => e = .returned (.tuple #[.int .i64 v, .int .i64 ((k + n : Nat) : Int), .bool true])
theorem next_no {x : Option (Nat × Nat)} {k : Nat} (h : x = none) (a b : Int) : NextPost x k (.returned (.tuple #[.int .i64 a, .int .i64 b, .bool false])) := by subst h; exact ⟨a, b, rfl⟩
theorem next_yes {x : Option (Nat × Nat)} {k v n : Nat} {b : Int} (h : x = some (v, n)) (hb : b = ((k + n : Nat) : Int)) : NextPost x k (.returned (.tuple #[.int .i64 v, .int .i64 b, .bool true])) := by subst h; subst hb; rfl

theorem next_yes' {x : Option (Nat × Nat)} {k v n : Nat} {a b : Int} (h : x = some (v, n)) (ha : a = (v : Int)) (hb : b = ((k + n : Nat) : Int)) : NextPost x k (.returned (.tuple #[.int .i64 a, .int .i64 b, .bool true])) := by subst h; subst hb; subst ha; rfl
theorem wrap64_byte (b : UInt8) : wrap64 (b.toNat : Int) = b.toNat := by
  have := b.toNat_lt
  unfold wrap64; omega
theorem contR_short : ∀ (k v : Nat) (t : List UInt8), t.length < k → contR k v t = none
  | 0, _, _, h => by omega
  | _ + 1, _, [], _ => rfl
  | k + 1, v, d :: r, h => by
    simp only [contR]
    split
    · rfl
    · exact contR_short k _ r (by simpa using h)
/-- how great a character's number grows -/
def VB (j v : Nat) : Prop := (j = 1 → v < 32) ∧ (j = 2 → v < 2048) ∧ (j = 3 → v < 131072) ∧ (4 ≤ j → v < 8388608)
theorem VB.le {j v : Nat} (h : VB j v) (h1 : 1 ≤ j) : v < 8388608 := by unfold VB at h; omega
theorem VB.next {j v d : Nat} (h : VB j v) (h1 : 1 ≤ j) (h4 : j ≤ 3) (hd : d < 192) : VB (j + 1) (v * 64 + d - 128) := by unfold VB at h ⊢; omega

set_option maxRecDepth 100000 in
theorem next_low (s : ByteArray) (k : Nat) (w : World) (hk : k < s.size) (hs : s.size ≤ 1000000000000000000) (h : (s[k]'hk).toNat < 128) :
    Calls Tryd.prog 60 #[.string s, .int .i64 k] w fun e w' => NextPost (nextR (s.data.toList.drop k)) k e ∧ w = w' := by
  have hn : nextR (s.data.toList.drop k) = some (s[k].toNat, 1) := by rw [drop_at s k hk]; simp only [nextR]; rw [if_pos h]
  have HN := Lib.hid hn
  clear hn
  go_enter Tryd.func60, Tryd.ntmps60
  go_wp2
  go_loop [9, 11] (fun v j => ∃ z : Int, v = .int .i64 z ∧ j = .int .i64 1 ∧ Hid (z = s[k].toNat) ∧ 0 ≤ z ∧ z < 128) (fun _ _ => 0)
  case atStart => exact ⟨_, rfl, rfl, Lib.hid rfl, by omega, by omega⟩
  case round =>
    obtain ⟨z, rfl, rfl, hz, hz0, hz1⟩ := hrel
    go_wp2
    all_goals first | (exfalso; omega) | (go_ret3; exact ⟨next_yes' HN.out hz.out (by omega), rfl⟩)
theorem int_eq {k : IntKind} {a b : Int} (h : a = b) : Value.int k a = Value.int k b := by rw [h]

set_option maxHeartbeats 1000000 in
set_option maxRecDepth 100000 in
theorem next_two (s : ByteArray) (k : Nat) (w : World) (hk : k < s.size) (hs : s.size ≤ 1000000000000000000) (h1 : 192 ≤ (s[k]'hk).toNat) (h2 : (s[k]'hk).toNat < 224) :
    Calls Tryd.prog 60 #[.string s, .int .i64 k] w fun e w' => NextPost (nextR (s.data.toList.drop k)) k e ∧ w = w' := by
  have hn : nextR (s.data.toList.drop k) = tailR 1 (s[k].toNat - 192) 128 (s.data.toList.drop (k + 1)) := by rw [drop_at s k hk]; simp only [nextR]; rw [if_neg (by omega), if_pos ⟨h1, h2⟩]
  by_cases hlen : k + 2 ≤ s.size
  · obtain ⟨v0, hv0⟩ : ∃ v, s[k].toNat - 192 = v := ⟨_, rfl⟩
    have hb : s[k].toNat = v0 + 192 := by omega
    rw [hv0] at hn
    have hvb : VB 1 v0 := by unfold VB; omega
    have HVB := Lib.hid hvb
    have HN := Lib.hid hn
    have HB := Lib.hid hb
    clear hn hv0 hvb hb
    go_enter Tryd.func60, Tryd.ntmps60
    go_wp2
    go_loop [9, 11] (fun t i => ∃ (v j : Nat) (z : Int), t = .int .i64 z ∧ i = .int .i64 j ∧ Hid (z = v) ∧ 0 ≤ z ∧ z < 8388608 ∧ 1 ≤ j ∧ j ≤ 2 ∧ VB j v ∧ contR 1 v0 (s.data.toList.drop (k + 1)) = contR (2 - j) v (s.data.toList.drop (k + j))) (fun _ i => 2 - (intOf i).toNat)
    case atStart => exact ⟨v0, 1, _, rfl, rfl, Lib.hid (by have := HB.out; omega), by have := HB.out; omega, by have := HB.out; omega, by omega, by omega, HVB.out, rfl⟩
    case round =>
      obtain ⟨v, j, z, rfl, rfl, HZ, hz0, hz1, hj1, hj2, hvb, hc⟩ := hrel
      have HVJ := Lib.hid hvb
      have HC := Lib.hid hc
      clear hvb hc
      by_cases hlt : j < 2
      · have hkj : k + j < s.size := by omega
        have hd := drop_at s (k + j) hkj
        have hw64 := wrap64_byte s[k + j]
        obtain ⟨m, hm⟩ : ∃ m, 2 - j = m + 1 := ⟨2 - j - 1, by omega⟩
        have hc := HC.out
        rw [hm, hd] at hc
        simp only [contR] at hc
        by_cases hbad : s[k + j].toNat < 128 ∨ 192 ≤ s[k + j].toNat
        · rw [if_pos hbad] at hc
          have hres : nextR (s.data.toList.drop k) = none := by rw [HN.out]; unfold tailR; rw [hc]
          have HRES := Lib.hid hres
          clear hc hres hd hm
          rcases hbad with hbad | hbad
          · go_wp2
            go_ret3
            exact ⟨next_no HRES.out _ _, rfl⟩
          · have hn128 : ¬ s[k + j].toNat < 128 := by omega
            go_wp2
            go_ret3
            exact ⟨next_no HRES.out _ _, rfl⟩
        · rw [if_neg hbad] at hc
          have hg1 : 128 ≤ s[k + j].toNat := by omega
          have hg2 : s[k + j].toNat < 192 := by omega
          have HC2 := Lib.hid hc
          have HVN := Lib.hid (HVJ.out.next hj1 (by omega) hg2)
          have HM := Lib.hid hm
          clear hc hbad hd hm
          go_wp2
          any_goals (exfalso; omega)
          go_round
          case rel => exact ⟨_, _, _, _, _, ⟨v * 64 + s[k + j].toNat - 128, j + 1, z * 64 + (s[k + j].toNat : Int) - 128, rfl, rfl, Lib.hid (by have := HZ.out; omega), by omega, by have := HZ.out; have := HVN.out.le (by omega); omega, by omega, by omega, HVN.out, by rw [HC2.out]; have := HM.out; congr 1; omega⟩, rfl, rfl, rfl, rfl, by go_num⟩
          case measure => simp [intOf]; omega
      · obtain rfl : j = 2 := by omega
        have hc := HC.out
        rw [Nat.sub_self] at hc
        simp only [contR] at hc
        have hres : nextR (s.data.toList.drop k) = if 128 ≤ v ∧ v ≤ 1114111 ∧ (v < 55296 ∨ 57343 < v) then some (v, 2) else none := by rw [HN.out]; unfold tailR; rw [hc]
        have HRES := Lib.hid hres
        clear hc hres hlt
        clear HVJ
        by_cases c1 : (128 : Int) ≤ z
        · by_cases c2 : z ≤ 1114111
          · by_cases c3 : z < 55296
            · have HR2 := Lib.hid (HRES.out.trans (if_pos (by have := HZ.out; omega)))
              go_wp2
              go_ret3
              exact ⟨next_yes' HR2.out HZ.out (by omega), rfl⟩
            · by_cases c4 : 57343 < z
              · have HR2 := Lib.hid (HRES.out.trans (if_pos (by have := HZ.out; omega)))
                go_wp2
                go_ret3
                exact ⟨next_yes' HR2.out HZ.out (by omega), rfl⟩
              · have HR2 := Lib.hid (HRES.out.trans (if_neg (by have := HZ.out; omega)))
                go_wp2
                go_ret3
                exact ⟨next_no HR2.out _ _, rfl⟩
          · have HR2 := Lib.hid (HRES.out.trans (if_neg (by have := HZ.out; omega)))
            go_wp2
            go_ret3
            exact ⟨next_no HR2.out _ _, rfl⟩
        · have HR2 := Lib.hid (HRES.out.trans (if_neg (by have := HZ.out; omega)))
          go_wp2
          go_ret3
          exact ⟨next_no HR2.out _ _, rfl⟩
  · have hres : nextR (s.data.toList.drop k) = none := by
      rw [hn]; unfold tailR
      rw [contR_short 1 _ _ (by rw [List.length_drop, ← Lib.size_eq]; omega)]
    have HRES := Lib.hid hres
    clear hn hres
    go_enter Tryd.func60, Tryd.ntmps60
    go_wp2
    go_ret3
    exact ⟨next_no HRES.out _ _, rfl⟩

set_option maxHeartbeats 1000000 in
set_option maxRecDepth 100000 in
theorem next_three (s : ByteArray) (k : Nat) (w : World) (hk : k < s.size) (hs : s.size ≤ 1000000000000000000) (h1 : 224 ≤ (s[k]'hk).toNat) (h2 : (s[k]'hk).toNat < 240) :
    Calls Tryd.prog 60 #[.string s, .int .i64 k] w fun e w' => NextPost (nextR (s.data.toList.drop k)) k e ∧ w = w' := by
  have hn : nextR (s.data.toList.drop k) = tailR 2 (s[k].toNat - 224) 2048 (s.data.toList.drop (k + 1)) := by rw [drop_at s k hk]; simp only [nextR]; rw [if_neg (by omega), if_neg (by omega), if_pos ⟨h1, h2⟩]
  by_cases hlen : k + 3 ≤ s.size
  · obtain ⟨v0, hv0⟩ : ∃ v, s[k].toNat - 224 = v := ⟨_, rfl⟩
    have hb : s[k].toNat = v0 + 224 := by omega
    rw [hv0] at hn
    have hvb : VB 1 v0 := by unfold VB; omega
    have HVB := Lib.hid hvb
    have HN := Lib.hid hn
    have HB := Lib.hid hb
    clear hn hv0 hvb hb
    go_enter Tryd.func60, Tryd.ntmps60
    go_wp2
    go_loop [9, 11] (fun t i => ∃ (v j : Nat) (z : Int), t = .int .i64 z ∧ i = .int .i64 j ∧ Hid (z = v) ∧ 0 ≤ z ∧ z < 8388608 ∧ 1 ≤ j ∧ j ≤ 3 ∧ VB j v ∧ contR 2 v0 (s.data.toList.drop (k + 1)) = contR (3 - j) v (s.data.toList.drop (k + j))) (fun _ i => 3 - (intOf i).toNat)
    case atStart => exact ⟨v0, 1, _, rfl, rfl, Lib.hid (by have := HB.out; omega), by have := HB.out; omega, by have := HB.out; omega, by omega, by omega, HVB.out, rfl⟩
    case round =>
      obtain ⟨v, j, z, rfl, rfl, HZ, hz0, hz1, hj1, hj2, hvb, hc⟩ := hrel
      have HVJ := Lib.hid hvb
      have HC := Lib.hid hc
      clear hvb hc
      by_cases hlt : j < 3
      · have hkj : k + j < s.size := by omega
        have hd := drop_at s (k + j) hkj
        have hw64 := wrap64_byte s[k + j]
        obtain ⟨m, hm⟩ : ∃ m, 3 - j = m + 1 := ⟨3 - j - 1, by omega⟩
        have hc := HC.out
        rw [hm, hd] at hc
        simp only [contR] at hc
        by_cases hbad : s[k + j].toNat < 128 ∨ 192 ≤ s[k + j].toNat
        · rw [if_pos hbad] at hc
          have hres : nextR (s.data.toList.drop k) = none := by rw [HN.out]; unfold tailR; rw [hc]
          have HRES := Lib.hid hres
          clear hc hres hd hm
          rcases hbad with hbad | hbad
          · go_wp2
            go_ret3
            exact ⟨next_no HRES.out _ _, rfl⟩
          · have hn128 : ¬ s[k + j].toNat < 128 := by omega
            go_wp2
            go_ret3
            exact ⟨next_no HRES.out _ _, rfl⟩
        · rw [if_neg hbad] at hc
          have hg1 : 128 ≤ s[k + j].toNat := by omega
          have hg2 : s[k + j].toNat < 192 := by omega
          have HC2 := Lib.hid hc
          have HVN := Lib.hid (HVJ.out.next hj1 (by omega) hg2)
          have HM := Lib.hid hm
          clear hc hbad hd hm
          go_wp2
          any_goals (exfalso; omega)
          go_round
          case rel => exact ⟨_, _, _, _, _, ⟨v * 64 + s[k + j].toNat - 128, j + 1, z * 64 + (s[k + j].toNat : Int) - 128, rfl, rfl, Lib.hid (by have := HZ.out; omega), by omega, by have := HZ.out; have := HVN.out.le (by omega); omega, by omega, by omega, HVN.out, by rw [HC2.out]; have := HM.out; congr 1; omega⟩, rfl, rfl, rfl, rfl, by go_num⟩
          case measure => simp [intOf]; omega
      · obtain rfl : j = 3 := by omega
        have hc := HC.out
        rw [Nat.sub_self] at hc
        simp only [contR] at hc
        have hres : nextR (s.data.toList.drop k) = if 2048 ≤ v ∧ v ≤ 1114111 ∧ (v < 55296 ∨ 57343 < v) then some (v, 3) else none := by rw [HN.out]; unfold tailR; rw [hc]
        have HRES := Lib.hid hres
        clear hc hres hlt
        clear HVJ
        by_cases c1 : (2048 : Int) ≤ z
        · by_cases c2 : z ≤ 1114111
          · by_cases c3 : z < 55296
            · have HR2 := Lib.hid (HRES.out.trans (if_pos (by have := HZ.out; omega)))
              go_wp2
              go_ret3
              exact ⟨next_yes' HR2.out HZ.out (by omega), rfl⟩
            · by_cases c4 : 57343 < z
              · have HR2 := Lib.hid (HRES.out.trans (if_pos (by have := HZ.out; omega)))
                go_wp2
                go_ret3
                exact ⟨next_yes' HR2.out HZ.out (by omega), rfl⟩
              · have HR2 := Lib.hid (HRES.out.trans (if_neg (by have := HZ.out; omega)))
                go_wp2
                go_ret3
                exact ⟨next_no HR2.out _ _, rfl⟩
          · have HR2 := Lib.hid (HRES.out.trans (if_neg (by have := HZ.out; omega)))
            go_wp2
            go_ret3
            exact ⟨next_no HR2.out _ _, rfl⟩
        · have HR2 := Lib.hid (HRES.out.trans (if_neg (by have := HZ.out; omega)))
          go_wp2
          go_ret3
          exact ⟨next_no HR2.out _ _, rfl⟩
  · have hres : nextR (s.data.toList.drop k) = none := by
      rw [hn]; unfold tailR
      rw [contR_short 2 _ _ (by rw [List.length_drop, ← Lib.size_eq]; omega)]
    have HRES := Lib.hid hres
    clear hn hres
    go_enter Tryd.func60, Tryd.ntmps60
    go_wp2
    go_ret3
    exact ⟨next_no HRES.out _ _, rfl⟩

set_option maxHeartbeats 1000000 in
set_option maxRecDepth 100000 in
theorem next_four (s : ByteArray) (k : Nat) (w : World) (hk : k < s.size) (hs : s.size ≤ 1000000000000000000) (h1 : 240 ≤ (s[k]'hk).toNat) (h2 : (s[k]'hk).toNat < 248) :
    Calls Tryd.prog 60 #[.string s, .int .i64 k] w fun e w' => NextPost (nextR (s.data.toList.drop k)) k e ∧ w = w' := by
  have hn : nextR (s.data.toList.drop k) = tailR 3 (s[k].toNat - 240) 65536 (s.data.toList.drop (k + 1)) := by rw [drop_at s k hk]; simp only [nextR]; rw [if_neg (by omega), if_neg (by omega), if_neg (by omega), if_pos ⟨h1, h2⟩]
  by_cases hlen : k + 4 ≤ s.size
  · obtain ⟨v0, hv0⟩ : ∃ v, s[k].toNat - 240 = v := ⟨_, rfl⟩
    have hb : s[k].toNat = v0 + 240 := by omega
    rw [hv0] at hn
    have hvb : VB 1 v0 := by unfold VB; omega
    have HVB := Lib.hid hvb
    have HN := Lib.hid hn
    have HB := Lib.hid hb
    clear hn hv0 hvb hb
    go_enter Tryd.func60, Tryd.ntmps60
    go_wp2
    go_loop [9, 11] (fun t i => ∃ (v j : Nat) (z : Int), t = .int .i64 z ∧ i = .int .i64 j ∧ Hid (z = v) ∧ 0 ≤ z ∧ z < 8388608 ∧ 1 ≤ j ∧ j ≤ 4 ∧ VB j v ∧ contR 3 v0 (s.data.toList.drop (k + 1)) = contR (4 - j) v (s.data.toList.drop (k + j))) (fun _ i => 4 - (intOf i).toNat)
    case atStart => exact ⟨v0, 1, _, rfl, rfl, Lib.hid (by have := HB.out; omega), by have := HB.out; omega, by have := HB.out; omega, by omega, by omega, HVB.out, rfl⟩
    case round =>
      obtain ⟨v, j, z, rfl, rfl, HZ, hz0, hz1, hj1, hj2, hvb, hc⟩ := hrel
      have HVJ := Lib.hid hvb
      have HC := Lib.hid hc
      clear hvb hc
      by_cases hlt : j < 4
      · have hkj : k + j < s.size := by omega
        have hd := drop_at s (k + j) hkj
        have hw64 := wrap64_byte s[k + j]
        obtain ⟨m, hm⟩ : ∃ m, 4 - j = m + 1 := ⟨4 - j - 1, by omega⟩
        have hc := HC.out
        rw [hm, hd] at hc
        simp only [contR] at hc
        by_cases hbad : s[k + j].toNat < 128 ∨ 192 ≤ s[k + j].toNat
        · rw [if_pos hbad] at hc
          have hres : nextR (s.data.toList.drop k) = none := by rw [HN.out]; unfold tailR; rw [hc]
          have HRES := Lib.hid hres
          clear hc hres hd hm
          rcases hbad with hbad | hbad
          · go_wp2
            go_ret3
            exact ⟨next_no HRES.out _ _, rfl⟩
          · have hn128 : ¬ s[k + j].toNat < 128 := by omega
            go_wp2
            go_ret3
            exact ⟨next_no HRES.out _ _, rfl⟩
        · rw [if_neg hbad] at hc
          have hg1 : 128 ≤ s[k + j].toNat := by omega
          have hg2 : s[k + j].toNat < 192 := by omega
          have HC2 := Lib.hid hc
          have HVN := Lib.hid (HVJ.out.next hj1 (by omega) hg2)
          have HM := Lib.hid hm
          clear hc hbad hd hm
          go_wp2
          any_goals (exfalso; omega)
          go_round
          case rel => exact ⟨_, _, _, _, _, ⟨v * 64 + s[k + j].toNat - 128, j + 1, z * 64 + (s[k + j].toNat : Int) - 128, rfl, rfl, Lib.hid (by have := HZ.out; omega), by omega, by have := HZ.out; have := HVN.out.le (by omega); omega, by omega, by omega, HVN.out, by rw [HC2.out]; have := HM.out; congr 1; omega⟩, rfl, rfl, rfl, rfl, by go_num⟩
          case measure => simp [intOf]; omega
      · obtain rfl : j = 4 := by omega
        have hc := HC.out
        rw [Nat.sub_self] at hc
        simp only [contR] at hc
        have hres : nextR (s.data.toList.drop k) = if 65536 ≤ v ∧ v ≤ 1114111 ∧ (v < 55296 ∨ 57343 < v) then some (v, 4) else none := by rw [HN.out]; unfold tailR; rw [hc]
        have HRES := Lib.hid hres
        clear hc hres hlt
        clear HVJ
        by_cases c1 : (65536 : Int) ≤ z
        · by_cases c2 : z ≤ 1114111
          · by_cases c3 : z < 55296
            · have HR2 := Lib.hid (HRES.out.trans (if_pos (by have := HZ.out; omega)))
              go_wp2
              go_ret3
              exact ⟨next_yes' HR2.out HZ.out (by omega), rfl⟩
            · by_cases c4 : 57343 < z
              · have HR2 := Lib.hid (HRES.out.trans (if_pos (by have := HZ.out; omega)))
                go_wp2
                go_ret3
                exact ⟨next_yes' HR2.out HZ.out (by omega), rfl⟩
              · have HR2 := Lib.hid (HRES.out.trans (if_neg (by have := HZ.out; omega)))
                go_wp2
                go_ret3
                exact ⟨next_no HR2.out _ _, rfl⟩
          · have HR2 := Lib.hid (HRES.out.trans (if_neg (by have := HZ.out; omega)))
            go_wp2
            go_ret3
            exact ⟨next_no HR2.out _ _, rfl⟩
        · have HR2 := Lib.hid (HRES.out.trans (if_neg (by have := HZ.out; omega)))
          go_wp2
          go_ret3
          exact ⟨next_no HR2.out _ _, rfl⟩
  · have hres : nextR (s.data.toList.drop k) = none := by
      rw [hn]; unfold tailR
      rw [contR_short 3 _ _ (by rw [List.length_drop, ← Lib.size_eq]; omega)]
    have HRES := Lib.hid hres
    clear hn hres
    go_enter Tryd.func60, Tryd.ntmps60
    go_wp2
    go_ret3
    exact ⟨next_no HRES.out _ _, rfl⟩

set_option maxRecDepth 100000 in
theorem next_wrong (s : ByteArray) (k : Nat) (w : World) (hk : k < s.size) (h1 : ¬ (s[k]'hk).toNat < 128) (h2 : ¬ (192 ≤ (s[k]'hk).toNat ∧ (s[k]'hk).toNat < 248)) :
    Calls Tryd.prog 60 #[.string s, .int .i64 k] w fun e w' => NextPost (nextR (s.data.toList.drop k)) k e ∧ w = w' := by
  have hn : nextR (s.data.toList.drop k) = none := by rw [drop_at s k hk]; simp only [nextR]; rw [if_neg h1, if_neg (by omega), if_neg (by omega), if_neg (by omega)]
  have HN := Lib.hid hn
  clear hn
  by_cases h3 : 192 ≤ (s[k]'hk).toNat
  · have h4 : 248 ≤ (s[k]'hk).toNat := by omega
    have h5 : (s[k]'hk).toNat < 256 := (s[k]'hk).toNat_lt
    clear h2
    go_enter Tryd.func60, Tryd.ntmps60
    go_wp2
    all_goals first | (exfalso; omega) | (go_ret3; exact ⟨next_no HN.out _ _, rfl⟩)
  · clear h2
    go_enter Tryd.func60, Tryd.ntmps60
    go_wp2
    all_goals first | (exfalso; omega) | (go_ret3; exact ⟨next_no HN.out _ _, rfl⟩)

theorem next_any (s : ByteArray) (k : Nat) (w : World) (hk : k < s.size) (hs : s.size ≤ 1000000000000000000) :
    Calls Tryd.prog 60 #[.string s, .int .i64 k] w fun e w' => NextPost (nextR (s.data.toList.drop k)) k e ∧ w = w' := by
  by_cases h1 : (s[k]'hk).toNat < 128
  · exact next_low s k w hk hs h1
  · by_cases h2 : 192 ≤ (s[k]'hk).toNat ∧ (s[k]'hk).toNat < 224
    · exact next_two s k w hk hs h2.1 h2.2
    · by_cases h3 : 224 ≤ (s[k]'hk).toNat ∧ (s[k]'hk).toNat < 240
      · exact next_three s k w hk hs h3.1 h3.2
      · by_cases h4 : 240 ≤ (s[k]'hk).toNat ∧ (s[k]'hk).toNat < 248
        · exact next_four s k w hk hs h4.1 h4.2
        · exact next_wrong s k w hk h1 (by omega)
end Go.Proofs.YthogialdoikanaaDoor
