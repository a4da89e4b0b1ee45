/- walks: the answer's own four and One. -/
import Derived.Test.YthogialdoikanaaDoorZ3
namespace Go.Proofs.YthogialdoikanaaDoor
open Go.RowKit

/-- the number of four digits; -1: they are none -/
def fourR (l : List UInt8) : Int := match fourS l with
  | none => -1
  | some n => n
theorem fourR_none {l : List UInt8} (h : fourS l = none) : fourR l = -1 := by unfold fourR; rw [h]
theorem fourR_some {l : List UInt8} {n : Nat} (h : fourS l = some n) : fourR l = n := by unfold fourR; rw [h]
def FB (j m : Nat) : Prop := (j = 0 → m = 0) ∧ (j = 1 → m < 16) ∧ (j = 2 → m < 256) ∧ (j = 3 → m < 4096) ∧ (4 ≤ j → m < 65536)
theorem FB.le {j m : Nat} (h : FB j m) : m < 65536 := by unfold FB at h; omega
theorem FB.next {j m d : Nat} (h : FB j m) (h4 : j ≤ 3) (hd : d < 16) : FB (j + 1) (m * 16 + d) := by unfold FB at h ⊢; omega

set_option maxHeartbeats 4000000 in
set_option maxRecDepth 100000 in
theorem rfour_any (s : ByteArray) (k : Nat) (w : World) (hk : k ≤ s.size) (hs : s.size ≤ 1000000000000000000) : Calls Tryd.prog 61 #[.string s, .int .i64 k] w fun e w' => e = .returned (.int .i64 (fourR (s.data.toList.drop k))) ∧ w = w' := by
  by_cases hlen : k + 4 ≤ s.size
  · go_enter Tryd.func61, Tryd.ntmps61
    go_wp2
    go_loop [5, 6] (fun t i => ∃ m j : Nat, t = .int .i64 m ∧ i = .int .i64 (k + j : Nat) ∧ j ≤ 4 ∧ FB j m ∧ fourS (s.data.toList.drop k) = fourF (4 - j) m (s.data.toList.drop (k + j))) (fun _ i => (k + 4) - (intOf i).toNat)
    case atStart => exact ⟨0, 0, rfl, by simp, by omega, by unfold FB; omega, rfl⟩
    case round =>
      obtain ⟨m, j, rfl, rfl, hj, hfb, hf⟩ := hrel
      have hm := hfb.le
      have HFB := Lib.hid hfb
      have HF := Lib.hid hf
      clear hfb hf
      by_cases hlt : j < 4
      · have hkj : k + j < s.size := by omega
        have hd := drop_at s (k + j) hkj
        obtain ⟨q, hq⟩ : ∃ q, 4 - j = q + 1 := ⟨4 - j - 1, by omega⟩
        have hf := HF.out
        rw [hq, hd] at hf
        simp only [fourF] at hf
        have HQ := Lib.hid hq
        have hw64 := wrap64_byte s[k + j]
        clear hq hd
        by_cases c48 : 48 ≤ s[k + j].toNat ∧ s[k + j].toNat ≤ 57
        · have hx : hexV s[k + j].toNat = some (s[k + j].toNat - 48) := by unfold hexV; rw [if_pos c48]
          rw [hx] at hf
          simp only at hf
          obtain ⟨g1, g2⟩ := c48
          have HF2 := Lib.hid hf
          have HFN := Lib.hid (HFB.out.next (d := s[k + j].toNat - 48) (by omega) (by omega))
          clear hf hx
          go_wp2
          try any_goals (exfalso; omega)
          go_round
          case rel => first | exact ⟨m * 16 + (s[k + j].toNat - 48), j + 1, int_eq (by omega), int_eq (by omega), by omega, HFN.out, by rw [HF2.out]; have := HQ.out; congr 1; omega⟩ | exact ⟨_, _, _, ⟨m * 16 + (s[k + j].toNat - 48), j + 1, rfl, rfl, by omega, HFN.out, by rw [HF2.out]; have := HQ.out; congr 1; omega⟩, rfl, int_eq (by omega), int_eq (by omega)⟩
          case measure => simp [intOf]; omega
        · by_cases c97 : 97 ≤ s[k + j].toNat ∧ s[k + j].toNat ≤ 102
          · have hx : hexV s[k + j].toNat = some (s[k + j].toNat - 87) := by unfold hexV; rw [if_neg (by omega), if_neg (by omega), if_pos c97]
            rw [hx] at hf
            simp only at hf
            obtain ⟨g1, g2⟩ := c97
            have HF2 := Lib.hid hf
            have HFN := Lib.hid (HFB.out.next (d := s[k + j].toNat - 87) (by omega) (by omega))
            clear hf hx
            go_wp2
            try any_goals (exfalso; omega)
            go_round
            case rel => first | exact ⟨m * 16 + (s[k + j].toNat - 87), j + 1, int_eq (by omega), int_eq (by omega), by omega, HFN.out, by rw [HF2.out]; have := HQ.out; congr 1; omega⟩ | exact ⟨_, _, _, ⟨m * 16 + (s[k + j].toNat - 87), j + 1, rfl, rfl, by omega, HFN.out, by rw [HF2.out]; have := HQ.out; congr 1; omega⟩, rfl, int_eq (by omega), int_eq (by omega)⟩
            case measure => simp [intOf]; omega
          · by_cases c65 : 65 ≤ s[k + j].toNat ∧ s[k + j].toNat ≤ 70
            · have hx : hexV s[k + j].toNat = some (s[k + j].toNat - 55) := by unfold hexV; rw [if_neg (by omega), if_pos c65]
              rw [hx] at hf
              simp only at hf
              obtain ⟨g1, g2⟩ := c65
              have HF2 := Lib.hid hf
              have HFN := Lib.hid (HFB.out.next (d := s[k + j].toNat - 55) (by omega) (by omega))
              clear hf hx
              go_wp2
              try any_goals (exfalso; omega)
              go_round
              case rel => first | exact ⟨m * 16 + (s[k + j].toNat - 55), j + 1, int_eq (by omega), int_eq (by omega), by omega, HFN.out, by rw [HF2.out]; have := HQ.out; congr 1; omega⟩ | exact ⟨_, _, _, ⟨m * 16 + (s[k + j].toNat - 55), j + 1, rfl, rfl, by omega, HFN.out, by rw [HF2.out]; have := HQ.out; congr 1; omega⟩, rfl, int_eq (by omega), int_eq (by omega)⟩
              case measure => simp [intOf]; omega
            · have hx : hexV s[k + j].toNat = none := by unfold hexV; rw [if_neg c48, if_neg c65, if_neg c97]
              rw [hx] at hf
              have hres := fourR_none hf
              have HRES := Lib.hid hres
              have b256 := (s[k + j]).toNat_lt
              clear hf hx hres
              go_wp2
              all_goals first | (exfalso; omega) | (go_ret; exact ⟨ret_int HRES.out.symm, rfl⟩)
      · obtain rfl : j = 4 := by omega
        have hf := HF.out
        have hres : fourR (s.data.toList.drop k) = (m : Int) := fourR_some (by rw [hf]; rfl)
        have HRES := Lib.hid hres
        clear hf hres hlt
        go_wp2
        go_ret
        exact ⟨ret_int HRES.out.symm, rfl⟩
  · have hres : fourR (s.data.toList.drop k) = -1 := fourR_none (fourF_short 4 0 _ (by rw [List.length_drop, ← Lib.size_eq]; omega))
    have HRES := Lib.hid hres
    clear hres
    go_enter Tryd.func61, Tryd.ntmps61
    go_wp2
    go_ret
    exact ⟨ret_int HRES.out.symm, rfl⟩

set_option maxHeartbeats 2000000 in
set_option maxRecDepth 100000 in
theorem one_bad (v : Int) (w : World) (h : v < 0 ∨ 1114111 < v ∨ (55296 ≤ v ∧ v ≤ 57343)) : Calls Tryd.prog 62 #[.int .i64 v] w fun e w' => e = .returned (.tuple #[.slice none 0 0, .bool false]) ∧ w = w' := by
  rcases h with h | h | ⟨h1, h2⟩
  · go_enter Tryd.func62, Tryd.ntmps62
    go_wp2
    try any_goals (exfalso; omega)
    go_ret2
    exact ⟨rfl, rfl⟩
  · have h0 : ¬ v < 0 := by omega
    go_enter Tryd.func62, Tryd.ntmps62
    go_wp2
    try any_goals (exfalso; omega)
    go_ret2
    exact ⟨rfl, rfl⟩
  · have h0 : ¬ v < 0 := by omega
    have h3 : v ≤ 1114111 := by omega
    go_enter Tryd.func62, Tryd.ntmps62
    go_wp2
    try any_goals (exfalso; omega)
    go_ret2
    exact ⟨rfl, rfl⟩
theorem own_rune (w : World) (v : Int) (Z : List Int) (n : Nat) (C : Array Value) (h : Lib.encodeRuneZ v = Z) (hC : C = (Z.map (fun x => Value.int .u8 x)).toArray) (hn : Z.length = n) (h4 : n ≤ 4) :
    OwnBytes (w.alloc (.cells C 5)) w.heap.size (.slice (some ⟨w.heap.size, 0, none⟩) n n) (Lib.encodeRune v) := by
  have hl : (Lib.encodeRune v).length = n := by unfold Lib.encodeRune; rw [List.length_map, h]; exact hn
  have hc : C = (Lib.byteCells (Lib.encodeRune v)).toArray := by rw [Lib.byteCells_encodeRune]; unfold Lib.runeCells; rw [h]; exact hC
  have := own_fresh w (Lib.encodeRune v) (by omega)
  rw [hl, ← hc] at this
  exact this
def OnePost (v : Int) (w : World) (e : Ending) (w' : World) : Prop := ∃ x, e = .returned (.tuple #[x, .bool true]) ∧ OwnBytes w' w.heap.size x (Lib.encodeRune v) ∧ Below w.heap.size w w'

set_option maxHeartbeats 4000000 in
set_option maxRecDepth 100000 in
theorem one_ok (v : Int) (w : World) (h0 : 0 ≤ v) (h1 : v ≤ 1114111) (h2 : v < 55296 ∨ 57343 < v) : Calls Tryd.prog 62 #[.int .i64 v] w (OnePost v w) := by
  by_cases c1 : v < 128
  · have H2 := Lib.hid h2
    clear h2
    have c2 : v < 55296 := by omega
    go_enter Tryd.func62, Tryd.ntmps62
    go_wp2
    try any_goals (exfalso; omega)
    go_ret2
    exact ⟨_, rfl, own_rune w v _ 1 _ (Lib.encodeRuneZ_one (by omega) (by omega)) rfl rfl (by omega), below_alloc w _⟩
  · by_cases c2 : v < 2048
    · clear h2
      have c3 : v < 55296 := by omega
      go_enter Tryd.func62, Tryd.ntmps62
      go_wp2
      try any_goals (exfalso; omega)
      go_ret2
      exact ⟨_, rfl, own_rune w v _ 2 _ (Lib.encodeRuneZ_two (by omega) (by omega)) rfl rfl (by omega), below_alloc w _⟩
    · by_cases c3 : v < 65536
      · rcases h2 with h2 | h2
        · go_enter Tryd.func62, Tryd.ntmps62
          go_wp2
          try any_goals (exfalso; omega)
          go_ret2
          exact ⟨_, rfl, own_rune w v _ 3 _ (Lib.encodeRuneZ_three (.inl ⟨by omega, h2⟩)) rfl rfl (by omega), below_alloc w _⟩
        · have h3 : ¬ v < 55296 := by omega
          go_enter Tryd.func62, Tryd.ntmps62
          go_wp2
          try any_goals (exfalso; omega)
          go_ret2
          exact ⟨_, rfl, own_rune w v _ 3 _ (Lib.encodeRuneZ_three (.inr ⟨h2, by omega⟩)) rfl rfl (by omega), below_alloc w _⟩
      · have h3 : ¬ v < 55296 := by omega
        have h4 : 57343 < v := by omega
        clear h2
        go_enter Tryd.func62, Tryd.ntmps62
        go_wp2
        try any_goals (exfalso; omega)
        go_ret2
        exact ⟨_, rfl, own_rune w v _ 4 _ (Lib.encodeRuneZ_four (by omega) (by omega)) rfl rfl (by omega), below_alloc w _⟩
end Go.Proofs.YthogialdoikanaaDoor
