/- walks: long, four. -/
import Derived.Test.YthogialdoikanaaDoorW3
import Derived.Laws.BitsLemmas
namespace Go.Proofs.YthogialdoikanaaDoor
open Go.RowKit

theorem ret_ib {k : IntKind} {a a' : Int} {b b' : Bool} (h : a' = a) (j : b' = b) : Ending.returned (.tuple #[.int k a, .bool b]) = .returned (.tuple #[.int k a', .bool b']) := by rw [h, j]

def longV (c : Nat) : Int := ((longS c).getD 0 : Nat)
def longB (c : Nat) : Bool := (longS c).isSome

theorem long_cases (c : Nat) : (longS c = some c ∧ (c = 34 ∨ c = 92 ∨ c = 47)) ∨ (c = 98 ∧ longS c = some 8) ∨ (c = 102 ∧ longS c = some 12) ∨ (c = 110 ∧ longS c = some 10) ∨ (c = 114 ∧ longS c = some 13) ∨ (c = 116 ∧ longS c = some 9) ∨
    ((c ≠ 34 ∧ c ≠ 92 ∧ c ≠ 47 ∧ c ≠ 98 ∧ c ≠ 102 ∧ c ≠ 110 ∧ c ≠ 114 ∧ c ≠ 116) ∧ longS c = none) := by
  by_cases h1 : c = 34 ∨ c = 92 ∨ c = 47
  · exact .inl ⟨by unfold longS; rw [if_pos h1], h1⟩
  · by_cases h2 : c = 98
    · subst h2; exact .inr (.inl ⟨rfl, rfl⟩)
    · by_cases h3 : c = 102
      · subst h3; exact .inr (.inr (.inl ⟨rfl, rfl⟩))
      · by_cases h4 : c = 110
        · subst h4; exact .inr (.inr (.inr (.inl ⟨rfl, rfl⟩)))
        · by_cases h5 : c = 114
          · subst h5; exact .inr (.inr (.inr (.inr (.inl ⟨rfl, rfl⟩))))
          · by_cases h6 : c = 116
            · subst h6; exact .inr (.inr (.inr (.inr (.inr (.inl ⟨rfl, rfl⟩)))))
            · exact .inr (.inr (.inr (.inr (.inr (.inr ⟨by omega, by unfold longS; rw [if_neg h1, if_neg h2, if_neg h3, if_neg h4, if_neg h5, if_neg h6]⟩)))))

set_option maxHeartbeats 1000000 in
theorem long_any (c : Nat) (w : World) : Calls Tryd.prog 42 #[.int .u8 (c : Int)] w fun e w' => e = .returned (.tuple #[.int .u8 (longV c), .bool (longB c)]) ∧ w = w' := by
  rcases long_cases c with ⟨_, rfl | rfl | rfl⟩ | ⟨rfl, _⟩ | ⟨rfl, _⟩ | ⟨rfl, _⟩ | ⟨rfl, _⟩ | ⟨rfl, _⟩ | ⟨⟨h1, h2, h3, h4, h5, h6, h7, h8⟩, h⟩
  case inr.inr.inr.inr.inr.inr =>
    have HC := Lib.hid h
    have b1 : ((c : Int) == 34) = false := by rw [beq_eq_false_iff_ne]; omega
    have b2 : ((c : Int) == 92) = false := by rw [beq_eq_false_iff_ne]; omega
    have b3 : ((c : Int) == 47) = false := by rw [beq_eq_false_iff_ne]; omega
    have b4 : ((c : Int) == 98) = false := by rw [beq_eq_false_iff_ne]; omega
    have b5 : ((c : Int) == 102) = false := by rw [beq_eq_false_iff_ne]; omega
    have b6 : ((c : Int) == 110) = false := by rw [beq_eq_false_iff_ne]; omega
    have b7 : ((c : Int) == 114) = false := by rw [beq_eq_false_iff_ne]; omega
    have b8 : ((c : Int) == 116) = false := by rw [beq_eq_false_iff_ne]; omega
    clear h h1 h2 h3 h4 h5 h6 h7 h8
    go_enter Tryd.func42, Tryd.ntmps42
    go_wp2
    go_ret2
    exact ⟨ret_ib (by unfold longV; rw [HC.out]; rfl) (by unfold longB; rw [HC.out]; rfl), rfl⟩
  all_goals
    go_enter Tryd.func42, Tryd.ntmps42
    go_wp2
    go_ret2
    exact ⟨rfl, rfl⟩

def digs : List UInt8 := [48, 49, 50, 51, 52, 53, 54, 55, 56, 57, 97, 98, 99, 100, 101, 102]
def hexAt (b : UInt8) : Int := Lib.indexByte digs (bits .or .u8 (b.toNat : Int) 32).toNat.toUInt8
set_option maxRecDepth 100000 in
theorem hex_tab : ∀ x : Fin 256, (hexV x.val = none ∧ (Lib.indexByte digs (bits .or .u8 (x.val : Int) 32).toNat.toUInt8 < 0 ∨ x.val < 48 ∨ (57 < x.val ∧ x.val < 65))) ∨
    (hexV x.val = some (Lib.indexByte digs (bits .or .u8 (x.val : Int) 32).toNat.toUInt8).toNat ∧ 0 ≤ Lib.indexByte digs (bits .or .u8 (x.val : Int) 32).toNat.toUInt8 ∧ 48 ≤ x.val ∧ (x.val ≤ 57 ∨ 65 ≤ x.val)) := by decide +kernel
theorem hex_cases (b : UInt8) : (hexV b.toNat = none ∧ (hexAt b < 0 ∨ b.toNat < 48 ∨ (57 < b.toNat ∧ b.toNat < 65))) ∨ (hexV b.toNat = some (hexAt b).toNat ∧ 0 ≤ hexAt b ∧ 48 ≤ b.toNat ∧ (b.toNat ≤ 57 ∨ 65 ≤ b.toNat)) :=
  hex_tab ⟨b.toNat, b.toNat_lt⟩
theorem hexIdx (b : UInt8) (w : World) : Calls Tryd.prog 16 #[.string ⟨#[48, 49, 50, 51, 52, 53, 54, 55, 56, 57, 97, 98, 99, 100, 101, 102]⟩, .int .u8 (bits .or .u8 (b.toNat : Int) 32)] w fun e w' => e = .returned (.int .i64 (hexAt b)) ∧ w = w' :=
  (Tryd.strings_IndexByte _ _ _).mono fun _ _ ⟨h1, h2⟩ => ⟨h1, h2.symm⟩

theorem i32_or4 (x y : Int) (hx₀ : 0 ≤ x) (hx : x % 16 = 0) (hx₁ : x < 2147483648) (h₀ : 0 ≤ y) (h₁ : y < 16) : bits .or .i32 x y = x + y :=
  bits_join .i32 31 (by decide) wraps_i32 4 x y hx₀ hx hx₁ h₀ h₁ (by omega)

def fourV (l : List UInt8) : Int := ((fourS l).getD 0 : Nat)
def fourB (l : List UInt8) : Bool := (fourS l).isSome

set_option maxHeartbeats 400000 in
theorem four_any (s : ByteArray) (w : World) : Calls Tryd.prog 43 #[.string s] w fun e w' => e = .returned (.tuple #[.int .i32 (fourV s.data.toList), .bool (fourB s.data.toList)]) ∧ w = w' := by
  by_cases hsz : s.size < 4
  · have hs : fourS s.data.toList = none := fourF_short 4 0 _ (by rw [← Lib.size_eq]; exact hsz)
    have HS := Lib.hid hs
    clear hs
    go_enter Tryd.func43, Tryd.ntmps43
    go_wp2
    go_ret2
    exact ⟨ret_ib (by unfold fourV; rw [HS.out]; rfl) (by unfold fourB; rw [HS.out]; rfl), rfl⟩
  · have hsz' : 4 ≤ s.size := by omega
    clear hsz
    go_enter Tryd.func43, Tryd.ntmps43
    go_wp2
    go_loop [4, 10] (fun n i => ∃ k m : Nat, k ≤ 4 ∧ i = .int .i64 k ∧ n = .int .i32 m ∧ m < 16 ^ k ∧ fourF (4 - k) m (s.data.toList.drop k) = fourS s.data.toList) (fun _ i => 4 - (intOf i).toNat)
    case atStart => exact ⟨0, 0, by omega, rfl, rfl, by decide, rfl⟩
    case round =>
      obtain ⟨k, m, hk, rfl, rfl, hm, hf⟩ := hrel
      have HF := Lib.hid hf
      have HM := Lib.hid hm
      clear hf hm
      by_cases hlt : k < 4
      · have hp : k < s.size := by omega
        have hd := drop_at s k hp
        have HD := Lib.hid hd
        clear hd
        have hbt := s[k].toNat_lt
        obtain ⟨h1, h2⟩ | ⟨h1, h2, h3, h4⟩ := hex_cases s[k]
        · have H1 := Lib.hid h1
          clear h1
          have fin : fourS s.data.toList = none := by
            rw [← HF.out, HD.out, show 4 - k = (3 - k) + 1 from by omega, fourF, H1.out]
          have FIN := Lib.hid fin
          clear fin
          by_cases h5 : hexAt s[k] < 0
          · clear h2
            go_wp2_with fail
            refine (hexIdx _ _).mono ?_
            rintro e w' ⟨rfl, rfl⟩
            go_wp2
            go_ret2
            exact ⟨ret_ib (by unfold fourV; rw [FIN.out]; rfl) (by unfold fourB; rw [FIN.out]; rfl), rfl⟩
          · have h5' : 0 ≤ hexAt s[k] := by omega
            by_cases h6 : (s[k].toNat : Int) < 48
            · clear h2 h5
              go_wp2_with fail
              refine (hexIdx _ _).mono ?_
              rintro e w' ⟨rfl, rfl⟩
              go_wp2
              go_ret2
              exact ⟨ret_ib (by unfold fourV; rw [FIN.out]; rfl) (by unfold fourB; rw [FIN.out]; rfl), rfl⟩
            · have h7 : (57 : Int) < s[k].toNat := by omega
              have h8 : (s[k].toNat : Int) < 65 := by omega
              have h6' : (48 : Int) ≤ s[k].toNat := by omega
              clear h2 h5 h6
              go_wp2_with fail
              refine (hexIdx _ _).mono ?_
              rintro e w' ⟨rfl, rfl⟩
              go_wp2
              go_ret2
              exact ⟨ret_ib (by unfold fourV; rw [FIN.out]; rfl) (by unfold fourB; rw [FIN.out]; rfl), rfl⟩
        · have H1 := Lib.hid h1
          have hd16 := hexV_lt h1
          clear h1
          obtain ⟨d, hd⟩ : ∃ d : Nat, hexAt s[k] = d := ⟨(hexAt s[k]).toNat, by omega⟩
          have hd' : d < 16 := by rw [hd] at hd16; simpa using hd16
          have hm16 : m < 4096 := by
            have h1 := HM.out
            have h2 : (16 : Nat) ^ k ≤ 16 ^ 3 := Nat.pow_le_pow_right (by omega) (by omega)
            omega
          have nxt : fourF (4 - (k + 1)) (m * 16 + d) (s.data.toList.drop (k + 1)) = fourS s.data.toList := by
            rw [← HF.out, HD.out, show 4 - k = (4 - (k + 1)) + 1 from by omega, fourF, H1.out]
            simp only [hd, Int.toNat_natCast]
          have NXT := Lib.hid nxt
          have lim : m * 16 + d < 16 ^ (k + 1) := by
            have := HM.out
            rw [Nat.pow_succ]; omega
          have LIM := Lib.hid lim
          have h6' : (48 : Int) ≤ s[k].toNat := by omega
          have HX : ∀ w : World, Calls Tryd.prog 16 #[.string ⟨#[48, 49, 50, 51, 52, 53, 54, 55, 56, 57, 97, 98, 99, 100, 101, 102]⟩, .int .u8 (bits .or .u8 (s[k].toNat : Int) 32)] w fun e w' => e = .returned (.int .i64 d) ∧ w = w' := fun w => by
            rw [← hd]; exact hexIdx _ _
          have hx := Lib.hid HX
          have hor := i32_or4 ((m : Int) * 16) d (by omega) (by omega) (by omega) (by omega) (by omega)
          clear nxt lim h2 h3 hd hd16 HX
          by_cases h9 : (s[k].toNat : Int) ≤ 57
          · clear h4
            go_wp2_with fail
            refine (hx.out _).mono ?_
            rintro e w' ⟨rfl, rfl⟩
            go_wp2
            go_round
            case rel => exact ⟨k + 1, m * 16 + d, by omega, by go_num, by go_num, LIM.out, NXT.out⟩
            case measure => simp [intOf]; omega
          · have h10 : (65 : Int) ≤ s[k].toNat := by omega
            have h11 : (57 : Int) < s[k].toNat := by omega
            clear h4 h9
            go_wp2_with fail
            refine (hx.out _).mono ?_
            rintro e w' ⟨rfl, rfl⟩
            go_wp2
            · exfalso; omega
            go_round
            case rel => exact ⟨k + 1, m * 16 + d, by omega, by go_num, by go_num, LIM.out, NXT.out⟩
            case measure => simp [intOf]; omega
      · obtain rfl : k = 4 := by omega
        have fin : fourS s.data.toList = some m := by rw [← HF.out]; rfl
        have FIN := Lib.hid fin
        clear fin hlt hk
        go_wp2
        go_ret2
        exact ⟨ret_ib (by unfold fourV; rw [FIN.out]; rfl) (by unfold fourB; rw [FIN.out]; rfl), rfl⟩
end Go.Proofs.YthogialdoikanaaDoor
