/- walk: Quote. -/
import Derived.Test.YthogialdoikanaaDoorY1
import Derived.Test.YthogialdoikanaaDoorG3
import Derived.Test.YthogialdoikanaaDoorShelf
import Derived.Laws.BitsLemmas
namespace Go.Proofs.YthogialdoikanaaDoor
open Go.RowKit

theorem u8_small {c : Nat} (h : c < 256) : IntKind.u8.wrap (c : Int) = c := by rw [IntKind.wrap_u8]; omega
theorem shortS_lt (c : Nat) : shortS c < 128 := by
  unfold shortS
  repeat' split
  all_goals omega
set_option maxHeartbeats 1000000 in
theorem short_any (c : Nat) (w : World) : Calls Tryd.prog 66 #[.int .i32 (c : Int)] w fun e w' => e = .returned (.int .u8 (shortS c)) ∧ w = w' := by
  go_enter Tryd.func66, Tryd.ntmps66
  go_wp2
  all_goals
    go_ret
    refine ⟨ret_int ?_, rfl⟩
    simp only [beq_iff_eq, beq_eq_false_iff_ne] at *
    unfold shortS
    repeat' split
    all_goals omega
def digS : ByteArray := ⟨#[48, 49, 50, 51, 52, 53, 54, 55, 56, 57, 97, 98, 99, 100, 101, 102]⟩
theorem idx_tab (k : Nat) (hk : k < 16) (W : World) : (Instr.index 9 (.string ⟨#[48, 49, 50, 51, 52, 53, 54, 55, 56, 57, 97, 98, 99, 100, 101, 102]⟩) (.int .i32 (k : Int))).run Tryd.prog W = .ok (.int .u8 ((hexD k).toNat : Int)) W := by
  rcases (by omega : k = 0 ∨ k = 1 ∨ k = 2 ∨ k = 3 ∨ k = 4 ∨ k = 5 ∨ k = 6 ∨ k = 7 ∨ k = 8 ∨ k = 9 ∨ k = 10 ∨ k = 11 ∨ k = 12 ∨ k = 13 ∨ k = 14 ∨ k = 15) with rfl | rfl | rfl | rfl | rfl | rfl | rfl | rfl | rfl | rfl | rfl | rfl | rfl | rfl | rfl | rfl
  all_goals kernel_rfl

theorem valid_any (s : ByteArray) (w : World) (hT : Tabs w) (hs : s.size ≤ 140737488355328) : Calls Tryd.prog 64 #[.string s] w fun e w' => e = .returned (.bool (Lib.validD s.data.toList)) ∧ Below w.heap.size w w' := by
  have HV := Lib.hid (Tryd.utf8_ValidString s w (by omega) hT.u8)
  go_enter Tryd.func64, Tryd.ntmps64
  go_wp2_with fail
  refine HV.out.mono ?_
  rintro e w1 ⟨rfl, hb⟩
  go_wp2
  go_ret
  exact ⟨rfl, hb⟩

/-- one character more -/
theorem esc_step {s : ByteArray} {pos : Nat} (hp : pos < s.size) (hv : Lib.validD (s.data.toList.drop pos) = true) :
    ∃ r n : Nat, Utf8.decode s pos = (r, n) ∧ 1 ≤ n ∧ pos + n ≤ s.size ∧ r ≤ 1114111 ∧ Lib.validD (s.data.toList.drop (pos + n)) = true ∧
      ((shortS r ≠ 0 ∧ escS (s.data.toList.take (pos + n)) = escS (s.data.toList.take pos) ++ [92] ++ [(shortS r).toUInt8]) ∨
       (shortS r = 0 ∧ (r < 32 ∨ r = 127) ∧ escS (s.data.toList.take (pos + n)) = escS (s.data.toList.take pos) ++ [92, 117, 48, 48] ++ [hexD (r / 16)] ++ [hexD (r % 16)]) ∨
       (shortS r = 0 ∧ ¬ (r < 32 ∨ r = 127) ∧ escS (s.data.toList.take (pos + n)) = escS (s.data.toList.take pos) ++ Lib.encodeRune (r : Int))) := by
  have hd : decL (s.data.toList.drop pos) = Utf8.decode s pos := Lib.decodeL_drop s pos
  have hda := drop_at s pos hp
  have hlen : (s.data.toList.drop pos).length = s.size - pos := by rw [List.length_drop, ← Lib.size_eq]
  rw [hda] at hd hv hlen
  obtain ⟨r, n, hx, hv2⟩ := valid_true hv
  obtain ⟨h1, h2, h3, h4, h5, h6⟩ := nextR_some hx
  obtain ⟨h7, h8⟩ := decL_some hx
  rw [h7] at hd
  rw [hlen] at h2
  rw [← hda] at hv2 h4
  rw [List.drop_drop] at hv2
  have hr : r ≤ 1114111 := by
    have := Lib.decodeL_rune (s.data.toList.drop pos)
    have e : Lib.decodeL (s.data.toList.drop pos) = (r, n) := by rw [hda]; exact h7
    rw [e] at this; exact this
  refine ⟨r, n, hd.symm, h1, by omega, hr, hv2, ?_⟩
  have ht : s.data.toList.take (pos + n) = s.data.toList.take pos ++ (s.data.toList.drop pos).take n := List.take_add
  rw [ht, escS_append]
  by_cases hb : s[pos].toNat < 128
  · obtain ⟨e1, e2⟩ := h6 hb
    subst e2
    have e3 : (s.data.toList.drop pos).take 1 = [s[pos]] := by rw [hda]; rfl
    have e4 : escS [s[pos]] = escB s[pos] := by simp [escS]
    rw [e3, e4, e1]
    unfold escB
    by_cases hs : shortS s[pos].toNat = 0
    · rw [if_neg (by simp [hs])]
      by_cases hc : s[pos].toNat < 32 ∨ s[pos].toNat = 127
      · rw [if_pos hc]
        exact .inr (.inl ⟨hs, hc, by simp⟩)
      · rw [if_neg hc]
        exact .inr (.inr ⟨hs, hc, by rw [encode_small hb, byte_self]⟩)
    · rw [if_pos hs]
      exact .inl ⟨hs, by simp⟩
  · have hr128 := h5 (by omega)
    have hs : shortS r = 0 := by unfold shortS; rw [if_neg (by omega), if_neg (by omega), if_neg (by omega), if_neg (by omega), if_neg (by omega), if_neg (by omega)]
    refine .inr (.inr ⟨hs, by omega, ?_⟩)
    rw [escS_high _ (h4 (by omega))]
    have e : Lib.decodeL (s.data.toList.drop pos) = (r, n) := by rw [hda]; exact h7
    have := Lib.encode_decode (s.data.toList.drop pos) (by rw [hda]; simp) (by rw [e]; exact h8)
    rw [e] at this
    rw [this]
theorem escS_len (l : List UInt8) : (escS l).length ≤ 6 * l.length := by
  induction l with
  | nil => simp [escS]
  | cons b r ih =>
    have e : escS (b :: r) = escB b ++ escS r := rfl
    rw [e, List.length_append, List.length_cons]
    have : (escB b).length ≤ 6 := by
      unfold escB
      repeat' split
      all_goals simp
    omega

theorem i32_and15 {r : Nat} (h : r < 2147483648) : bits .and .i32 (r : Int) 15 = ((r % 16 : Nat) : Int) := by
  have := bits_mask .i32 31 (by decide) wraps_i32 4 (by decide) (r : Int) (by omega) (by omega)
  have e : ((r % 16 : Nat) : Int) = (r : Int) % 16 := by omega
  rw [e]
  exact this
theorem dig_at (k : Nat) (h : k < (⟨#[48, 49, 50, 51, 52, 53, 54, 55, 56, 57, 97, 98, 99, 100, 101, 102]⟩ : ByteArray).size) : (⟨#[48, 49, 50, 51, 52, 53, 54, 55, 56, 57, 97, 98, 99, 100, 101, 102]⟩ : ByteArray)[k] = hexD k := by
  have hk : k < 16 := h
  rcases (by omega : k = 0 ∨ k = 1 ∨ k = 2 ∨ k = 3 ∨ k = 4 ∨ k = 5 ∨ k = 6 ∨ k = 7 ∨ k = 8 ∨ k = 9 ∨ k = 10 ∨ k = 11 ∨ k = 12 ∨ k = 13 ∨ k = 14 ∨ k = 15) with rfl | rfl | rfl | rfl | rfl | rfl | rfl | rfl | rfl | rfl | rfl | rfl | rfl | rfl | rfl | rfl
  all_goals rfl
theorem s4z : (⟨#[92, 117, 48, 48]⟩ : ByteArray).size = 4 := rfl
theorem s4l : ((⟨#[92, 117, 48, 48]⟩ : ByteArray).data.toList).length = 4 := rfl
theorem quote_bad (s : ByteArray) (w : World) (hT : Tabs w) (hs : s.size ≤ 140737488355328) (hv : Lib.validD s.data.toList = false) : Calls Tryd.prog 47 #[.string s] w (TextPost (quoteS s.data.toList) w) := by
  have HV := Lib.hid (valid_any s w hT hs)
  have hq : quoteS s.data.toList = (11, []) := by unfold quoteS; rw [hv]; rfl
  have HQ := Lib.hid hq
  have HF := Lib.hid hv
  clear hq hv
  go_enter Tryd.func47, Tryd.ntmps47
  go_wp2_with fail
  refine HV.out.mono ?_
  rw [HF.out]
  rintro e w1 ⟨rfl, hb⟩
  go_wp2
  go_ret2
  rw [HQ.out]
  exact ⟨rfl, hb⟩

set_option maxHeartbeats 8000000 in
set_option maxRecDepth 100000 in
theorem quote_ok (s : ByteArray) (w : World) (hT : Tabs w) (hs : s.size ≤ 17592186044416) (hv : Lib.validD s.data.toList = true) : Calls Tryd.prog 47 #[.string s] w (TextPost (quoteS s.data.toList) w) := by
  have HV := Lib.hid (valid_any s w hT (by omega))
  have hq : quoteS s.data.toList = (0, 34 :: (escS s.data.toList ++ [34])) := by unfold quoteS; rw [if_pos hv]
  have HQ := Lib.hid hq
  have HT := Lib.hid hv
  have hlen := escS_len s.data.toList
  rw [← Lib.size_eq] at hlen
  clear hq hv
  go_enter Tryd.func47, Tryd.ntmps47
  go_wp2_with fail
  refine HV.out.mono ?_
  rw [HT.out]
  rintro e w1 ⟨rfl, hb1⟩
  have W34 : ∀ (l : List UInt8) (W : World), Bld w1.heap.size w1.heap.size l W → l.length ≤ 140000000000000 → w1.heap.size ≤ W.heap.size → Calls Tryd.prog 65 #[.pointer (some ⟨w1.heap.size, 0, none⟩), .int .u8 34] W fun e w' => e = .returned .nilIface ∧ BldPost w1.heap.size w1.heap.size (l ++ [34]) W w' :=
    fun l W h hl hz => writeByte_any _ _ l 34 W h (by omega) hz
  have W92 : ∀ (l : List UInt8) (W : World), Bld w1.heap.size w1.heap.size l W → l.length ≤ 140000000000000 → w1.heap.size ≤ W.heap.size → Calls Tryd.prog 65 #[.pointer (some ⟨w1.heap.size, 0, none⟩), .int .u8 92] W fun e w' => e = .returned .nilIface ∧ BldPost w1.heap.size w1.heap.size (l ++ [92]) W w' :=
    fun l W h hl hz => writeByte_any _ _ l 92 W h (by omega) hz
  have HW34 := Lib.hid W34
  have HW92 := Lib.hid W92
  have hz1 := hb1.size
  have hI0 : Bld w1.heap.size w1.heap.size [] (w1.alloc (.cells #[.pointer none, .slice none 0 0] 79)) := Lib.IsBuilderF.of (Lib.fresh_isBuilder 79 5 w1)
  have HI0 := Lib.hid hI0
  clear W34 W92 hI0
  go_wp2_with fail
  refine (HW34.out [] _ HI0.out (by simp) (by simp)).mono ?_
  rintro e w2 ⟨rfl, hI2, hb2', hk2⟩
  have hb2 : Below w1.heap.size w1 w2 := (below_alloc w1 _).trans hb2'
  have hz2 : w1.heap.size < w2.heap.size := by have := hb2'.size; simp at this; omega
  have hI3 : Bld w1.heap.size w1.heap.size [34] (w2.iter s 0) := Lib.IsBuilderF.alloc hI2 _
  have hb3 : Below w1.heap.size w1 (w2.iter s 0) := hb2.alloc hb2.size _
  have hk3 : (w2.iter s 0).heap[w2.heap.size]? = some (.stringIter s 0) := World.iter_heap w2 s 0
  have HI3 := Lib.hid hI3
  have HB3 := Lib.hid hb3
  have HK3 := Lib.hid hk3
  clear hI2 hI3 hb2' hk2 hk3 HI0
  go_wp2
  go_loopw [] (fun wr => ∃ pos : Nat, pos ≤ s.size ∧ Lib.validD (s.data.toList.drop pos) = true ∧ wr.heap[w2.heap.size]? = some (.stringIter s pos) ∧ Bld w1.heap.size w1.heap.size (34 :: escS (s.data.toList.take pos)) wr ∧ Below w1.heap.size w1 wr)
    (fun wr => s.size - wr.iterPos w2.heap.size)
  case atStart => exact ⟨0, Nat.zero_le _, by simpa using HT.out, HK3.out, HI3.out, HB3.out⟩
  case round =>
    obtain ⟨pos, hps, hvd, hk, hI, hbr⟩ := hrel
    by_cases hp : pos < s.size
    · obtain ⟨r, n, hdec, hn1, hpn, hr, hvd2, hway⟩ := esc_step hp hvd
      have hnx := fun ty => Lib.run_next_any_at (P := Tryd.prog) wr w2.heap.size s pos ty hk hp
      rw [hdec] at hnx
      simp only at hnx
      have hI1 := Lib.IsBuilderF.iterAt hI hk (pos + n)
      have hk1 := Lib.iterAt_heap wr w2.heap.size s pos (pos + n) hk
      have hbr1 : Below w1.heap.size w1 (wr.iterAt w2.heap.size s (pos + n)) := Lib.below_iterAt hbr (by omega) s (pos + n)
      have hmu : wr.iterPos w2.heap.size = pos := by simp [World.iterPos, hk]
      have hel := escS_len (s.data.toList.take pos)
      have hel2 : (s.data.toList.take pos).length ≤ pos := List.length_take_le _ _
      have hel3 : (escS (s.data.toList.take pos)).length ≤ 6 * pos := by omega
      clear hel hel2
      generalize wr.iterAt w2.heap.size s (pos + n) = w3 at hnx hI1 hk1 hbr1
      have HI1 := Lib.hid hI1
      have HK1 := Lib.hid hk1
      have HVD2 := Lib.hid hvd2
      have HMU := Lib.hid hmu
      generalize escS (s.data.toList.take pos) = E at *
      have hz3 := hbr1.size
      clear hI hk hdec hvd hI1 hk1 hvd2 hmu HI3 HK3 HB3
      rcases hway with ⟨hs0, he⟩ | ⟨hs0, hc, he⟩ | ⟨hs0, hc, he⟩
      · have HE := Lib.hid he
        have hsl := shortS_lt r
        have HSH := Lib.hid (short_any r)
        have n0 : ((shortS r : Int) == 0) = false := by rw [beq_eq_false_iff_ne]; omega
        have m0 : ((shortS r : Int) != 0) = true := by rw [bne, n0]; rfl
        have hwb := fun (l : List UInt8) (W : World) => writeByte_any w1.heap.size w1.heap.size l (shortS r).toUInt8 W
        rw [byte_toNat (by omega)] at hwb
        have HWB := Lib.hid hwb
        generalize shortS r = c at *
        clear he hs0 hwb
        · go_wp2_with fail
          refine (HSH.out _).mono ?_
          rintro e w4 ⟨rfl, rfl⟩
          go_wp2_with fail
          refine (HW92.out _ _ HI1.out (by simp only [List.length_cons]; omega) hz3).mono ?_
          rintro e w4 ⟨rfl, hI4, hb4, hk4⟩
          have hz4 : w1.heap.size ≤ w4.heap.size := Nat.le_trans hz3 hb4.size
          have hI4 := Lib.hid hI4
          have hK4 := Lib.hid (hk4.iter HK1.out (by omega))
          have hB4 := hbr1.trans hb4
          clear hk4 hb4
          go_wp2_with fail
          refine (HWB.out _ _ hI4.out (by simp only [List.length_cons, List.length_append, List.length_nil]; omega) hz4).mono ?_
          rintro e w5 ⟨rfl, hI5, hb5, hk5⟩
          have hI5 := Lib.hid hI5
          have hK5 := hk5.iter hK4.out (by omega)
          have hB5 := hB4.trans hb5
          clear hk5 hb5
          go_wp2
          go_roundw
          case rel => exact ⟨pos + n, hpn, HVD2.out, hK5, (by have h := hI5.out; rw [HE.out]; simpa using h), hB5⟩
          case measure =>
            have hmu2 : w5.iterPos w2.heap.size = pos + n := by simp [World.iterPos, hK5]
            rw [HMU.out, hmu2]
            omega
      · have HE := Lib.hid he
        have HSH : ∀ W, Calls Tryd.prog 66 #[.int .i32 (r : Int)] W fun e w' => e = .returned (.int .u8 0) ∧ W = w' := fun W => by
          have h := short_any r W
          rw [hs0] at h
          exact h
        have HSH := Lib.hid HSH
        have hand : bits .and .i32 (r : Int) 15 = ((r % 16 : Nat) : Int) := i32_and15 (by omega)
        clear he hs0
        by_cases h32 : r < 32
        · clear hc
          go_wp2_with fail
          refine (HSH.out _).mono ?_
          rintro e w4 ⟨rfl, rfl⟩
          go_wp2_with fail
          refine (writeString_any _ _ _ _ _ HI1.out (by rw [s4z]; simp only [List.length_cons]; omega) hz3).mono ?_
          rintro e w4 ⟨⟨v4, rfl⟩, hI4, hb4, hk4⟩
          have hz4 : w1.heap.size ≤ w4.heap.size := Nat.le_trans hz3 hb4.size
          have hI4 := Lib.hid hI4
          have hK4 := Lib.hid (hk4.iter HK1.out (by omega))
          have hB4 := hbr1.trans hb4
          clear hk4 hb4
          go_wp2_with fail
          refine (writeByte_any _ _ _ _ _ hI4.out (by simp only [List.length_cons, List.length_append, List.length_nil]; omega) hz4).mono ?_
          rintro e w5 ⟨rfl, hI5, hb5, hk5⟩
          have hz5 : w1.heap.size ≤ w5.heap.size := Nat.le_trans hz4 hb5.size
          have hI5 := Lib.hid hI5
          have hK5 := Lib.hid (hk5.iter hK4.out (by omega))
          have hB5 := hB4.trans hb5
          clear hk5 hb5
          go_wp2_with fail
          refine (writeByte_any _ _ _ _ _ hI5.out (by simp only [List.length_cons, List.length_append, List.length_nil]; omega) hz5).mono ?_
          rintro e w6 ⟨rfl, hI6, hb6, hk6⟩
          have hI6 := Lib.hid hI6
          have hK6 := hk6.iter hK5.out (by omega)
          have hB6 := hB5.trans hb6
          clear hk6 hb6
          go_wp2
          go_roundw
          case rel => exact ⟨pos + n, hpn, HVD2.out, hK6, (by have h := hI6.out; rw [HE.out]; simpa [dig_at] using h), hB6⟩
          case measure =>
            have hmu2 : w6.iterPos w2.heap.size = pos + n := by simp [World.iterPos, hK6]
            rw [HMU.out, hmu2]
            omega
        · have h127 : ((r : Int) == 127) = true := by rw [beq_iff_eq]; omega
          have h32' : decide (r < 32) = false := by rw [decide_eq_false_iff_not]; exact h32
          have hr128 : r < 128 := by omega
          clear hc
          go_wp2_with fail
          refine (HSH.out _).mono ?_
          rintro e w4 ⟨rfl, rfl⟩
          go_wp2_with fail
          refine (writeString_any _ _ _ _ _ HI1.out (by rw [s4z]; simp only [List.length_cons]; omega) hz3).mono ?_
          rintro e w4 ⟨⟨v4, rfl⟩, hI4, hb4, hk4⟩
          have hz4 : w1.heap.size ≤ w4.heap.size := Nat.le_trans hz3 hb4.size
          have hI4 := Lib.hid hI4
          have hK4 := Lib.hid (hk4.iter HK1.out (by omega))
          have hB4 := hbr1.trans hb4
          clear hk4 hb4
          go_wp2_with fail
          refine (writeByte_any _ _ _ _ _ hI4.out (by simp only [List.length_cons, List.length_append, List.length_nil]; omega) hz4).mono ?_
          rintro e w5 ⟨rfl, hI5, hb5, hk5⟩
          have hz5 : w1.heap.size ≤ w5.heap.size := Nat.le_trans hz4 hb5.size
          have hI5 := Lib.hid hI5
          have hK5 := Lib.hid (hk5.iter hK4.out (by omega))
          have hB5 := hB4.trans hb5
          clear hk5 hb5
          go_wp2_with fail
          refine (writeByte_any _ _ _ _ _ hI5.out (by simp only [List.length_cons, List.length_append, List.length_nil]; omega) hz5).mono ?_
          rintro e w6 ⟨rfl, hI6, hb6, hk6⟩
          have hI6 := Lib.hid hI6
          have hK6 := hk6.iter hK5.out (by omega)
          have hB6 := hB5.trans hb6
          clear hk6 hb6
          go_wp2
          go_roundw
          case rel => exact ⟨pos + n, hpn, HVD2.out, hK6, (by have h := hI6.out; rw [HE.out]; simpa [dig_at] using h), hB6⟩
          case measure =>
            have hmu2 : w6.iterPos w2.heap.size = pos + n := by simp [World.iterPos, hK6]
            rw [HMU.out, hmu2]
            omega
      · have HE := Lib.hid he
        have HSH : ∀ W, Calls Tryd.prog 66 #[.int .i32 (r : Int)] W fun e w' => e = .returned (.int .u8 0) ∧ W = w' := fun W => by
          have h := short_any r W
          rw [hs0] at h
          exact h
        have HSH := Lib.hid HSH
        have h127 : ((r : Int) == 127) = false := by rw [beq_eq_false_iff_ne]; omega
        have h32 : ¬ r < 32 := fun h => hc (.inl h)
        have h32' : decide (r < 32) = false := by rw [decide_eq_false_iff_not]; exact h32
        clear he hs0 hc
        · go_wp2_with fail
          refine (HSH.out _).mono ?_
          rintro e w4 ⟨rfl, rfl⟩
          go_wp2_with fail
          refine (writeRune_any _ _ _ _ (by omega) (by omega) _ HI1.out (by simp only [List.length_cons]; omega) hz3).mono ?_
          rintro e w4 ⟨⟨v4, rfl⟩, hI4, hb4, hk4⟩
          have hI4 := Lib.hid hI4
          have hK4 := hk4.iter HK1.out (by omega)
          have hB4 := hbr1.trans hb4
          clear hk4 hb4
          go_wp2
          go_roundw
          case rel => exact ⟨pos + n, hpn, HVD2.out, hK4, (by have h := hI4.out; rw [HE.out]; simpa using h), hB4⟩
          case measure =>
            have hmu2 : w4.iterPos w2.heap.size = pos + n := by simp [World.iterPos, hK4]
            rw [HMU.out, hmu2]
            omega
    · obtain rfl : pos = s.size := by omega
      have hnx := fun ty => Lib.run_next_end_at (P := Tryd.prog) wr w2.heap.size s s.size ty hk hp
      have hall : s.data.toList.take s.size = s.data.toList := List.take_of_length_le (by rw [← Lib.size_eq]; exact Nat.le_refl _)
      rw [hall] at hI
      have HI := Lib.hid hI
      have hz3 := hbr.size
      clear hall hI hk hvd hp HI3 HK3 HB3
      go_wp2_with fail
      refine (HW34.out _ _ HI.out (by simp only [List.length_cons]; omega) hz3).mono ?_
      rintro e w4 ⟨rfl, hI4, hb4, hk4⟩
      have hb14 := hbr.trans hb4
      have HST := Lib.hid (Tryd.Builder_String_any_k _ _ _ w4 hI4 (Nat.le_trans hz3 hb4.size))
      clear hI4 hk4 hb4
      go_wp2_with fail
      refine HST.out.mono ?_
      rintro e w5 ⟨rfl, hI5, hb5, hk5⟩
      have hbf := hb1.trans ((hb14.trans hb5).mono hb1.size)
      clear hI5 hk5
      go_wp2
      go_ret2
      rw [HQ.out]
      exact ⟨rfl, hbf⟩
end Go.Proofs.YthogialdoikanaaDoor
