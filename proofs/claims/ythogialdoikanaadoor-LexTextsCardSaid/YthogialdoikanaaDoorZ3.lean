/- walk: the answer's own Quote. -/
import Derived.Test.YthogialdoikanaaDoorZ2
import Derived.Test.YthogialdoikanaaDoorY2
import Derived.Deep.RegionLaw
namespace Go.Proofs.YthogialdoikanaaDoor
open Go.RowKit

/-- a row of bytes of the call's own -/
def OwnBytes (w : World) (B : Nat) (v : Value) (l : List UInt8) : Prop := w.ownsRow B 5 1 v l.length (Lib.byteCells l)
theorem byteCells_one' (l : List UInt8) : ∀ u ∈ Lib.byteCells l, u.oneCell' = true := by
  intro u hu
  simp only [Lib.byteCells, List.mem_map] at hu
  obtain ⟨b, _, rfl⟩ := hu
  rfl
set_option maxRecDepth 100000 in
theorem wpList_append_bytes {ops : Array Oper} {rest : List Oper} {o : Oper} {a : Act} {Q : Exit → Act → World → Prop} (w00 w0 : World) (C : Array Value) (T : TypeId) (hgd : o.guard = none) (s x : Operand)
    (ho : o.op = .call { callee := .builtin .append, args := #[s, x], argTypes := #[39, 39] })
    (v : Value) (acc bs : List UInt8) (hs : a.eval s = v) (hown : OwnBytes w0 w00.heap.size v acc) (hb : Below w00.heap.size w00 w0)
    (hx : a.eval x = .slice (some ⟨w0.heap.size, 0, none⟩) bs.length bs.length) (hC : C = (Lib.byteCells bs).toArray) (hl : acc.length + bs.length ≤ 140737488355328)
    (h : ∀ v' w', OwnBytes w' w00.heap.size v' (acc ++ bs) → Below w00.heap.size w00 w' → wpList Tryd.prog ops Q rest (a.put o.dst v') w') : wpList Tryd.prog ops Q (o :: rest) a (w0.alloc (.cells C T)) := by
  obtain ⟨ti, hti, htz, hts, hty⟩ := info_parts byte_info
  subst hC
  refine wpList_append_own _ hgd s x 39 ho w00.heap.size 5 ti _ 1 1 Tryd.underlying39 hti htz hts hty rfl (by omega) v acc.length (Lib.byteCells acc) hs (World.ownsRow.alloc hown _) ⟨_, 0, none⟩ bs.length bs.length (Lib.byteCells bs) hx (by rw [Lib.byteCells_length]; omega) (news_new _ _ _) (byteCells_one' bs) (by simp only [maxLen]; omega) (by omega) (by have := hb.size; simp; omega) ?_
  intro v2 w2 hown2 hg2 _
  refine h v2 w2 ?_ (below_own (hb.alloc hb.size _) (World.ownsRow.alloc hown _) hg2 (Nat.le_refl _) (by have := hb.size; simp; omega))
  unfold OwnBytes
  rw [Lib.byteCells_append, List.length_append]
  exact hown2
set_option maxRecDepth 100000 in
/-- the same, as a step of a region that draws its order -/
theorem step_append_bytes {ops : Array Oper} {o : Oper} {a : Act} {K : Act → World → Prop} {Q : Exit → Act → World → Prop} {E : Prop} (w00 w0 : World) (C : Array Value) (T : TypeId) (hgd : o.guard = none) (s x : Operand)
    (ho : o.op = .call { callee := .builtin .append, args := #[s, x], argTypes := #[39, 39] })
    (v : Value) (acc bs : List UInt8) (hs : a.eval s = v) (hown : OwnBytes w0 w00.heap.size v acc) (hb : Below w00.heap.size w00 w0)
    (hx : a.eval x = .slice (some ⟨w0.heap.size, 0, none⟩) bs.length bs.length) (hC : C = (Lib.byteCells bs).toArray) (hl : acc.length + bs.length ≤ 140737488355328)
    (h : ∀ v' w', OwnBytes w' w00.heap.size v' (acc ++ bs) → Below w00.heap.size w00 w' → K (a.put o.dst v') w') :
    if Region.wanted o (yielded ops a.tmps) = true then Oper.wp Tryd.prog o a (w0.alloc (.cells C T)) K Q else E := by
  obtain ⟨ti, hti, htz, hts, hty⟩ := info_parts byte_info
  subst hC
  rw [if_pos (by simp [Region.wanted, hgd])]
  obtain ⟨v2, w2, hrun, hown2, hg2, _⟩ := run_append_own (P := Tryd.prog) (w0.alloc (.cells (Lib.byteCells bs).toArray T)) w00.heap.size 39 o.type 5 ti _ 1 1 Tryd.underlying39 hti htz hts hty rfl (by omega) v acc.length (Lib.byteCells acc) (World.ownsRow.alloc hown _) ⟨_, 0, none⟩ bs.length bs.length (Lib.byteCells bs) (by rw [Lib.byteCells_length]; omega) (news_new _ _ _) (byteCells_one' bs) (by simp only [maxLen]; omega) (by omega) (by have := hb.size; simp; omega)
  unfold Oper.wp
  simp [execOp, ho, resolve, invoke, builtin, hs, hx, hrun, Result.andThen]
  refine h v2 w2 ?_ (below_own (hb.alloc hb.size _) (World.ownsRow.alloc hown _) hg2 (Nat.le_refl _) (by have := hb.size; simp; omega))
  unfold OwnBytes
  rw [Lib.byteCells_append, List.length_append]
  exact hown2
theorem own_fresh (w : World) (bs : List UInt8) (hl : bs.length ≤ 1000) : OwnBytes (w.alloc (.cells (Lib.byteCells bs).toArray 5)) w.heap.size (.slice (some ⟨w.heap.size, 0, none⟩) bs.length bs.length) bs := by
  refine ⟨by rw [Lib.byteCells_length]; omega, .inr ⟨w.heap.size, bs.length, (Lib.byteCells bs).toArray, rfl, Nat.le_refl _, ?_, Nat.le_refl _, by simp only [maxLen]; omega, by rw [List.size_toArray, Lib.byteCells_length]; omega, ?_⟩⟩
  · show (w.heap.push _)[w.heap.size]? = _
    simp
  · simp only
    rw [Nat.mul_one, List.take_of_length_le (by rw [Lib.byteCells_length]; exact Nat.le_refl _)]
theorem own_dr {w : World} {B : Nat} {v : Value} {l : List UInt8} (h : OwnBytes w B v l) : OwnBytes w.drew B v l := World.ownsRow.drew h
theorem below_dr1 {B : Nat} {a w : World} (h : Below B a w) : Below B a w.drew := h.drew

theorem idx_u8 (k : Nat) (hk : k < 16) (W : World) : (Instr.index 9 (.string ⟨#[48, 49, 50, 51, 52, 53, 54, 55, 56, 57, 97, 98, 99, 100, 101, 102]⟩) (.int .u8 (k : Int))).run Tryd.prog W = .ok (.int .u8 ((hexD k).toNat : Int)) W := by
  rcases (by omega : k = 0 ∨ k = 1 ∨ k = 2 ∨ k = 3 ∨ k = 4 ∨ k = 5 ∨ k = 6 ∨ k = 7 ∨ k = 8 ∨ k = 9 ∨ k = 10 ∨ k = 11 ∨ k = 12 ∨ k = 13 ∨ k = 14 ∨ k = 15) with rfl | rfl | rfl | rfl | rfl | rfl | rfl | rfl | rfl | rfl | rfl | rfl | rfl | rfl | rfl | rfl
  all_goals kernel_rfl
theorem esc_next {s : ByteArray} {k : Nat} (hk : k < s.size) {bs : List UInt8} (h : escB s[k] = bs) : 34 :: escS (s.data.toList.take (k + 1)) = (34 :: escS (s.data.toList.take k)) ++ bs := by
  have hl : k < s.data.toList.length := by rw [← Lib.size_eq]; exact hk
  have e1 : s.data.toList.take (k + 1) = s.data.toList.take k ++ [s[k]] := by rw [List.take_succ_eq_append_getElem hl]; rfl
  have e2 : escS [s[k]] = escB s[k] := by simp [escS]
  rw [e1, escS_append, e2, h]
  rfl

set_option maxHeartbeats 8000000 in
set_option maxRecDepth 100000 in
theorem rquote_any (s : ByteArray) (w : World) (hs : s.size ≤ 17592186044416) : Calls Tryd.prog 35 #[.string s] w fun e w' => e = .returned (.string ⟨(34 :: (escS s.data.toList ++ [34])).toArray⟩) ∧ Below w.heap.size w w' := by
  have hI0 : OwnBytes (w.alloc (.cells #[.int .u8 34] 5)) w.heap.size (.slice (some ⟨w.heap.size, 0, none⟩) 1 1) [34] := own_fresh w [34] (by simp)
  have HI0 := Lib.hid hI0
  clear hI0
  go_enter Tryd.func35, Tryd.ntmps35
  go_wp2
  go_loopw [3, 4] (fun v i wr => ∃ (k : Nat), i = .int .i64 k ∧ k ≤ s.size ∧ OwnBytes wr w.heap.size v (34 :: escS (s.data.toList.take k)) ∧ Below w.heap.size w wr) (fun _ i _ => s.size - (intOf i).toNat)
  case atStart => exact ⟨0, rfl, by omega, HI0.out, below_alloc w _⟩
  case round =>
    obtain ⟨k, rfl, hk, hown, hb⟩ := hrel
    have hel := escS_len (s.data.toList.take k)
    have hel2 : (s.data.toList.take k).length ≤ k := List.length_take_le _ _
    have hel3 : (34 :: escS (s.data.toList.take k)).length ≤ 6 * k + 1 := by simp only [List.length_cons]; omega
    clear hel hel2
    by_cases hlt : k < s.size
    · have hnext := fun (bs : List UInt8) (h : escB (s[k]'hlt) = bs) => esc_next hlt h
      have HNX := Lib.hid hnext
      have h256 := (s[k]'hlt).toNat_lt
      clear hnext
      by_cases e34 : s[k].toNat = 34
      · have t34 : ((s[k].toNat : Int) == 34) = true := by rw [beq_iff_eq]; omega
        have he : escB s[k] = [92, s[k]] := by unfold escB shortS; simp only [e34]; simp; exact (UInt8.toNat_inj.1 e34).symm
        have HE := Lib.hid (HNX.out _ he)
        clear he e34
        go_wp2_with (at_builtin; refine wpList_append_bytes w _ _ _ rfl (.tmp 27) (.tmp 29) rfl _ _ [92, s[k]] rfl hown hb rfl rfl (by simp only [List.length_cons, List.length_nil] at hel3 ⊢; omega) ?_; intro v2 w2 hown2 hb2)
        go_roundw
        case rel => exact ⟨k + 1, by go_num, by omega, by rw [HE.out]; exact hown2, hb2⟩
        case measure => simp [intOf]; omega
      · have n34 : ((s[k].toNat : Int) == 34) = false := by rw [beq_eq_false_iff_ne]; omega
        by_cases e92 : s[k].toNat = 92
        · have t92 : ((s[k].toNat : Int) == 92) = true := by rw [beq_iff_eq]; omega
          have he : escB s[k] = [92, s[k]] := by unfold escB shortS; simp only [e92]; simp; exact (UInt8.toNat_inj.1 e92).symm
          have HE := Lib.hid (HNX.out _ he)
          clear he e92
          go_wp2_with (at_builtin; refine wpList_append_bytes w _ _ _ rfl (.tmp 27) (.tmp 29) rfl _ _ [92, s[k]] rfl hown hb rfl rfl (by simp only [List.length_cons, List.length_nil] at hel3 ⊢; omega) ?_; intro v2 w2 hown2 hb2)
          go_roundw
          case rel => exact ⟨k + 1, by go_num, by omega, by rw [HE.out]; exact hown2, hb2⟩
          case measure => simp [intOf]; omega
        · have n92 : ((s[k].toNat : Int) == 92) = false := by rw [beq_eq_false_iff_ne]; omega
          by_cases e8 : s[k].toNat = 8
          · have t8 : ((s[k].toNat : Int) == 8) = true := by rw [beq_iff_eq]; omega
            have he : escB s[k] = [92, 98] := by unfold escB shortS; simp only [e8]; rfl
            have HE := Lib.hid (HNX.out _ he)
            clear he e8
            go_wp2_with (at_builtin; refine wpList_append_bytes w _ _ _ rfl (.tmp 34) (.tmp 35) rfl _ _ [92, 98] rfl hown hb rfl rfl (by simp only [List.length_cons, List.length_nil] at hel3 ⊢; omega) ?_; intro v2 w2 hown2 hb2)
            go_roundw
            case rel => exact ⟨k + 1, by go_num, by omega, by rw [HE.out]; exact hown2, hb2⟩
            case measure => simp [intOf]; omega
          · have n8 : ((s[k].toNat : Int) == 8) = false := by rw [beq_eq_false_iff_ne]; omega
            by_cases e12 : s[k].toNat = 12
            · have t12 : ((s[k].toNat : Int) == 12) = true := by rw [beq_iff_eq]; omega
              have he : escB s[k] = [92, 102] := by unfold escB shortS; simp only [e12]; rfl
              have HE := Lib.hid (HNX.out _ he)
              clear he e12
              go_wp2_with (at_builtin; refine wpList_append_bytes w _ _ _ rfl (.tmp 40) (.tmp 41) rfl _ _ [92, 102] rfl hown hb rfl rfl (by simp only [List.length_cons, List.length_nil] at hel3 ⊢; omega) ?_; intro v2 w2 hown2 hb2)
              go_roundw
              case rel => exact ⟨k + 1, by go_num, by omega, by rw [HE.out]; exact hown2, hb2⟩
              case measure => simp [intOf]; omega
            · have n12 : ((s[k].toNat : Int) == 12) = false := by rw [beq_eq_false_iff_ne]; omega
              by_cases e10 : s[k].toNat = 10
              · have t10 : ((s[k].toNat : Int) == 10) = true := by rw [beq_iff_eq]; omega
                have he : escB s[k] = [92, 110] := by unfold escB shortS; simp only [e10]; rfl
                have HE := Lib.hid (HNX.out _ he)
                clear he e10
                go_wp2_with (at_builtin; refine wpList_append_bytes w _ _ _ rfl (.tmp 46) (.tmp 47) rfl _ _ [92, 110] rfl hown hb rfl rfl (by simp only [List.length_cons, List.length_nil] at hel3 ⊢; omega) ?_; intro v2 w2 hown2 hb2)
                go_roundw
                case rel => exact ⟨k + 1, by go_num, by omega, by rw [HE.out]; exact hown2, hb2⟩
                case measure => simp [intOf]; omega
              · have n10 : ((s[k].toNat : Int) == 10) = false := by rw [beq_eq_false_iff_ne]; omega
                by_cases e13 : s[k].toNat = 13
                · have t13 : ((s[k].toNat : Int) == 13) = true := by rw [beq_iff_eq]; omega
                  have he : escB s[k] = [92, 114] := by unfold escB shortS; simp only [e13]; rfl
                  have HE := Lib.hid (HNX.out _ he)
                  clear he e13
                  go_wp2_with (at_builtin; refine wpList_append_bytes w _ _ _ rfl (.tmp 52) (.tmp 53) rfl _ _ [92, 114] rfl hown hb rfl rfl (by simp only [List.length_cons, List.length_nil] at hel3 ⊢; omega) ?_; intro v2 w2 hown2 hb2)
                  go_roundw
                  case rel => exact ⟨k + 1, by go_num, by omega, by rw [HE.out]; exact hown2, hb2⟩
                  case measure => simp [intOf]; omega
                · have n13 : ((s[k].toNat : Int) == 13) = false := by rw [beq_eq_false_iff_ne]; omega
                  by_cases e9 : s[k].toNat = 9
                  · have t9 : ((s[k].toNat : Int) == 9) = true := by rw [beq_iff_eq]; omega
                    have he : escB s[k] = [92, 116] := by unfold escB shortS; simp only [e9]; rfl
                    have HE := Lib.hid (HNX.out _ he)
                    clear he e9
                    go_wp2_with (at_builtin; refine wpList_append_bytes w _ _ _ rfl (.tmp 58) (.tmp 59) rfl _ _ [92, 116] rfl hown hb rfl rfl (by simp only [List.length_cons, List.length_nil] at hel3 ⊢; omega) ?_; intro v2 w2 hown2 hb2)
                    go_roundw
                    case rel => exact ⟨k + 1, by go_num, by omega, by rw [HE.out]; exact hown2, hb2⟩
                    case measure => simp [intOf]; omega
                  · have n9 : ((s[k].toNat : Int) == 9) = false := by rw [beq_eq_false_iff_ne]; omega
                    have hsh : shortS s[k].toNat = 0 := by unfold shortS; rw [if_neg (by omega), if_neg (by omega), if_neg (by omega), if_neg (by omega), if_neg (by omega), if_neg (by omega)]
                    by_cases h32 : s[k].toNat < 32
                    · have g32 : (s[k].toNat : Int) < 32 := by omega
                      have he : escB s[k] = [92, 117, 48, 48, hexD (s[k].toNat / 16), hexD (s[k].toNat % 16)] := by unfold escB; rw [if_neg (by simp [hsh]), if_pos (by omega)]
                      obtain ⟨x1, hx1⟩ : ∃ x, s[k].toNat / 16 = x := ⟨_, rfl⟩
                      obtain ⟨x2, hx2⟩ : ∃ x, s[k].toNat % 16 = x := ⟨_, rfl⟩
                      rw [hx1, hx2] at he
                      have q1 : IntKind.u8.wrap ((s[k].toNat : Int) / 16) = (x1 : Int) := by rw [IntKind.wrap_u8]; omega
                      have q2 : (s[k].toNat : Int).tmod 16 = (x2 : Int) := by rw [Int.tmod_eq_emod_of_nonneg (by omega)]; omega
                      have i1 := idx_u8 x1 (by omega)
                      have i2 := idx_u8 x2 (by omega)
                      have HE := Lib.hid (HNX.out _ he)
                      clear he hsh hx1 hx2 e34 e92 e8 e12 e10 e13 e9
                      go_wp2
                      go_region_law (refine step_append_bytes w _ _ _ rfl (.tmp 68) (.tmp 75) rfl _ _ [92, 117, 48, 48, hexD x1, hexD x2] rfl (own_dr hown) (below_dr1 hb) rfl rfl (by simp only [List.length_cons, List.length_nil] at hel3 ⊢; omega) ?_; intro v2 w2 hown2 hb2)
                      all_goals
                        go_wp2
                        go_roundw
                        case rel => exact ⟨k + 1, by go_num, by omega, by rw [HE.out]; exact hown2, hb2⟩
                        case measure => simp [intOf]; omega
                    · have g32 : ¬ (s[k].toNat : Int) < 32 := by omega
                      by_cases e127 : s[k].toNat = 127
                      · have t127 : ((s[k].toNat : Int) == 127) = true := by rw [beq_iff_eq]; omega
                        have he : escB s[k] = [92, 117, 48, 48, hexD (s[k].toNat / 16), hexD (s[k].toNat % 16)] := by unfold escB; rw [if_neg (by simp [hsh]), if_pos (by omega)]
                        obtain ⟨x1, hx1⟩ : ∃ x, s[k].toNat / 16 = x := ⟨_, rfl⟩
                        obtain ⟨x2, hx2⟩ : ∃ x, s[k].toNat % 16 = x := ⟨_, rfl⟩
                        rw [hx1, hx2] at he
                        have q1 : IntKind.u8.wrap ((s[k].toNat : Int) / 16) = (x1 : Int) := by rw [IntKind.wrap_u8]; omega
                        have q2 : (s[k].toNat : Int).tmod 16 = (x2 : Int) := by rw [Int.tmod_eq_emod_of_nonneg (by omega)]; omega
                        have i1 := idx_u8 x1 (by omega)
                        have i2 := idx_u8 x2 (by omega)
                        have HE := Lib.hid (HNX.out _ he)
                        clear he hsh e127 hx1 hx2 e34 e92 e8 e12 e10 e13 e9
                        go_wp2
                        go_region_law (refine step_append_bytes w _ _ _ rfl (.tmp 68) (.tmp 75) rfl _ _ [92, 117, 48, 48, hexD x1, hexD x2] rfl (own_dr hown) (below_dr1 hb) rfl rfl (by simp only [List.length_cons, List.length_nil] at hel3 ⊢; omega) ?_; intro v2 w2 hown2 hb2)
                        all_goals
                          go_wp2
                          go_roundw
                          case rel => exact ⟨k + 1, by go_num, by omega, by rw [HE.out]; exact hown2, hb2⟩
                          case measure => simp [intOf]; omega
                      · have n127 : ((s[k].toNat : Int) == 127) = false := by rw [beq_eq_false_iff_ne]; omega
                        have he : escB s[k] = [s[k]] := by unfold escB; rw [if_neg (by simp [hsh]), if_neg (by omega)]
                        have HE := Lib.hid (HNX.out _ he)
                        clear he hsh e34 e92 e8 e12 e10 e13 e9 e127
                        go_wp2_with (at_builtin; refine wpList_append_bytes w _ _ _ rfl (.tmp 16) (.tmp 18) rfl _ _ [s[k]] rfl hown hb rfl rfl (by simp only [List.length_cons, List.length_nil] at hel3 ⊢; omega) ?_; intro v2 w2 hown2 hb2)
                        go_roundw
                        case rel => exact ⟨k + 1, by go_num, by omega, by rw [HE.out]; exact hown2, hb2⟩
                        case measure => simp [intOf]; omega
    · obtain rfl : k = s.size := by omega
      have hall : s.data.toList.take s.size = s.data.toList := List.take_of_length_le (by rw [← Lib.size_eq]; exact Nat.le_refl _)
      rw [hall] at hown hel3
      have HALL := Lib.hid hall
      clear hall hlt
      go_wp2_with (at_builtin; refine wpList_append_bytes w _ _ _ rfl (.tmp 77) (.tmp 78) rfl _ _ [34] rfl hown hb rfl rfl (by simp only [List.length_cons, List.length_nil] at hel3 ⊢; omega) ?_; intro v2 w2 hown2 hb2; have hcv := own_string hown2)
      have hcv := own_string hown2
      go_wp2
      go_ret
      exact ⟨rfl, hb2⟩
end Go.Proofs.YthogialdoikanaaDoor
