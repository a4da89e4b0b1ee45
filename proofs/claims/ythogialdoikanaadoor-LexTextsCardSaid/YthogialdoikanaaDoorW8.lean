/- walk: Unquote, at whatever text. -/
import Derived.Test.YthogialdoikanaaDoorW7
namespace Go.Proofs.YthogialdoikanaaDoor
open Go.RowKit

set_option maxHeartbeats 1000000 in
set_option maxRecDepth 100000 in
theorem unquote_any (s : ByteArray) (w : World) (hT : Tabs w) (hs : s.size ≤ 1099511627776) :
    Calls Tryd.prog 24 #[.string s] w fun e w' => e = .returned (.tuple #[.string ⟨(unquoteS s.data.toList).2.toArray⟩, .int .i64 (unquoteS s.data.toList).1]) ∧ Below w.heap.size w w' := by
  by_cases h0 : s.size = 0
  · have hl : s.data.toList = [] := List.eq_nil_of_length_eq_zero (by rw [← Lib.size_eq]; exact h0)
    have hem : s.toList.isEmpty = true := by rw [Lib.toList_data, hl]; rfl
    have HL := Lib.hid hl
    clear h0 hl
    go_enter Tryd.func24, Tryd.ntmps24
    go_wp2
    refine wp_scope_straight ?_
    go_wp2
    rw [Exit.noGoto_ret]
    go_ret2
    exact ⟨ret_se (by rw [HL.out]; rfl) (by rw [HL.out]; rfl), Below.refl _ _⟩
  · have hp : 0 < s.size := by omega
    have hd := drop_at s 0 hp
    rw [List.drop_zero] at hd
    by_cases h34 : (s[0].toNat : Int) = 34
    · have e : unquoteS s.data.toList = unq (s.data.toList.drop 1) [] := by
        generalize hq : unq (s.data.toList.drop 1) [] = q
        rw [hd] at hq ⊢
        simp only [unquoteS]
        rw [if_pos (by omega), ← hq]
        rfl
      rw [e]
      exact unquote_go s w hT hs hp h34
    · have e : unquoteS s.data.toList = (4, []) := by
        rw [hd]
        simp only [unquoteS]
        rw [if_neg (by omega)]
      have hem : s.toList.isEmpty = false := by rw [Lib.toList_data, hd]; rfl
      have n34 : ((s[0].toNat : Int) == 34) = false := by rw [beq_eq_false_iff_ne]; exact h34
      have HE := Lib.hid e
      clear e hd h0 h34
      go_enter Tryd.func24, Tryd.ntmps24
      go_wp2
      refine wp_scope_straight ?_
      go_wp2
      rw [Exit.noGoto_ret]
      go_ret2
      exact ⟨ret_se (by rw [HE.out]) (by rw [HE.out]), Below.refl _ _⟩
end Go.Proofs.YthogialdoikanaaDoor
