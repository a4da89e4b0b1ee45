/- walks: the answer's own Runes, Valid, isSign. -/
import Derived.Test.YthogialdoikanaaDoorZ1
import Derived.Test.YthogialdoikanaaDoorF2
import Derived.Test.YthogialdoikanaaDoorW6
namespace Go.Proofs.YthogialdoikanaaDoor
open Go.RowKit

theorem rune_info : (Tryd.prog.info? 21).map (fun i => (i.zero, i.size, i.bytes)) = some (some (.int .i32 0), 1, 4) := by kernel_rfl

theorem valid_at {s : ByteArray} {k : Nat} (hk : k < s.size) : (nextR (s.data.toList.drop k) = none ∧ Lib.validD (s.data.toList.drop k) = false) ∨ (∃ v n, nextR (s.data.toList.drop k) = some (v, n) ∧ 1 ≤ n ∧ k + n ≤ s.size ∧ v ≤ 1114111 ∧ Lib.validD (s.data.toList.drop k) = Lib.validD (s.data.toList.drop (k + n))) := by
  have hl : (s.data.toList.drop k).length = s.size - k := by rw [List.length_drop, ← Lib.size_eq]
  have hd := drop_at s k hk
  rw [hd] at hl ⊢
  cases hx : nextR (s[k] :: s.data.toList.drop (k + 1)) with
  | none => exact .inl ⟨rfl, valid_none hx⟩
  | some y =>
    obtain ⟨v, n⟩ := y
    obtain ⟨h1, h2, h3, h4, h5, h6⟩ := nextR_some hx
    have hv := valid_some hx
    rw [hl] at h2
    have hr : v ≤ 1114111 := by
      have := Lib.decodeL_rune (s[k] :: s.data.toList.drop (k + 1))
      have e : Lib.decodeL (s[k] :: s.data.toList.drop (k + 1)) = (v, n) := (decL_some hx).1
      rw [e] at this; exact this
    refine .inr ⟨v, n, rfl, h1, by omega, hr, ?_⟩
    rw [hv, ← hd, List.drop_drop]

set_option maxHeartbeats 4000000 in
set_option maxRecDepth 100000 in
theorem runes_any (s : ByteArray) (w : World) (hs : s.size ≤ 17592186044416) : Calls Tryd.prog 52 #[.string s] w fun e w' => (∃ v, e = .returned (.tuple #[v, .bool (Lib.validD s.data.toList)])) ∧ Below w.heap.size w w' := by
  obtain ⟨ti, hti, htz, hts, hty⟩ := info_parts rune_info
  go_enter Tryd.func52, Tryd.ntmps52
  go_wp2
  go_loopw [4, 5] (fun v i wr => ∃ (k n : Nat) (xs : List Value), i = .int .i64 k ∧ k ≤ s.size ∧ n ≤ k ∧ wr.ownsRow w.heap.size 21 1 v n xs ∧ Below w.heap.size w wr ∧ Lib.validD s.data.toList = Lib.validD (s.data.toList.drop k)) (fun _ i _ => s.size - (intOf i).toNat)
  case atStart => exact ⟨0, 0, [], rfl, by omega, by omega, ⟨rfl, .inl ⟨rfl, rfl⟩⟩, Below.refl _ _, rfl⟩
  case round =>
    obtain ⟨k, n, xs, rfl, hk, hnk, hown, hb, hv⟩ := hrel
    have HV := Lib.hid hv
    clear hv
    by_cases hlt : k < s.size
    · have HNX := Lib.hid (next_any s k wr hlt (by omega))
      rcases valid_at hlt with ⟨h1, h2⟩ | ⟨v, m, h1, h2, h3, h4, h5⟩
      · have hres : Lib.validD s.data.toList = false := HV.out.trans h2
        have HRES := Lib.hid hres
        have H1 := Lib.hid h1
        clear h1 h2 hres
        go_wp2_with fail
        refine HNX.out.mono ?_
        rw [H1.out]
        rintro e w1 ⟨⟨a, b, rfl⟩, rfl⟩
        go_wp2
        go_ret2
        rw [HRES.out]
        exact ⟨⟨_, rfl⟩, hb⟩
      · have H1 := Lib.hid h1
        have H5 := Lib.hid (HV.out.trans h5)
        obtain ⟨z, hz⟩ : ∃ z : Int, z = (v : Int) := ⟨_, rfl⟩
        have hz0 : 0 ≤ z := by omega
        have hz1 : z ≤ 1114111 := by omega
        have HZ := Lib.hid hz
        clear h1 h5 hz
        go_wp2_with fail
        refine HNX.out.mono ?_
        rw [H1.out]
        unfold NextPost
        simp only
        rw [← HZ.out]
        rintro e w1 ⟨rfl, rfl⟩
        go_wp2_with (at_builtin; refine wpList_append_own _ rfl _ _ 84 rfl w.heap.size 21 ti (.int .i32 0) 1 4 Tryd.underlying84 hti htz hts hty rfl (by omega) _ n xs rfl (World.ownsRow.alloc hown _) ⟨_, 0, none⟩ 1 1 [.int .i32 z] rfl rfl (news_new _ [.int .i32 z] _) ?c2 (by simp only [maxLen]; omega) (by omega) (by have := hb.size; simp; omega) ?_)
        case c2 => intro u hu; simp only [List.mem_cons, List.not_mem_nil, or_false] at hu; subst hu; rfl
        intro v2 w2 hown2 hg2 _
        have hb2 := below_own (hb.alloc hb.size _) (World.ownsRow.alloc hown _) hg2 (Nat.le_refl _) (by have := hb.size; simp; omega)
        clear hg2
        go_wp2
        go_roundw
        case rel => exact ⟨k + m, n + 1, _, rfl, by omega, by omega, hown2, hb2, H5.out⟩
        case measure => simp [intOf]; omega
    · have hres : Lib.validD s.data.toList = true := by
        rw [HV.out, List.drop_eq_nil_of_le (by rw [← Lib.size_eq]; omega)]; rfl
      have HRES := Lib.hid hres
      clear hres
      go_wp2
      go_ret2
      rw [HRES.out]
      exact ⟨⟨_, rfl⟩, hb⟩

theorem rvalid_any (s : ByteArray) (w : World) (hs : s.size ≤ 17592186044416) : Calls Tryd.prog 34 #[.string s] w fun e w' => e = .returned (.bool (Lib.validD s.data.toList)) ∧ Below w.heap.size w w' := by
  have HR := Lib.hid (runes_any s w hs)
  go_enter Tryd.func34, Tryd.ntmps34
  go_wp2_with fail
  refine HR.out.mono ?_
  rintro e w1 ⟨⟨v, rfl⟩, hb⟩
  go_wp2
  go_ret
  exact ⟨rfl, hb⟩

set_option maxHeartbeats 1000000 in
theorem risSign_any (S : List UInt8) (w : World) (hs : S.length ≤ 9223372036854775000) : Calls Tryd.prog 36 #[.string ⟨S.toArray⟩] w fun e w' => e = .returned (.bool (decide (S ≠ [] ∧ signS S = S))) ∧ Below w.heap.size w w' := by
  by_cases h0 : S = []
  · subst h0
    go_enter Tryd.func36, Tryd.ntmps36
    go_wp2
    go_ret
    exact ⟨rfl, Below.refl _ _⟩
  · have hz : (⟨S.toArray⟩ : ByteArray).size = S.length := Lib.size_eq _
    have hr := rsign_any ⟨S.toArray⟩ 0 w (by rw [hz]; exact List.length_pos_iff.2 h0) (by rw [hz]; exact hs)
    have e0 : (⟨S.toArray⟩ : ByteArray).data.toList.drop 0 = S := rfl
    rw [e0] at hr
    have HR := Lib.hid hr
    have hem : S.isEmpty = false := by simpa using h0
    have hre : decide (S ≠ [] ∧ signS S = S) = (signS S == S) := by
      by_cases h : signS S = S
      · rw [decide_eq_true ⟨h0, h⟩, beq_iff_eq.2 h]
      · rw [decide_eq_false (fun hh => h hh.2), beq_eq_false_iff_ne.2 h]
    have HRE := Lib.hid hre
    clear hr h0 hz hre
    go_enter Tryd.func36, Tryd.ntmps36
    go_wp2_with fail
    refine HR.out.mono ?_
    rintro e w1 ⟨rfl, hb⟩
    go_wp2
    go_ret
    rw [HRE.out]
    exact ⟨rfl, hb⟩
end Go.Proofs.YthogialdoikanaaDoor
