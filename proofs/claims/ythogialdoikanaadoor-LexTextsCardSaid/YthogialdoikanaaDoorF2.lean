/- walk: the answer's own sign. -/
import Derived.Test.YthogialdoikanaaDoorF1
import Derived.Test.YthogialdoikanaaDoorT1
namespace Go.Proofs.YthogialdoikanaaDoor
open Go.RowKit

def one12 : List UInt8 := [123, 125, 91, 93, 40, 41, 44, 58, 46, 61, 60, 62]
theorem signS_two (b c : UInt8) (t : List UInt8) (h : (b = 33 ∧ c = 61) ∨ (b = 60 ∧ c = 61) ∨ (b = 62 ∧ c = 61)) : signS (b :: c :: t) = [b, c] := by
  rcases h with ⟨rfl, rfl⟩ | ⟨rfl, rfl⟩ | ⟨rfl, rfl⟩ <;> rfl
theorem signS_one (b : UInt8) (t : List UInt8) (h : ∀ c, t.head? = some c → ¬ ((b = 33 ∧ c = 61) ∨ (b = 60 ∧ c = 61) ∨ (b = 62 ∧ c = 61))) : signS (b :: t) = if b ∈ one12 then [b] else [] := by
  have two : ∀ x y : UInt8, ((x = 33 ∧ y = 61) ∨ (x = 60 ∧ y = 61) ∨ (x = 62 ∧ y = 61)) → ([x, y] : List UInt8).isPrefixOf (b :: t) = false := by
    intro x y hxy
    cases t with
    | nil => simp [List.isPrefixOf]
    | cons c r =>
      have hc := h c rfl
      rw [Bool.eq_false_iff]
      intro hp
      simp only [List.isPrefixOf, Bool.and_eq_true, beq_iff_eq] at hp
      obtain ⟨h1, h2, _⟩ := hp
      subst h1 h2
      exact hc hxy
  have e1 := two 33 61 (by simp)
  have e2 := two 60 61 (by simp)
  have e3 := two 62 61 (by simp)
  have one : ∀ x : UInt8, ([x] : List UInt8).isPrefixOf (b :: t) = (x == b) := fun x => by simp [List.isPrefixOf]
  unfold signS signs
  simp only [List.find?, e1, e2, e3, one]
  by_cases hm : b ∈ one12
  · rw [if_pos hm]
    simp only [one12, List.mem_cons, List.not_mem_nil, or_false] at hm
    rcases hm with rfl | rfl | rfl | rfl | rfl | rfl | rfl | rfl | rfl | rfl | rfl | rfl <;> rfl
  · rw [if_neg hm]
    simp only [one12, List.mem_cons, List.not_mem_nil, or_false, not_or] at hm
    obtain ⟨m1, m2, m3, m4, m5, m6, m7, m8, m9, m10, m11, m12⟩ := hm
    have ne : ∀ x : UInt8, ¬ b = x → (x == b) = false := fun x hx => by rw [beq_eq_false_iff_ne]; exact fun h => hx h.symm
    simp only [ne _ m1, ne _ m2, ne _ m3, ne _ m4, ne _ m5, ne _ m6, ne _ m7, ne _ m8, ne _ m9, ne _ m10, ne _ m11, ne _ m12]
    rfl

theorem ext_list (s : ByteArray) (a b : Nat) : (s.extract a b).data.toList = (s.data.toList.drop a).take (b - a) := by
  simp [ByteArray.data_extract, Array.toList_extract]
theorem lit12 : ∀ (j : Nat) (h : j < 12), ((⟨#[123, 125, 91, 93, 40, 41, 44, 58, 46, 61, 60, 62]⟩ : ByteArray)[j]'h) = one12.getD j 0 := by decide
theorem mem12 (j : Nat) (h : j < 12) : one12.getD j 0 ∈ one12 := by
  rw [List.getD_eq_getElem?_getD, List.getElem?_eq_getElem (show j < one12.length from h)]
  exact List.getElem_mem _
theorem in12 {b : UInt8} (h : b ∈ one12) : ∃ i, i < 12 ∧ one12.getD i 0 = b := by
  obtain ⟨i, hi, he⟩ := List.getElem_of_mem h
  refine ⟨i, hi, ?_⟩
  rw [List.getD_eq_getElem?_getD, List.getElem?_eq_getElem hi]
  exact he

set_option maxHeartbeats 4000000 in
set_option maxRecDepth 100000 in
theorem rsign_any (s : ByteArray) (k : Nat) (w : World) (hk : k < s.size) (hs : s.size ≤ 9223372036854775000) :
    Calls Tryd.prog 29 #[.string s, .int .i64 k] w fun e w' => e = .returned (.string ⟨(signS (s.data.toList.drop k)).toArray⟩) ∧ Below w.heap.size w w' := by
  have hd := drop_at s k hk
  by_cases h2 : k + 2 ≤ s.size
  · have hd2 := drop_at s (k + 1) (by omega)
    rw [hd2] at hd
    have hxl : (s.extract k (k + 2)).data.toList = [s[k], s[k + 1]] := by
      rw [ext_list, hd, show k + 2 - k = 2 by omega]; rfl
    by_cases hsp : (s[k] = 33 ∧ s[k + 1] = 61) ∨ (s[k] = 60 ∧ s[k + 1] = 61) ∨ (s[k] = 62 ∧ s[k + 1] = 61)
    · have hres : signS (s.data.toList.drop k) = [s[k], s[k + 1]] := by rw [hd]; exact signS_two _ _ _ hsp
      have hxe : s.extract k (k + 2) = ⟨(signS (s.data.toList.drop k)).toArray⟩ := by
        rw [hres]; exact ByteArray.ext (Array.toList_inj.1 hxl)
      have HXE := Lib.hid hxe
      have hT : (s.extract k (k + 2)).toList = [33, 61] ∨ (s.extract k (k + 2)).toList = [60, 61] ∨ (s.extract k (k + 2)).toList = [62, 61] := by
        rw [Lib.toList_data, hxl]
        rcases hsp with ⟨h1, h3⟩ | ⟨h1, h3⟩ | ⟨h1, h3⟩ <;> rw [h1, h3] <;> simp
      clear hd hd2 hxl hres hxe hsp
      rcases hT with hT | hT | hT
      all_goals
        go_enter Tryd.func29, Tryd.ntmps29
        go_wp2
        go_ret
        exact ⟨congrArg (fun x => Ending.returned (.string x)) HXE.out, Below.refl _ _⟩
    · have hsg : signS (s.data.toList.drop k) = if s[k] ∈ one12 then [s[k]] else [] := by
        rw [hd]
        refine signS_one _ _ fun c hc => ?_
        simp only [List.head?_cons, Option.some.injEq] at hc
        subst hc; exact hsp
      have HSG := Lib.hid hsg
      have nT : ∀ x y : UInt8, ((x = 33 ∧ y = 61) ∨ (x = 60 ∧ y = 61) ∨ (x = 62 ∧ y = 61)) → (s.extract k (k + 2)).toList ≠ [x, y] := fun x y hxy he => by
        rw [Lib.toList_data, hxl] at he
        injection he with h1 h3
        injection h3 with h3 _
        rw [← h1, ← h3] at hxy
        exact hsp hxy
      have n1 : ¬ (s.extract k (k + 2)).toList = [33, 61] := nT 33 61 (by simp)
      have n2 : ¬ (s.extract k (k + 2)).toList = [60, 61] := nT 60 61 (by simp)
      have n3 : ¬ (s.extract k (k + 2)).toList = [62, 61] := nT 62 61 (by simp)
      have n3' : ((s.extract k (k + 2)).toList == [62, 61]) = false := by rw [beq_eq_false_iff_ne]; exact n3
      clear hd hd2 hxl hsg hsp nT
      go_enter Tryd.func29, Tryd.ntmps29
      go_wp2
      go_loopw [6] (fun vi wr => ∃ j m : Nat, vi = .int .i64 j ∧ j ≤ 12 ∧ wr = w.drewN m ∧ ∀ i, i < j → one12.getD i 0 ≠ s[k]) (fun vi _ => 12 - (intOf vi).toNat)
      case atStart => exact ⟨0, 0, rfl, by omega, rfl, fun i h => absurd h (by omega)⟩
      case round =>
        obtain ⟨j, m, rfl, hj, hwr, hne⟩ := hrel
        have HW := Lib.hid hwr
        have HNE := Lib.hid hne
        have hfin : ∀ q, Below w.heap.size w (wr.drewN q) := fun q => by rw [HW.out]; exact below_dr (below_dr (Below.refl _ _) _) _
        have HFIN := Lib.hid hfin
        clear hwr hne hfin
        by_cases hlt : j < 12
        · obtain ⟨c, hc⟩ : ∃ c, one12.getD j 0 = c := ⟨_, rfl⟩
          by_cases hb : s[k] = c
          · have hres : signS (s.data.toList.drop k) = [s[k]] := by
              rw [HSG.out, if_pos (by rw [hb, ← hc]; exact mem12 j hlt)]
            have hx1 : (s.extract k (k + 1)) = ⟨#[s[k]]⟩ := by
              have h := ext_list s k (k + 1)
              rw [drop_at s k hk, show k + 1 - k = 1 by omega] at h
              exact ByteArray.ext (Array.toList_inj.1 h)
            have hx3 : s.extract k (k + 1) = ⟨(signS (s.data.toList.drop k)).toArray⟩ := by rw [hx1, hres]
            have HR := Lib.hid hx3
            have tb : ((s[k].toNat : Int) == (((⟨#[123, 125, 91, 93, 40, 41, 44, 58, 46, 61, 60, 62]⟩ : ByteArray)[j]'hlt).toNat : Int)) = true := by rw [beq_iff_eq, lit12 j hlt, hb, hc]
            clear hres hx1 hx3 hb
            go_wp2
            go_quiet (fail)
            go_wp2
            go_ret
            exact ⟨congrArg (fun x => Ending.returned (.string x)) HR.out, HFIN.out _⟩
          · have tb : ((s[k].toNat : Int) == (((⟨#[123, 125, 91, 93, 40, 41, 44, 58, 46, 61, 60, 62]⟩ : ByteArray)[j]'hlt).toNat : Int)) = false := by
              rw [beq_eq_false_iff_ne, lit12 j hlt, hc]; intro h; exact hb (UInt8.toNat_inj.1 (by omega))
            have nxt : ∀ i, i < j + 1 → one12.getD i 0 ≠ s[k] := fun i hi => by
              rcases Nat.lt_or_ge i j with h | h
              · exact HNE.out i h
              · obtain rfl : i = j := by omega
                rw [hc]; exact fun h => hb h.symm
            have HN := Lib.hid nxt
            clear nxt hb hc
            go_wp2
            go_quiet (fail)
            go_wp2
            go_roundw
            case rel => exact ⟨j + 1, m + nq, by go_num, by omega, by rw [HW.out, World.drewN_drewN], HN.out⟩
            case measure => simp [intOf]; omega
        · obtain rfl : j = 12 := by omega
          have hres : signS (s.data.toList.drop k) = [] := by
            rw [HSG.out, if_neg]
            intro hm
            obtain ⟨i, hi, he⟩ := in12 hm
            exact HNE.out i hi he
          have HRES := Lib.hid hres
          have hend := HFIN.out 0
          clear hres
          go_wp2
          go_ret
          exact ⟨ret_str HRES.out.symm, hend⟩
  · have hsg : signS (s.data.toList.drop k) = if s[k] ∈ one12 then [s[k]] else [] := by
      rw [hd]
      refine signS_one _ _ fun c hc => ?_
      rw [List.head?_eq_getElem?, List.getElem?_drop, List.getElem?_eq_none (by rw [← Lib.size_eq]; omega)] at hc
      cases hc
    have HSG := Lib.hid hsg
    clear hd hsg
    go_enter Tryd.func29, Tryd.ntmps29
    go_wp2
    go_loopw [6] (fun vi wr => ∃ j m : Nat, vi = .int .i64 j ∧ j ≤ 12 ∧ wr = w.drewN m ∧ ∀ i, i < j → one12.getD i 0 ≠ s[k]) (fun vi _ => 12 - (intOf vi).toNat)
    case atStart => exact ⟨0, 0, rfl, by omega, rfl, fun i h => absurd h (by omega)⟩
    case round =>
      obtain ⟨j, m, rfl, hj, hwr, hne⟩ := hrel
      have HW := Lib.hid hwr
      have HNE := Lib.hid hne
      have hfin : ∀ q, Below w.heap.size w (wr.drewN q) := fun q => by rw [HW.out]; exact below_dr (below_dr (Below.refl _ _) _) _
      have HFIN := Lib.hid hfin
      clear hwr hne hfin
      by_cases hlt : j < 12
      · obtain ⟨c, hc⟩ : ∃ c, one12.getD j 0 = c := ⟨_, rfl⟩
        by_cases hb : s[k] = c
        · have hres : signS (s.data.toList.drop k) = [s[k]] := by
            rw [HSG.out, if_pos (by rw [hb, ← hc]; exact mem12 j hlt)]
          have hx1 : (s.extract k (k + 1)) = ⟨#[s[k]]⟩ := by
            have h := ext_list s k (k + 1)
            rw [drop_at s k hk, show k + 1 - k = 1 by omega] at h
            exact ByteArray.ext (Array.toList_inj.1 h)
          have hx3 : s.extract k (k + 1) = ⟨(signS (s.data.toList.drop k)).toArray⟩ := by rw [hx1, hres]
          have HR := Lib.hid hx3
          have tb : ((s[k].toNat : Int) == (((⟨#[123, 125, 91, 93, 40, 41, 44, 58, 46, 61, 60, 62]⟩ : ByteArray)[j]'hlt).toNat : Int)) = true := by rw [beq_iff_eq, lit12 j hlt, hb, hc]
          clear hres hx1 hx3 hb
          go_wp2
          go_quiet (fail)
          go_wp2
          go_ret
          exact ⟨congrArg (fun x => Ending.returned (.string x)) HR.out, HFIN.out _⟩
        · have tb : ((s[k].toNat : Int) == (((⟨#[123, 125, 91, 93, 40, 41, 44, 58, 46, 61, 60, 62]⟩ : ByteArray)[j]'hlt).toNat : Int)) = false := by
            rw [beq_eq_false_iff_ne, lit12 j hlt, hc]; intro h; exact hb (UInt8.toNat_inj.1 (by omega))
          have nxt : ∀ i, i < j + 1 → one12.getD i 0 ≠ s[k] := fun i hi => by
            rcases Nat.lt_or_ge i j with h | h
            · exact HNE.out i h
            · obtain rfl : i = j := by omega
              rw [hc]; exact fun h => hb h.symm
          have HN := Lib.hid nxt
          clear nxt hb hc
          go_wp2
          go_quiet (fail)
          go_wp2
          go_roundw
          case rel => exact ⟨j + 1, m + nq, by go_num, by omega, by rw [HW.out, World.drewN_drewN], HN.out⟩
          case measure => simp [intOf]; omega
      · obtain rfl : j = 12 := by omega
        have hres : signS (s.data.toList.drop k) = [] := by
          rw [HSG.out, if_neg]
          intro hm
          obtain ⟨i, hi, he⟩ := in12 hm
          exact HNE.out i hi he
        have HRES := Lib.hid hres
        have hend := HFIN.out 0
        clear hres
        go_wp2
        go_ret
        exact ⟨ret_str HRES.out.symm, hend⟩
end Go.Proofs.YthogialdoikanaaDoor
