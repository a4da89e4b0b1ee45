/- walks: number. -/
import Derived.Test.YthogialdoikanaaDoorW2
import Derived.WalkSmall
import Derived.Lib.UnsafeStr
namespace Go.Proofs.YthogialdoikanaaDoor
open Go.RowKit

/-- what the law's world holds of the library's own variables -/
structure Tabs (w : World) : Prop where
  size : 8 ≤ w.heap.size
  u8 : Lib.Utf8Tabs 1 2 w
  p10 : Lib.TabIs Tryd.prog w "internal/strconv.uint64pow10" .u64 Lib.pow10Tab
  syn : ∃ tp p, w.var? Tryd.prog "strconv.ErrSyntax" = some #[.iface tp p]
  rng : ∃ tp p, w.var? Tryd.prog "strconv.ErrRange" = some #[.iface tp p]

theorem g_p10 : Tryd.prog.globalNamed "internal/strconv.uint64pow10" = some 3 := by kernel_rfl
theorem g_syn : Tryd.prog.globalNamed "strconv.ErrSyntax" = some 4 := by kernel_rfl
theorem g_rng : Tryd.prog.globalNamed "strconv.ErrRange" = some 5 := by kernel_rfl

theorem Tabs.below {B : Nat} {w w' : World} (h : Tabs w) (hb : Below B w w') (hB : 8 ≤ B) : Tabs w' where
  size := Nat.le_trans h.size hb.size
  u8 := ⟨fun c hc => (hb.cell (p := ⟨1, c, none⟩) (show 1 < B by omega)).trans (h.u8.1 c hc), fun i hi =>
    ⟨(hb.cell (p := ⟨2, 2 * i, none⟩) (show 2 < B by omega)).trans (h.u8.2 i hi).1, (hb.cell (p := ⟨2, 2 * i + 1, none⟩) (show 2 < B by omega)).trans (h.u8.2 i hi).2⟩⟩
  p10 := var?_below hb g_p10 (by omega) h.p10
  syn := by obtain ⟨tp, p, hv⟩ := h.syn; exact ⟨tp, p, var?_below hb g_syn (by omega) hv⟩
  rng := by obtain ⟨tp, p, hv⟩ := h.rng; exact ⟨tp, p, var?_below hb g_rng (by omega) hv⟩

theorem Tabs.here {w w' : World} (h : Tabs w) (hb : Below w.heap.size w w') : Tabs w' := h.below hb h.size

theorem bytesWorld_below {w w' : World} {e : TypeId} (h : w' = w ∨ ∃ t, w' = Lib.bytesWorld w e t) : Below w.heap.size w w' := by
  rcases h with rfl | ⟨t, rfl⟩
  · exact Below.refl _ _
  · exact Lib.below_freeze ((Below.drew (Below.refl _ w)).alloc (Nat.le_refl _) _) (p := ⟨w.heap.size, _, none⟩) (Nat.le_refl _) 1

theorem ret_ii {a b a' b' : Int} (h : a' = a) (k : b' = b) : Ending.returned (.tuple #[.int .i64 a, .int .i64 b]) = .returned (.tuple #[.int .i64 a', .int .i64 b']) := by rw [h, k]

theorem trim_bare (l : List UInt8) : Lib.trimPrefix l [45] = bare l := rfl

set_option maxHeartbeats 1000000 in
theorem number_bad (s : ByteArray) (w : World) (hT : Tabs w) (hs : s.size ≤ 281474976710656) (h : Lib.parseIntB 64 s.data.toList = Lib.parseIntB 64 [] ∨ Lib.parseIntB 64 s.data.toList = .range) :
    Calls Tryd.prog 22 #[.string s] w fun e w' => e = .returned (.tuple #[.int .i64 0, .int .i64 12]) ∧ Below w.heap.size w w' := by
  obtain ⟨t1, p1, v1⟩ := hT.syn
  obtain ⟨t2, p2, v2⟩ := hT.rng
  rcases h with h | h
  · have cP := Tryd.strconv_ParseInt_10_at64_syntax_var s hs h t1 p1 w v1
    have CP := Lib.hid cP
    clear cP h v1 v2 hT
    go_enter Tryd.func22, Tryd.ntmps22
    go_wp2_with (first | (go_at_call 39; refine (Tryd.strings_TrimPrefix _ _ _).mono ?_; rintro e w' ⟨rfl, rfl⟩) | (go_at_call 40; refine CP.out.mono ?_; rintro e w' ⟨N, rfl, hN, hc, hb⟩))
    go_ret2
    exact ⟨rfl, hb⟩
  · have cP := Tryd.strconv_ParseInt_10_at64_range_var s hs h t2 p2 w v2
    have CP := Lib.hid cP
    clear cP h v1 v2 hT
    go_enter Tryd.func22, Tryd.ntmps22
    go_wp2_with (first | (go_at_call 39; refine (Tryd.strings_TrimPrefix _ _ _).mono ?_; rintro e w' ⟨rfl, rfl⟩) | (go_at_call 40; refine CP.out.mono ?_; rintro e w' ⟨N, rfl, hN, hc, hb⟩))
    go_ret2
    exact ⟨rfl, hb⟩

theorem bare_ne {l : List UInt8} {v : Int} (h : Lib.parseIntB 64 l = .ok v) : bare l ≠ [] := by
  intro hb
  cases l with
  | nil => simp [Lib.parseIntB] at h
  | cons c r =>
    unfold bare at hb
    split at hb
    · rename_i hp
      simp only [List.drop_succ_cons, List.drop_zero] at hb
      subst hb
      have hc : c = 45 := by simp [Lib.hasPrefix] at hp; exact hp.symm
      subst hc
      simp [Lib.parseIntB, Lib.parseUintB] at h
    · cases hb

set_option maxHeartbeats 1000000 in
theorem number_ok (s : ByteArray) (w : World) (v : Int) (hs : s.size ≤ 281474976710656) (h : Lib.parseIntB 64 s.data.toList = .ok v) :
    Calls Tryd.prog 22 #[.string s] w fun e w' => e = .returned (.tuple #[.int .i64 (numV s.data.toList), .int .i64 (numE s.data.toList)]) ∧ Below w.heap.size w w' := by
  have cP := Tryd.strconv_ParseInt_10_at64_ok s (by omega) v h w
  have CP := Lib.hid cP
  have H := Lib.hid h
  obtain ⟨c, r, hbr⟩ : ∃ c r, bare s.data.toList = c :: r := by
    cases hb : bare s.data.toList with
    | nil => exact absurd hb (bare_ne h)
    | cons c r => exact ⟨c, r, rfl⟩
  clear cP h
  have fin : ∀ (a b : Int), (numS s.data.toList = if 19 < (c :: r).length ∨ (c.toNat = 48 ∧ s.data.toList ≠ [48]) then none else some v) := by
    intro _ _
    unfold numS
    rw [H.out]
    simp only [hbr, List.head?_cons, Option.map_some, Option.some.injEq]
  have FIN := Lib.hid (fin 0 0)
  clear fin
  have ht : Lib.trimPrefix s.data.toList [45] = c :: r := hbr
  clear hbr
  have yes : (19 < (c :: r).length ∨ (c.toNat = 48 ∧ s.data.toList ≠ [48])) → numV s.data.toList = 0 ∧ numE s.data.toList = 12 := fun hc => by
    unfold numV numE; rw [FIN.out, if_pos hc]; exact ⟨rfl, rfl⟩
  have no : ¬ (19 < (c :: r).length ∨ (c.toNat = 48 ∧ s.data.toList ≠ [48])) → numV s.data.toList = v ∧ numE s.data.toList = 0 := fun hc => by
    unfold numV numE; rw [FIN.out, if_neg hc]; exact ⟨rfl, rfl⟩
  have YES := Lib.hid yes
  have NO := Lib.hid no
  clear yes no H
  go_enter Tryd.func22, Tryd.ntmps22
  go_wp2_with (first | (go_at_call 39; refine (Tryd.strings_TrimPrefix _ _ _).mono ?_; rintro e w' ⟨rfl, rfl⟩) | (go_at_call 40; refine CP.out.mono ?_; rintro e w' ⟨rfl, hb⟩))
  · go_ret2
    obtain ⟨e1, e2⟩ := YES.out (.inl (by simp only [List.length_cons]; omega))
    exact ⟨ret_ii e1 e2, bytesWorld_below hb⟩
  · have h48 : (c.toNat : Int) = 48 := by assumption
    have hne : (!s.toList == [48]) = true := by assumption
    go_ret2
    rw [Lib.toList_data] at hne
    obtain ⟨e1, e2⟩ := YES.out (.inr ⟨by omega, by simpa using hne⟩)
    exact ⟨ret_ii e1 e2, bytesWorld_below hb⟩
  · have hne : (!s.toList == [48]) = false := by assumption
    go_ret2
    rw [Lib.toList_data] at hne
    have hne' : s.data.toList = [48] := by simpa using hne
    obtain ⟨e1, e2⟩ := NO.out (by simp only [List.length_cons]; exact fun hh => hh.elim (fun h => by omega) (fun h => h.2 hne'))
    exact ⟨ret_ii e1 e2, bytesWorld_below hb⟩
  · have h48 : ¬ (c.toNat : Int) = 48 := by assumption
    go_ret2
    obtain ⟨e1, e2⟩ := NO.out (by simp only [List.length_cons]; omega)
    exact ⟨ret_ii e1 e2, bytesWorld_below hb⟩

/-- number, at whatever text -/
theorem number_any (s : ByteArray) (w : World) (hT : Tabs w) (hs : s.size ≤ 281474976710656) :
    Calls Tryd.prog 22 #[.string s] w fun e w' => e = .returned (.tuple #[.int .i64 (numV s.data.toList), .int .i64 (numE s.data.toList)]) ∧ Below w.heap.size w w' := by
  cases h : Lib.parseIntB 64 s.data.toList with
  | ok v => exact number_ok s w v hs h
  | range =>
    have e : numS s.data.toList = none := by unfold numS; rw [h]
    have e1 : numV s.data.toList = 0 := by unfold numV; rw [e]; rfl
    have e2 : numE s.data.toList = 12 := by unfold numE; rw [e]; rfl
    rw [e1, e2]
    exact number_bad s w hT hs (.inr h)
  | _ =>
    have e : numS s.data.toList = none := by unfold numS; rw [h]
    have e1 : numV s.data.toList = 0 := by unfold numV; rw [e]; rfl
    have e2 : numE s.data.toList = 12 := by unfold numE; rw [e]; rfl
    rw [e1, e2]
    exact number_bad s w hT hs (.inl h)
end Go.Proofs.YthogialdoikanaaDoor
