/- walks: the answer's own Part, but for what stands behind a backslash. -/
import Derived.Test.YthogialdoikanaaDoorZ5
import Derived.Lib.ConvBytes
import Derived.Lib.UnsafeStr
namespace Go.Proofs.YthogialdoikanaaDoor
open Go.RowKit

/-- behind backslash and u -/
def partU (v : List UInt8) : Int × List UInt8 × Nat :=
  match fourS v with
  | none => (4, [], 0)
  | some x =>
    match fourS (v.drop 6) with
    | none => if 55296 ≤ x ∧ x ≤ 57343 then (11, [], 0) else (0, Lib.encodeRune x, 6)
    | some y =>
      if (55296 ≤ x ∧ x ≤ 56319) ∧ Lib.hasPrefix (v.drop 4) [92, 117] = true ∧ (56320 ≤ y ∧ y ≤ 57343) then (0, Lib.encodeRune (65536 + ((x : Int) - 55296) * 1024 + y - 56320), 12)
      else if 55296 ≤ x ∧ x ≤ 57343 then (11, [], 0) else (0, Lib.encodeRune x, 6)
/-- one step within a quoted text: the error (-1: the end), the bytes, how many bytes it takes -/
def partR (l : List UInt8) : Int × List UInt8 × Nat :=
  match l with
  | [] => (4, [], 0)
  | b :: t =>
    if b.toNat = 34 then (-1, [], 1)
    else if b.toNat = 92 then
      match t with
      | [] => (4, [], 0)
      | c :: v => match longS c.toNat with
        | some d => (0, [d.toUInt8], 2)
        | none => if c.toNat = 117 then partU v else (4, [], 0)
    else if b.toNat < 32 then (4, [], 0)
    else match nextR (b :: t) with
      | none => (11, [], 0)
      | some (_, n) => (0, (b :: t).take n, n)

/-- a slice that shows these bytes -/
def ShowsBytes (w : World) (x : Value) (bs : List UInt8) : Prop := ∃ (ad : Addr) (c : Nat), x = .slice (some ad) bs.length c ∧ ∀ j u, (Lib.byteCells bs)[j]? = some u → w.cell? (ad.add j) = some u
def PartPost (r : Int × List UInt8 × Nat) (k : Nat) (w : World) (e : Ending) (w' : World) : Prop :=
  Below w.heap.size w w' ∧ (r.1 ≠ 0 → e = .returned (.tuple #[.slice none 0 0, .int .i64 (if r.1 = -1 then (k : Int) + 1 else 0), .int .i64 r.1])) ∧
  (r.1 = 0 → ∃ x, e = .returned (.tuple #[x, .int .i64 ((k + r.2.2 : Nat) : Int), .int .i64 0]) ∧ ShowsBytes w' x r.2.1)
theorem part_err {r : Int × List UInt8 × Nat} {k : Nat} {w w' : World} {c : Int} (h : r.1 = c) (h0 : c ≠ 0) (h1 : c ≠ -1) (hb : Below w.heap.size w w') : PartPost r k w (.returned (.tuple #[.slice none 0 0, .int .i64 0, .int .i64 c])) w' := by
  subst h
  exact ⟨hb, fun _ => by rw [if_neg h1], fun h => absurd h h0⟩
theorem part_end {r : Int × List UInt8 × Nat} {k : Nat} {w : World} {p : Int} (h : r.1 = -1) (hp : p = (k : Int) + 1) : PartPost r k w (.returned (.tuple #[.slice none 0 0, .int .i64 p, .int .i64 (-1)])) w := by
  subst hp
  exact ⟨Below.refl _ _, fun _ => by rw [h]; rfl, fun h2 => by rw [h] at h2; cases h2⟩
theorem part_yes {r : Int × List UInt8 × Nat} {k n : Nat} {bs : List UInt8} {w w' : World} {x : Value} {p : Int} (h : r = (0, bs, n)) (hp : p = ((k + n : Nat) : Int)) (hb : Below w.heap.size w w') (ho : ShowsBytes w' x bs) :
    PartPost r k w (.returned (.tuple #[x, .int .i64 p, .int .i64 0])) w' := by
  subst h; subst hp
  exact ⟨hb, fun h => absurd rfl h, fun _ => ⟨x, rfl, ho⟩⟩

set_option maxHeartbeats 2000000 in
set_option maxRecDepth 100000 in
theorem part_out (s : ByteArray) (k : Nat) (w : World) (hk : s.size ≤ k) (_hs : k ≤ 1000000000000000000) : Calls Tryd.prog 45 #[.string s, .int .i64 k] w (PartPost (partR (s.data.toList.drop k)) k w) := by
  have hr : (partR (s.data.toList.drop k)).1 = 4 := by
    rw [List.drop_eq_nil_of_le (by rw [← Lib.size_eq]; exact hk)]; rfl
  have HR := Lib.hid hr
  clear hr
  go_enter Tryd.func45, Tryd.ntmps45
  go_wp2
  go_ret3
  exact part_err HR.out (by decide) (by decide) (Below.refl _ _)

set_option maxHeartbeats 2000000 in
set_option maxRecDepth 100000 in
theorem part_quote (s : ByteArray) (k : Nat) (w : World) (hk : k < s.size) (hs : s.size ≤ 1000000000000000000) (h : (s[k]'hk).toNat = 34) : Calls Tryd.prog 45 #[.string s, .int .i64 k] w (PartPost (partR (s.data.toList.drop k)) k w) := by
  have hr : (partR (s.data.toList.drop k)).1 = -1 := by
    rw [drop_at s k hk]; simp only [partR]; rw [if_pos h]
  have HR := Lib.hid hr
  have t34 : ((s[k].toNat : Int) == 34) = true := by rw [beq_iff_eq]; omega
  clear hr
  go_enter Tryd.func45, Tryd.ntmps45
  go_wp2
  go_ret3
  exact part_end HR.out (by omega)

set_option maxHeartbeats 2000000 in
set_option maxRecDepth 100000 in
theorem part_small (s : ByteArray) (k : Nat) (w : World) (hk : k < s.size) (_hs : s.size ≤ 1000000000000000000) (h : (s[k]'hk).toNat < 32) : Calls Tryd.prog 45 #[.string s, .int .i64 k] w (PartPost (partR (s.data.toList.drop k)) k w) := by
  have hr : (partR (s.data.toList.drop k)).1 = 4 := by
    rw [drop_at s k hk]; simp only [partR]; rw [if_neg (by omega), if_neg (by omega), if_pos h]
  have HR := Lib.hid hr
  have n34 : ((s[k].toNat : Int) == 34) = false := by rw [beq_eq_false_iff_ne]; omega
  have n92 : ((s[k].toNat : Int) == 92) = false := by rw [beq_eq_false_iff_ne]; omega
  have m92 : ((s[k].toNat : Int) != 92) = true := by rw [bne, n92]; rfl
  clear hr
  go_enter Tryd.func45, Tryd.ntmps45
  go_wp2
  go_ret3
  exact part_err HR.out (by decide) (by decide) (Below.refl _ _)
theorem byteCells_at (bs : List UInt8) (j : Nat) (u : Value) (h : (Lib.byteCells bs)[j]? = some u) : ∃ hj : j < bs.length, u = .int .u8 ((bs[j]'hj).toNat : Int) := by
  unfold Lib.byteCells at h
  rw [List.getElem?_map] at h
  rcases Nat.lt_or_ge j bs.length with hj | hj
  · rw [List.getElem?_eq_getElem hj] at h
    exact ⟨hj, by simpa using h.symm⟩
  · rw [List.getElem?_eq_none hj] at h; cases h
theorem add_zero_at (g j : Nat) : ((⟨g, 0, none⟩ : Addr).add j) = ⟨g, j, none⟩ := by
  unfold Addr.add
  split
  · rename_i h; rw [h]
  · simp
theorem shows_fresh (w : World) (bs : List UInt8) (T : TypeId) : ShowsBytes (w.alloc (.cells (Lib.byteCells bs).toArray T)) (.slice (some ⟨w.heap.size, 0, none⟩) bs.length bs.length) bs := ⟨_, _, rfl, news_new _ _ _⟩
theorem shows_own {w : World} {B : Nat} {x : Value} {bs : List UInt8} (h : OwnBytes w B x bs) (hne : bs ≠ []) : ShowsBytes w x bs := by
  obtain ⟨h1, h2 | ⟨g, cap, cur, hv, hb, hg, h3, h4, h5, h6⟩⟩ := h
  · exact absurd (List.eq_nil_of_length_eq_zero h2.2) hne
  · refine ⟨_, _, hv, fun j u hj => ?_⟩
    rw [add_zero_at]
    rw [← h6, List.getElem?_take] at hj
    split at hj
    · unfold World.cell?
      rw [hg]
      simpa using hj
    · cases hj
theorem shows_text (w : World) (s : ByteArray) (bs : List UInt8) (n : Nat) (h : s.data.toList = bs) (hn : s.size = n) : ShowsBytes (Lib.bytesWorld w 5 s) (.slice (some ⟨w.heap.size, 0, none⟩) n (grownCap w n 0 5)) bs := by
  subst h; subst hn
  refine ⟨⟨w.heap.size, 0, none⟩, grownCap w s.size 0 5, by rw [← Lib.size_eq], fun j u hj => ?_⟩
  rw [add_zero_at]
  obtain ⟨hl, rfl⟩ := byteCells_at _ j u hj
  have hl2 : j < s.size := by rw [Lib.size_eq]; exact hl
  rw [Lib.bytesWorld_cell w 5 s j hl2]
  rw [List.getD, List.getElem?_eq_getElem hl]
  rfl
theorem below_text (w : World) (s : ByteArray) : Below w.heap.size w (Lib.bytesWorld w 5 s) := by
  unfold Lib.bytesWorld
  exact Lib.below_freeze ((Below.refl _ w).drew.alloc (Nat.le_refl _) _) (Nat.le_refl _) _

set_option maxHeartbeats 4000000 in
set_option maxRecDepth 100000 in
theorem part_other (s : ByteArray) (k : Nat) (w : World) (hk : k < s.size) (hs : s.size ≤ 1000000000000000000) (h1 : ¬ (s[k]'hk).toNat < 32) (h2 : (s[k]'hk).toNat ≠ 34) (h3 : (s[k]'hk).toNat ≠ 92) : Calls Tryd.prog 45 #[.string s, .int .i64 k] w (PartPost (partR (s.data.toList.drop k)) k w) := by
  have hd := drop_at s k hk
  have hr : partR (s.data.toList.drop k) = match nextR (s.data.toList.drop k) with
      | none => (11, [], 0)
      | some (_, n) => (0, (s.data.toList.drop k).take n, n) := by
    rw [hd]; simp only [partR]; rw [if_neg h2, if_neg h3, if_neg h1]
  have n34 : ((s[k].toNat : Int) == 34) = false := by rw [beq_eq_false_iff_ne]; omega
  have n92 : ((s[k].toNat : Int) == 92) = false := by rw [beq_eq_false_iff_ne]; omega
  have m92 : ((s[k].toNat : Int) != 92) = true := by rw [bne, n92]; rfl
  cases hn : nextR (s.data.toList.drop k) with
  | none =>
    rw [hn] at hr
    simp only at hr
    have HN := Lib.hid hn
    have HR := Lib.hid (show (partR (s.data.toList.drop k)).1 = 11 by rw [hr])
    clear hr hn hd
    go_enter Tryd.func45, Tryd.ntmps45
    go_wp2_with (go_at_call 60; refine (next_any s k _ hk hs).mono ?_; rintro e w1 ⟨he, rfl⟩; have he2 := HN.out ▸ he; obtain ⟨a, b, rfl⟩ := he2)
    go_ret3
    exact part_err HR.out (by decide) (by decide) (Below.refl _ _)
  | some x =>
    obtain ⟨v, n⟩ := x
    rw [hn] at hr
    simp only at hr
    have hnb := nextR_some (hd ▸ hn)
    have hn1 := hnb.1
    have hn2 := hnb.2.1
    rw [← hd, List.length_drop, ← Lib.size_eq] at hn2
    have hkn : k + n ≤ s.size := by omega
    have hx : (s.extract k (k + n)).data.toList = (s.data.toList.drop k).take n := by rw [ext_list]; congr 1; omega
    have HN := Lib.hid hn
    have HR := Lib.hid hr
    have HX := Lib.hid hx
    clear hr hn hd hnb hx hn2
    have hcv := Lib.run_convert_string_bytes (P := Tryd.prog) w 9 39 5 (s.extract k (k + n)) Tryd.underlying9 Tryd.underlying39 Tryd.underlying5
    go_enter Tryd.func45, Tryd.ntmps45
    go_wp2_with (go_at_call 60; refine (next_any s k _ hk hs).mono ?_; rintro e w1 ⟨he, rfl⟩; have he2 : e = _ := HN.out ▸ he; subst he2)
    go_ret3
    exact part_yes HR.out (by omega) (below_text w _) (shows_text w _ _ n HX.out (by rw [Lib.size_eq, HX.out, List.length_take, List.length_drop, ← Lib.size_eq]; omega))
end Go.Proofs.YthogialdoikanaaDoor
