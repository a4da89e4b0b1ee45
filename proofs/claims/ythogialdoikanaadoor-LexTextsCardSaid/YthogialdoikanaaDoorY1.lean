/- walks: what a strings.Builder's writers do, over this program. -/
import Derived.Test.YthogialdoikanaaDoorT1
import Derived.Lib.FrozenHead2
import Derived.Lib.OthersKept
import Derived.OwnWalk
namespace Go.Proofs.YthogialdoikanaaDoor
open Go.RowKit

theorem bld_size : (Tryd.prog.info? 79).map (·.size) = some 2 := by kernel_rfl
theorem bld_lies : liesAt Tryd.prog Tryd.prog.depth 79 (2 / Tryd.prog.cellsOf 79) 0 79 1 = true := by kernel_rfl

set_option maxHeartbeats 1000000 in
set_option maxRecDepth 100000 in
theorem check_used (b : Nat) (w : World) (h : w.cell? ⟨b, 0, none⟩ = some (.pointer (some ⟨b, 0, none⟩))) :
    Calls Tryd.prog 68 #[.pointer (some ⟨b, 0, none⟩)] w fun e w' => e = .returned (.tuple #[]) ∧ w' = w := by
  obtain ⟨j, hj, _⟩ := Option.map_eq_some_iff.1 bld_size
  go_enter Tryd.func68, Tryd.ntmps68
  go_wp2
  rw [Lib.run_neq_ptr_same w _ Tryd.underlying77 hj]
  go_wp2
  go_end0
  exact ⟨rfl, rfl⟩
set_option maxHeartbeats 1000000 in
set_option maxRecDepth 100000 in
theorem check_fresh (b : Nat) (w : World) (h : w.cell? ⟨b, 0, none⟩ = some (.pointer none)) (hs : w.shape? b = some (79, 2)) (hf : w.frozen? ⟨b, 0, none⟩ = false) :
    Calls Tryd.prog 68 #[.pointer (some ⟨b, 0, none⟩)] w fun e w' => e = .returned (.tuple #[]) ∧ w' = w.setCell ⟨b, 0, none⟩ (.pointer (some ⟨b, 0, none⟩)) := by
  obtain ⟨j, hj, hjs⟩ := Option.map_eq_some_iff.1 bld_size
  go_enter Tryd.func68, Tryd.ntmps68
  go_wp2
  rw [Lib.run_to_unsafe w ⟨b, 0, none⟩ Tryd.underlying77 Tryd.underlying115 hj (by rw [hjs]; decide) hs (Nat.zero_lt_succ 1)]
  simp only [Result.andThen]
  rw [Oper.upon_value]
  go_wp2
  rw [run_callFunc_extern Tryd.func80 (by kernel_rfl) (by kernel_rfl) (by kernel_rfl) (e := Extern.AbiNoEscape.same) (by kernel_rfl)]
  rw [Lib.run_noEscape]
  simp only [Result.andThen]
  rw [Oper.upon_value]
  go_wp2
  rw [Lib.run_from_unsafe w ⟨b, 0, none⟩ Tryd.underlying115 Tryd.underlying77 hj hs bld_lies]
  simp only [Result.andThen]
  rw [Oper.upon_value]
  go_wp2
  go_end0
  exact ⟨rfl, rfl⟩

/-- a Builder of the call's own at block b, fresh or used: its bytes -/
def Bld (B b : Nat) (l : List UInt8) (w : World) : Prop := Lib.IsBuilderF 79 5 B b (Lib.byteCells l) w
/-- behind a write: its bytes; what else has stayed -/
def BldPost (B b : Nat) (l : List UInt8) (w w' : World) : Prop := Bld B b l w' ∧ Below B w w' ∧ Lib.OthersKept 5 (some b) w w'

theorem check_any (B b : Nat) (bs : List Value) (w : World) (h : Lib.IsBuilderF 79 5 B b bs w) :
    Calls Tryd.prog 68 #[.pointer (some ⟨b, 0, none⟩)] w fun e w' => e = .returned (.tuple #[]) ∧ (Lib.BuilderAtF 79 5 B b (.pointer (some ⟨b, 0, none⟩)) bs w' ∧ Below B w w' ∧ Lib.OthersKept 5 (some b) w w') := by
  rcases h with h | h
  · refine (check_fresh b w h.cell0 h.shape h.frozen0).mono ?_
    rintro e w' ⟨rfl, rfl⟩
    exact ⟨rfl, h.used _, (Below.refl B w).setCell (p := ⟨b, 0, none⟩) h.1 _, (Lib.OthersKept.refl _ _ w).setCell ⟨b, 0, none⟩ rfl _⟩
  · refine (check_used b w h.cell0).mono ?_
    rintro e w' ⟨rfl, rfl⟩
    exact ⟨rfl, h, Below.refl B _, Lib.OthersKept.refl _ _ _⟩

/-- what such a block holds -/
theorem bld_open {B b : Nat} {bs : List Value} {w : World} (h : Lib.BuilderAtF 79 5 B b (.pointer (some ⟨b, 0, none⟩)) bs w) :
    B ≤ b ∧ b < w.heap.size ∧ ∃ ao cap, w.heap[b]? = some (.cells #[.pointer (some ⟨b, 0, none⟩), .slice ao bs.length cap] 79 (0, 0)) ∧ w.ownsRowF B 5 1 (.slice ao bs.length cap) bs.length bs ∧ (Value.slice ao bs.length cap).ownBlock ≠ some b ∧
      w.cell? ⟨b, 0, none⟩ = some (.pointer (some ⟨b, 0, none⟩)) ∧ w.cell? ⟨b, 1, none⟩ = some (.slice ao bs.length cap) ∧ w.frozen? ⟨b, 1, none⟩ = false := by
  obtain ⟨hB, v, hbk, hown, hne⟩ := h
  obtain ⟨ao, cap, rfl⟩ : ∃ ao cap, v = .slice ao bs.length cap := by
    rcases hown.2 with ⟨hv, h0⟩ | ⟨g, cap, cur, fz, hv, _⟩
    · exact ⟨none, 0, by rw [hv, h0]⟩
    · exact ⟨_, _, hv⟩
  refine ⟨hB, ?_, ao, cap, hbk, hown, hne, by rw [Lib.cell_of_heap hbk]; rfl, by rw [Lib.cell_of_heap hbk]; rfl, Lib.frozen_of_heap hbk 1⟩
  rcases Nat.lt_or_ge b w.heap.size with h' | h'
  · exact h'
  · simp [Array.getElem?_eq_none h'] at hbk

set_option maxHeartbeats 2000000 in
set_option maxRecDepth 100000 in
theorem writeByte_any (B b : Nat) (l : List UInt8) (c : UInt8) (w : World) (h : Bld B b l w) (hlen : l.length + 1 ≤ 140737488355328) (hBw : B ≤ w.heap.size) :
    Calls Tryd.prog 65 #[.pointer (some ⟨b, 0, none⟩), .int .u8 (c.toNat : Int)] w fun e w' => e = .returned .nilIface ∧ BldPost B b (l ++ [c]) w w' := by
  obtain ⟨i0, hi, hz0, hz1, hz2⟩ := info_parts byte_info
  have CK := Lib.hid (check_any B b _ w h)
  have hbl : (Lib.byteCells l).length = l.length := Lib.byteCells_length l
  have HBL := Lib.hid hbl
  clear h hbl
  go_enter Tryd.func65, Tryd.ntmps65
  go_wp2_with fail
  refine CK.out.mono ?_
  rintro e w1 ⟨rfl, h1, hb1, hk1⟩
  obtain ⟨hB, hlt, ao, cap, hbk, hown, hne, c0, c1, f1⟩ := bld_open h1
  have HBK := Lib.hid hbk
  clear hbk h1
  go_wp2_with (at_builtin; refine wpList_append_ownF _ rfl _ _ 39 rfl B 5 i0 (.int .u8 0) 1 1 Tryd.underlying39 hi hz0 hz1 hz2 rfl (by decide) _ _ _ rfl (hown.alloc _) ⟨w1.heap.size, 0, none⟩ 1 1 [.int .u8 (c.toNat : Int)] rfl rfl ?c1 ?c2 ?c3 ?c4 ?c5 ?_)
  case c1 =>
    intro j u hj
    match j, hj with
    | 0, hj => simp at hj; subst hj; simp [Addr.add]
  case c2 => intro u hu; simp at hu; subst hu; rfl
  case c3 => have := HBL.out; unfold maxLen; omega
  case c4 => have := HBL.out; omega
  case c5 => have := hb1.size; simp; omega
  intro v' w2 hown' hgrow _
  have hb2 : w2.heap[b]? = some (.cells #[.pointer (some ⟨b, 0, none⟩), .slice ao (Lib.byteCells l).length cap] 79 (0, 0)) := by
    rw [hgrow.block b (by simp; omega) (fun e => hne e.symm), Lib.alloc_old w1 _ b hlt]
    exact HBK.out
  have d0 : w2.cell? ⟨b, 0, none⟩ = some (.pointer (some ⟨b, 0, none⟩)) := by rw [Lib.cell_of_heap hb2]; rfl
  have d1 : w2.cell? ⟨b, 1, none⟩ = some (.slice ao (Lib.byteCells l).length cap) := by rw [Lib.cell_of_heap hb2]; rfl
  have g1 : w2.frozen? ⟨b, 1, none⟩ = false := Lib.frozen_of_heap hb2 1
  obtain ⟨g, cap', rfl⟩ : ∃ g cap', v' = .slice (some ⟨g, 0, none⟩) ((Lib.byteCells l).length + 1) cap' := by
    rcases hown'.2 with ⟨_, h0⟩ | ⟨g, cap', cur, fz, hv, _⟩
    · omega
    · exact ⟨g, cap', hv⟩
  have HB2 := Lib.hid hb2
  clear hb2
  go_wp2
  go_ret
  refine ⟨rfl, .inr ?_, ?_, ((hk1.alloc _).grown hgrow (Lib.ownsRowF_kind (hown.alloc _))).setCell ⟨b, 1, none⟩ rfl _⟩
  · have e : Lib.byteCells (l ++ [c]) = Lib.byteCells l ++ [.int .u8 (c.toNat : Int)] := by unfold Lib.byteCells; rw [List.map_append]; rfl
    rw [e]
    exact Lib.BuilderAtF.put hB HB2.out (by simpa using hown') (by decide)
  · exact ((hb1.alloc (by have := hb1.size; omega) _).grown hgrow (by have := hb1.size; simp; omega) (fun k hk => (hown.lt k hk).1)).setCell (p := ⟨b, 1, none⟩) hB _

set_option maxHeartbeats 2000000 in
set_option maxRecDepth 100000 in
theorem writeString_any (B b : Nat) (l : List UInt8) (s : ByteArray) (w : World) (h : Bld B b l w) (hlen : l.length + s.size ≤ 140737488355328) (hBw : B ≤ w.heap.size) :
    Calls Tryd.prog 49 #[.pointer (some ⟨b, 0, none⟩), .string s] w fun e w' => (∃ v, e = .returned v) ∧ BldPost B b (l ++ s.data.toList) w w' := by
  obtain ⟨i0, hi, hz0, hz1, hz2⟩ := info_parts byte_info
  have CK := Lib.hid (check_any B b _ w h)
  have hbl : (Lib.byteCells l).length = l.length := Lib.byteCells_length l
  have HBL := Lib.hid hbl
  clear h hbl
  go_enter Tryd.func49, Tryd.ntmps49
  go_wp2_with fail
  refine CK.out.mono ?_
  rintro e w1 ⟨rfl, h1, hb1, hk1⟩
  obtain ⟨hB, hlt, ao, cap, hbk, hown, hne, c0, c1, f1⟩ := bld_open h1
  have HBK := Lib.hid hbk
  clear hbk h1
  go_wp2_with (at_builtin; refine Lib.wpList_append_own_stringF _ rfl _ _ 39 9 rfl B 5 i0 Tryd.underlying39 Tryd.underlying9 hi hz0 hz1 hz2 _ _ _ rfl hown s rfl ?c3 ?c4 ?c5 ?_)
  case c3 => have := HBL.out; unfold maxLen; omega
  case c4 => have := HBL.out; omega
  case c5 => have := hb1.size; omega
  intro v' w2 hown' hgrow _
  have hb2 : w2.heap[b]? = some (.cells #[.pointer (some ⟨b, 0, none⟩), .slice ao (Lib.byteCells l).length cap] 79 (0, 0)) := by
    rw [hgrow.block b hlt (fun e => hne e.symm)]
    exact HBK.out
  have d0 : w2.cell? ⟨b, 0, none⟩ = some (.pointer (some ⟨b, 0, none⟩)) := by rw [Lib.cell_of_heap hb2]; rfl
  have d1 : w2.cell? ⟨b, 1, none⟩ = some (.slice ao (Lib.byteCells l).length cap) := by rw [Lib.cell_of_heap hb2]; rfl
  have g1 : w2.frozen? ⟨b, 1, none⟩ = false := Lib.frozen_of_heap hb2 1
  obtain ⟨ao', n', cap', rfl⟩ : ∃ ao' n' cap', v' = .slice ao' n' cap' := by
    rcases hown'.2 with ⟨hv, _⟩ | ⟨g, cap', cur, fz, hv, _⟩
    · exact ⟨_, _, _, hv⟩
    · exact ⟨_, _, _, hv⟩
  have HB2 := Lib.hid hb2
  clear hb2
  go_wp2
  go_ret2
  refine ⟨⟨_, rfl⟩, .inr ?_, ?_, (hk1.grown hgrow (Lib.ownsRowF_kind hown)).setCell ⟨b, 1, none⟩ rfl _⟩
  · have e : Lib.byteCells (l ++ s.data.toList) = Lib.byteCells l ++ Lib.strCells s := by unfold Lib.byteCells Lib.strCells; rw [List.map_append]
    rw [e]
    exact Lib.BuilderAtF.put hB HB2.out (by simpa [Lib.strCells_length] using hown') (by decide)
  · exact (hb1.grown hgrow (by have := hb1.size; omega) (fun k hk => (hown.lt k hk).1)).setCell (p := ⟨b, 1, none⟩) hB _

set_option maxHeartbeats 2000000 in
set_option maxRecDepth 100000 in
theorem writeRune_any (B b : Nat) (l : List UInt8) (r : Int) (hr0 : 0 ≤ r) (hr1 : r ≤ 1114111) (w : World) (h : Bld B b l w) (hlen : l.length + 4 ≤ 140737488355328) (hBw : B ≤ w.heap.size) :
    Calls Tryd.prog 67 #[.pointer (some ⟨b, 0, none⟩), .int .i32 r] w fun e w' => (∃ v, e = .returned v) ∧ BldPost B b (l ++ Lib.encodeRune r) w w' := by
  have CK := Lib.hid (check_any B b _ w h)
  have hbl : (Lib.byteCells l).length = l.length := Lib.byteCells_length l
  have HBL := Lib.hid hbl
  have hk4 := Lib.runeCells_le r
  clear h hbl
  go_enter Tryd.func67, Tryd.ntmps67
  go_wp2_with fail
  refine CK.out.mono ?_
  rintro e w1 ⟨rfl, h1, hb1, hk1⟩
  obtain ⟨hB, hlt, ao, cap, hbk, hown, hne, c0, c1, f1⟩ := bld_open h1
  have HBK := Lib.hid hbk
  clear hbk h1
  have HAP := Lib.hid (Tryd.utf8_AppendRune_row B _ _ _ r (by omega) (by omega) w1 hown (by have := HBL.out; omega) (by have := hb1.size; omega))
  go_wp2_with fail
  refine HAP.out.mono ?_
  rintro e w2 ⟨v', rfl, hown', o, hgrow⟩
  have hb2 : w2.heap[b]? = some (.cells #[.pointer (some ⟨b, 0, none⟩), .slice ao (Lib.byteCells l).length cap] 79 (0, 0)) := by
    rw [hgrow.block b (by simp; omega) (fun e => hne e.symm), Lib.alloc_old w1 _ b hlt]
    exact HBK.out
  have d0 : w2.cell? ⟨b, 0, none⟩ = some (.pointer (some ⟨b, 0, none⟩)) := by rw [Lib.cell_of_heap hb2]; rfl
  have d1 : w2.cell? ⟨b, 1, none⟩ = some (.slice ao (Lib.byteCells l).length cap) := by rw [Lib.cell_of_heap hb2]; rfl
  have g1 : w2.frozen? ⟨b, 1, none⟩ = false := Lib.frozen_of_heap hb2 1
  obtain ⟨ao', n', cap', rfl⟩ : ∃ ao' n' cap', v' = .slice ao' n' cap' := by
    rcases hown'.2 with ⟨hv, _⟩ | ⟨g, cap', cur, fz, hv, _⟩
    · exact ⟨_, _, _, hv⟩
    · exact ⟨_, _, _, hv⟩
  have HB2 := Lib.hid hb2
  have hown2 := Lib.hid hown'
  clear hb2 hown'
  go_wp2
  go_ret2
  refine ⟨⟨_, rfl⟩, .inr ?_, ?_, ((hk1.alloc _).grown hgrow (Lib.ownsRowF_kind (hown.alloc _))).setCell ⟨b, 1, none⟩ rfl _⟩
  · have e : Lib.byteCells (l ++ Lib.encodeRune r) = Lib.byteCells l ++ Lib.runeCells r := by
      have := Lib.byteCells_encodeRune r
      rw [← this]; unfold Lib.byteCells; rw [List.map_append]
    rw [e]
    exact Lib.BuilderAtF.put hB HB2.out (by simpa using hown2.out) (by decide)
  · exact ((hb1.alloc (by have := hb1.size; omega) _).grown hgrow (by have := hb1.size; simp; omega) (fun k hk => (hown.lt k hk).1)).setCell (p := ⟨b, 1, none⟩) hB _
end Go.Proofs.YthogialdoikanaaDoor
