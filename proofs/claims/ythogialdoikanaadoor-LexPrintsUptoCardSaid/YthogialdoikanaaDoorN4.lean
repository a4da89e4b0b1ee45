/- walk: LexPrints. -/
import Derived.Test.YthogialdoikanaaDoorZ4
import Derived.Test.YthogialdoikanaaDoorL1
namespace Go.Proofs.YthogialdoikanaaDoor
open Go.RowKit

set_option maxHeartbeats 4000000 in
set_option maxRecDepth 100000 in
theorem prints_any (HL : LexOK) (w : World) (hT : Tabs w) (A : Option Addr) (ca : Nat) (l : List Tok) (hA : HasToks w w.heap.size A l) (hl : l.length ≤ 1048576) (hs : ∀ t ∈ l, t.s.length ≤ 1048576 ∧ In64 t.n) :
    Calls Tryd.prog 5 #[.slice A l.length ca] w fun e w' => e = .returned (.bool true) ∧ Below w.heap.size w w' := by
  have AW := Lib.hid (fun W (hW : Tabs W) => awake_any HL W hW)
  have P1 := print_any w hT A ca l hA hl (fun t ht => by have h := hs t ht; have := textS_len t h.2; omega) (fun t ht => text_any t (hs t ht).2 (by have := (hs t ht).1; omega))
  have P2 := fun (W : World) (hW : Tabs W) (h : HasToks W W.heap.size A l) => rprint_any W hW A ca l h hl hs
  generalize printS l = R at P1 P2
  obtain ⟨E, X⟩ := R
  have HP1 := Lib.hid P1
  have HP2 := Lib.hid P2
  have HA := Lib.hid hA
  clear P1 P2 hA hs HL
  generalize l.length = n at *
  go_enter Tryd.func5, Tryd.ntmps5
  go_wp2_with fail
  refine HP1.out.mono ?_
  rintro e w1 ⟨rfl, hb1⟩
  go_wp2_with fail
  refine (HP2.out _ (hT.here hb1) ((HA.out.below hb1).more hb1.size)).mono ?_
  rintro e w2 ⟨rfl, hb2'⟩
  have hb2 := hb1.trans (hb2'.mono hb1.size)
  go_wp2_with fail
  refine (AW.out _ (hT.here hb2)).mono ?_
  rintro e w3 ⟨rfl, hb3'⟩
  have hb3 := hb2.trans (hb3'.mono hb2.size)
  go_wp2
  go_ret
  exact ⟨rfl, hb3⟩
end Go.Proofs.YthogialdoikanaaDoor
