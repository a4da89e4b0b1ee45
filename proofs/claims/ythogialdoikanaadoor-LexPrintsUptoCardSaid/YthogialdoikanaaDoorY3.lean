/- walk: the text of whatever token. -/
import Derived.Test.YthogialdoikanaaDoorY2
import Derived.Test.YthogialdoikanaaDoorP1
namespace Go.Proofs.YthogialdoikanaaDoor
open Go.RowKit

theorem quote_any (s : ByteArray) (w : World) (hT : Tabs w) (hs : s.size ≤ 17592186044416) : Calls Tryd.prog 47 #[.string s] w (TextPost (quoteS s.data.toList) w) := by
  cases hv : Lib.validD s.data.toList with
  | true => exact quote_ok s w hT hs hv
  | false => exact quote_bad s w hT (by omega) hv

set_option maxHeartbeats 2000000 in
set_option maxRecDepth 100000 in
theorem text_quoted (P : Int) (S : List UInt8) (w : World) (hT : Tabs w) (hS : S.length ≤ 17592186044416) : Calls Tryd.prog 30 #[tokV ⟨3, S, 0, P⟩] w (TextPost (quoteS S) w) := by
  have hb := below_alloc w (.cells #[.int .i64 3, .string ⟨S.toArray⟩, .int .i64 0, .int .i64 P] 29)
  have hq := fun (W : World) (hW : Tabs W) => quote_any ⟨S.toArray⟩ W hW (by rw [Lib.size_eq]; exact hS)
  have HQ := Lib.hid hq
  clear hq
  unfold tokV
  go_enter Tryd.func30, Tryd.ntmps30
  go_wp2
  go_quiet (fail)
  go_wp2_with fail
  refine (HQ.out _ (hT.here (below_dr hb _))).mono ?_
  rintro e w2 ⟨rfl, hb2⟩
  have hbf := (below_dr hb nq).trans (hb2.mono (by simp))
  go_wp2
  go_ret2
  exact ⟨rfl, hbf⟩

/-- the text of whatever token -/
theorem text_any (t : Tok) (hn : In64 t.n) (hs : t.s.length ≤ 17592186044416) : TextOK t := fun w hT => by
  by_cases hk : t.k = 3 ∧ t.n = 0
  · obtain ⟨K, S, N, P⟩ := t
    obtain ⟨rfl, rfl⟩ := hk
    have e : textS ⟨3, S, 0, P⟩ = quoteS S := by simp [textS]
    rw [e]
    exact text_quoted P S w hT hs
  · exact text_plain t w hT hn hk
end Go.Proofs.YthogialdoikanaaDoor
