/- walk: Lex, at whatever text. -/
import Derived.Test.YthogialdoikanaaDoorV1
import Derived.Test.YthogialdoikanaaDoorL1
namespace Go.Proofs.YthogialdoikanaaDoor
open Go.RowKit

set_option maxHeartbeats 1000000 in
set_option maxRecDepth 100000 in
theorem lex_big (s : ByteArray) (w : World) (hs : 8192 < s.size) : Calls Tryd.prog 9 #[.string s] w (LexPost s w) := by
  have hlex : lexS s.data.toList = ([], 0, 2) := by
    unfold lexS; rw [if_pos (by rw [← Lib.size_eq]; omega)]
  have HLEX := Lib.hid hlex
  clear hlex
  go_enter Tryd.func9, Tryd.ntmps9
  go_wp2
  refine wp_scope_straight ?_
  go_wp2
  rw [Exit.noGoto_ret]
  go_ret3
  exact lex_post_bad HLEX.out (Below.refl _ _)

theorem lexOK : LexOK := fun s W hT => by
  by_cases h : s.size ≤ 8192
  · exact lex_go s W hT h
  · exact lex_big s W (by omega)
end Go.Proofs.YthogialdoikanaaDoor
