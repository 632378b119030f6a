/- The example of the law's chapter. -/
import Derived.Test.YtaomebcmmjhplaaGreatDoorLy16b
namespace Go.Proofs.YtaomebcmmjhplaaGreatDoor
open Go Go.RowKit Go.Va
set_option maxRecDepth 100000
set_option maxHeartbeats 400000
theorem asked_run1 : runX Tryz.prog gG intrB 1000 28 [lay 3 8 2, wB, i64 1] [] = some ([.t (i64 3), .t (.agg [i64 0, i64 7]), .t (i64 0)], [], []) := by kernel_rfl
theorem asked_run2 : runX Tryz.prog gG intrB 1000 28 [lay 3 8 2, wB, i64 2] [] = some ([.t (i64 0), .t (.agg [i64 0, i64 0]), .t (i64 0)], [], []) := by kernel_rfl
theorem asked_run3 : runX Tryz.prog gG intrB 1000 28 [lay 3 8 2, wB, i64 3] [] = some ([.t (i64 0), .t (.agg [i64 0, i64 0]), .t (i64 0)], [], []) := by kernel_rfl
def repA : List T := [i64 1, i64 3, i64 0, i64 7, i64 2, i64 0, i64 0, i64 0, i64 3, i64 0, i64 0, i64 0]
theorem image_run : runX Tryz.prog gG intrB 1000 9 [lay 3 8 2, wA] [((9, 17), .call [.t wB, .t (i64 0)]), ((9, 33), .call [.t (i64 3), .t (.agg [i64 0, i64 7]), .t (i64 0)]), ((9, 33), .call [.t (i64 0), .t (.agg [i64 0, i64 0]), .t (i64 0)]), ((9, 33), .call [.t (i64 0), .t (.agg [i64 0, i64 0]), .t (i64 0)])] =
    some ([.t wB, .osl repA 3 4, .t (i64 0)], [], [HoldsL 27 [lay 3 8 2, wA] [.t wB, .t (i64 0)], HoldsL 28 [lay 3 8 2, wB, i64 1] [.t (i64 3), .t (.agg [i64 0, i64 7]), .t (i64 0)],
      HoldsL 28 [lay 3 8 2, wB, i64 2] [.t (i64 0), .t (.agg [i64 0, i64 0]), .t (i64 0)], HoldsL 28 [lay 3 8 2, wB, i64 3] [.t (i64 0), .t (.agg [i64 0, i64 0]), .t (i64 0)]]) := by kernel_rfl
theorem image_holds : HoldsL 9 [lay 3 8 2, wA] [.t wB, .osl repA 3 4, .t (i64 0)] :=
  sndB 1000 _ _ _ _ _ _ image_run (.cons words_holds (.cons (sndB 1000 _ _ _ _ _ _ asked_run1 .nil) (.cons (sndB 1000 _ _ _ _ _ _ asked_run2 .nil) (.cons (sndB 1000 _ _ _ _ _ _ asked_run3 .nil) .nil))))
theorem seqs_runA : runX Tryz.prog gG intrB 1000 8 [lay 3 8 2, wA] [] = some ([.osl [i64 5, i64 1, i64 1] 3 1], [], []) := by kernel_rfl
theorem awake_run : runX Tryz.prog gG intrB 1000 4 [] [((4, 21), .call [.t wA, .t (bl true)]), ((4, 27), .call [.t wB, .osl repA 3 4, .t (i64 0)]), ((4, 33), .call [.osl [i64 5, i64 1, i64 1] 3 1])] =
    some ([.t (bl true)], [], [HoldsL 12 [memA] [.t wA, .t (bl true)], HoldsL 9 [lay 3 8 2, wA] [.t wB, .osl repA 3 4, .t (i64 0)], HoldsL 8 [lay 3 8 2, wA] [.osl [i64 5, i64 1, i64 1] 3 1]]) := by kernel_rfl
theorem awake_true : HoldsL 4 [] [.t (bl true)] :=
  sndB 1000 _ _ _ _ _ _ awake_run (.cons make_holds (.cons image_holds (.cons (sndB 1000 _ _ _ _ _ _ seqs_runA .nil) .nil)))
end Go.Proofs.YtaomebcmmjhplaaGreatDoor
