/- The example: the words behind a revival. -/
import Derived.Test.YtaomebcmmjhplaaGreatDoorLy16a
namespace Go.Proofs.YtaomebcmmjhplaaGreatDoor
open Go Go.RowKit Go.Va
set_option maxRecDepth 100000
set_option maxHeartbeats 400000
theorem words_run : runX Tryz.prog gG intrB 1000 27 [lay 3 8 2, wA] [] = some ([.osl (rowL fB 448) 448 3, .t (i64 0)], [], []) := by kernel_rfl
theorem words_holds : HoldsL 27 [lay 3 8 2, wA] [.t wB, .t (i64 0)] := freeze2 (sndB 1000 _ _ _ _ _ _ words_run .nil)
end Go.Proofs.YtaomebcmmjhplaaGreatDoor
