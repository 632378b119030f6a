/- The world is made. -/
import Derived.Test.YtfceedfmjhclaaaCh7
namespace Go.Proofs.Ytfceedfmjhclaaa
open Go Go.RowKit Go.Va
set_option maxRecDepth 100000
set_option maxHeartbeats 400000
/-- A fresh machine of one place and three threads. -/
def m0 : MR := ⟨.sl (Msg.l ⟨0, 0, 0, 0, none⟩) 1 false, false, false, none, none, none, [i64 0, u32 0, u32 0], false, false, [], 0, 0⟩
def startT (ty : Nat) (x : T) (a : A8) : T := tsk (.ifc ty x) a (.lit (.slice none 0 0))
theorem make_run (y1 y2 y3 : Nat) (x1 x2 x3 : T) (z1 z2 z3 : Nat) (u1 u2 u3 : T) (a1 a2 a3 : A8) (cl : Bool) :
    runX Try.prog noG clones 20 15 [machT m0 false 0 0 0 0 false, .sl [.ifc z1 u1, .ifc z2 u2, .ifc z3 u3] 3 cl]
      [((15, 35), .call [.t (startT y1 x1 a1)]), ((15, 35), .call [.t (startT y2 x2 a2)]), ((15, 35), .call [.t (startT y3 x3 a3)])] =
    some ([.t (worldT (machT m0 false 0 0 0 0 false) (tkOf false y1 x1 a1 false [] 0) (tkOf false y2 x2 a2 false [] 0) (tkOf false y3 x3 a3 false [] 0) false false), .t (i64 0)], [],
      [Holds Try.prog noG 9 [.ifc z1 u1] [.t (startT y1 x1 a1)], Holds Try.prog noG 9 [.ifc z2 u2] [.t (startT y2 x2 a2)], Holds Try.prog noG 9 [.ifc z3 u3] [.t (startT y3 x3 a3)]]) := by kernel_rfl
theorem new_run : runX Try.prog noG clones 20 14 [i64 3, .sl [i64 0, u32 0, u32 0] 1 false] [] = some ([.t (machT m0 false 0 0 0 0 false), .t (i64 0)], [], []) := by kernel_rfl
end Go.Proofs.Ytfceedfmjhclaaa
