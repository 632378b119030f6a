/- A wrapped code whose inner code may be wrapped itself; task.Make. -/
import Derived.Test.YtfceedfmjhclaaaCh6
namespace Go.Proofs.Ytfceedfmjhclaaa
open Go Go.RowKit Go.Va
set_option maxRecDepth 100000
set_option maxHeartbeats 400000
theorem next_wrap (ty : Nat) (f : FuncId) (htf : (ty = 104 ∧ f = 110) ∨ (ty = 98 ∧ f = 109)) (x : T) (begun : Bool) (g : G4) (ty' : Nat) (x' : T) (a : A8) (d : Bool)
    (hn : Holds Try.prog noG f [x, .agg (if begun then g else G4.zero).l] [.t (.ifc ty' x'), .t (.agg a.l), .t (bl d)]) :
    Holds Try.prog noG 109 [wr (.ifc ty x) 0 begun, .agg g.l] [.t (.ifc 98 (wr (.ifc ty' x') 0 true)), .t (.agg a.l), .t (bl d)] := by
  rcases htf with ⟨rfl, rfl⟩ | ⟨rfl, rfl⟩
  · have h : runX Try.prog noG noF 10 109 [wr (.ifc 104 x) 0 begun, .agg g.l] [((109, 29), .call [.t (.ifc ty' x'), .t (.agg a.l), .t (bl d)])] = some ([.t (.ifc 98 (wr (.ifc ty' x') 0 true)), .t (.agg a.l), .t (bl d)], [], [Holds Try.prog noG 110 [x, .agg (if begun then g else G4.zero).l] [.t (.ifc ty' x'), .t (.agg a.l), .t (bl d)]]) := by
      cases begun <;> kernel_rfl
    exact runX_sound mixed noF_snd 10 _ _ _ _ _ _ h (.cons hn .nil)
  · have h : runX Try.prog noG noF 10 109 [wr (.ifc 98 x) 0 begun, .agg g.l] [((109, 29), .call [.t (.ifc ty' x'), .t (.agg a.l), .t (bl d)])] = some ([.t (.ifc 98 (wr (.ifc ty' x') 0 true)), .t (.agg a.l), .t (bl d)], [], [Holds Try.prog noG 109 [x, .agg (if begun then g else G4.zero).l] [.t (.ifc ty' x'), .t (.agg a.l), .t (bl d)]]) := by
      cases begun <;> kernel_rfl
    exact runX_sound mixed noF_snd 10 _ _ _ _ _ _ h (.cons hn .nil)
/-- The code wrapped twice: 'o' rests of the outer wrap and 'i' of the inner one still to come. -/
def ww (c : T) (o i : Nat) (ob ib : Bool) : T := wr (.ifc 98 (wr c i ib)) o ob
end Go.Proofs.Ytfceedfmjhclaaa
