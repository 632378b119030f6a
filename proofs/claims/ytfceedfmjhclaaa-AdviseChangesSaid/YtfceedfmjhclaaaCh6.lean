/- A step of the world. -/
import Derived.Test.YtfceedfmjhclaaaCh5
namespace Go.Proofs.Ytfceedfmjhclaaa
open Go Go.RowKit Go.Va
set_option maxRecDepth 100000
set_option maxHeartbeats 400000
/-- A task's cells. -/
structure TK where
  c : T
  nx : T
  a : A8
  g : T
def TK.l (t : TK) : List T := [t.c, t.nx] ++ t.a.l ++ [t.g]
def nxT (d : Bool) (c : T) : T := match d with
  | true => .lit .nilFunc
  | false => nextT c
def tkOf (d : Bool) (ty : Nat) (x : T) (a : A8) (b : Bool) (cells : List T) (k : Nat) : TK := ⟨.ifc ty x, nxT d (.ifc ty x), a, gT b cells k⟩
def aggL : T → List T
  | .agg l => l
  | _ => []
def worldT (M : T) (k1 k2 k3 : TK) (ct cst : Bool) : T := .agg (aggL M ++ [.sl (k1.l ++ k2.l ++ k3.l) 3 ct, .sl [bl false, bl false, bl false] 3 cst])
theorem step1 (q q' : MR) (b b' : Bool) (s1 s2 s3 cr s1' s2' s3' : Int) (cs : Bool) (k2 k3 : TK) (ct cst : Bool) (ty ty' : Nat) (x x' : T) (a a' : A8) (g : G4) (bg d : Bool) (gc gc' : List T) (gk gk' : Nat) :
    runX Try.prog noG clones 20 16 [worldT (machT q b s1 s2 s3 cr cs) (tkOf false ty x a bg gc gk) k2 k3 ct cst, .agg [i64 0, i64 (1 : Nat), i64 0]]
      [((33, 28), .call [.t (machT q' b' s1' s2' s3' cr false), .t (.agg g.l), .t (i64 0)]), ((33, 52), .call [.t (.agg (tkOf d ty' x' a' true gc' gk').l)])] =
    some ([.t (worldT (machT q' b' s1' s2' s3' cr false) (tkOf d ty' x' a' true gc' gk') k2 k3 false cst), .t (bl true)], [],
      [Holds Try.prog noG 47 [machT q b s1 s2 s3 cr cs, i64 (1 : Nat), .agg a.l, i64 0] [.t (machT q' b' s1' s2' s3' cr false), .t (.agg g.l), .t (i64 0)],
        Holds Try.prog noG 11 [.agg (tkOf false ty x a bg gc gk).l, .agg g.l] [.t (.agg (tkOf d ty' x' a' true gc' gk').l)]]) := by
  cases b <;> cases b' <;> cases bg <;> cases d <;> kernel_rfl
theorem still1 (q : MR) (b : Bool) (s1 s2 s3 cr : Int) (cs : Bool) (k2 k3 : TK) (ct cst : Bool) (ty : Nat) (x : T) (a : A8) (bg : Bool) (gc : List T) (gk : Nat) :
    runX Try.prog noG clones 20 16 [worldT (machT q b s1 s2 s3 cr cs) (tkOf true ty x a bg gc gk) k2 k3 ct cst, .agg [i64 0, i64 (1 : Nat), i64 0]] [] =
    some ([.t (worldT (machT q b s1 s2 s3 cr cs) (tkOf true ty x a bg gc gk) k2 k3 ct cst), .t (bl false)], [], []) := by
  cases b <;> cases bg <;> kernel_rfl
theorem step2 (q q' : MR) (b b' : Bool) (s1 s2 s3 cr s1' s2' s3' : Int) (cs : Bool) (k1 k3 : TK) (ct cst : Bool) (ty ty' : Nat) (x x' : T) (a a' : A8) (g : G4) (bg d : Bool) (gc gc' : List T) (gk gk' : Nat) :
    runX Try.prog noG clones 20 16 [worldT (machT q b s1 s2 s3 cr cs) k1 (tkOf false ty x a bg gc gk) k3 ct cst, .agg [i64 0, i64 (2 : Nat), i64 0]]
      [((33, 28), .call [.t (machT q' b' s1' s2' s3' cr false), .t (.agg g.l), .t (i64 0)]), ((33, 52), .call [.t (.agg (tkOf d ty' x' a' true gc' gk').l)])] =
    some ([.t (worldT (machT q' b' s1' s2' s3' cr false) k1 (tkOf d ty' x' a' true gc' gk') k3 false cst), .t (bl true)], [],
      [Holds Try.prog noG 47 [machT q b s1 s2 s3 cr cs, i64 (2 : Nat), .agg a.l, i64 0] [.t (machT q' b' s1' s2' s3' cr false), .t (.agg g.l), .t (i64 0)],
        Holds Try.prog noG 11 [.agg (tkOf false ty x a bg gc gk).l, .agg g.l] [.t (.agg (tkOf d ty' x' a' true gc' gk').l)]]) := by
  cases b <;> cases b' <;> cases bg <;> cases d <;> kernel_rfl
theorem still2 (q : MR) (b : Bool) (s1 s2 s3 cr : Int) (cs : Bool) (k1 k3 : TK) (ct cst : Bool) (ty : Nat) (x : T) (a : A8) (bg : Bool) (gc : List T) (gk : Nat) :
    runX Try.prog noG clones 20 16 [worldT (machT q b s1 s2 s3 cr cs) k1 (tkOf true ty x a bg gc gk) k3 ct cst, .agg [i64 0, i64 (2 : Nat), i64 0]] [] =
    some ([.t (worldT (machT q b s1 s2 s3 cr cs) k1 (tkOf true ty x a bg gc gk) k3 ct cst), .t (bl false)], [], []) := by
  cases b <;> cases bg <;> kernel_rfl
theorem step3 (q q' : MR) (b b' : Bool) (s1 s2 s3 cr s1' s2' s3' : Int) (cs : Bool) (k1 k2 : TK) (ct cst : Bool) (ty ty' : Nat) (x x' : T) (a a' : A8) (g : G4) (bg d : Bool) (gc gc' : List T) (gk gk' : Nat) :
    runX Try.prog noG clones 20 16 [worldT (machT q b s1 s2 s3 cr cs) k1 k2 (tkOf false ty x a bg gc gk) ct cst, .agg [i64 0, i64 (3 : Nat), i64 0]]
      [((33, 28), .call [.t (machT q' b' s1' s2' s3' cr false), .t (.agg g.l), .t (i64 0)]), ((33, 52), .call [.t (.agg (tkOf d ty' x' a' true gc' gk').l)])] =
    some ([.t (worldT (machT q' b' s1' s2' s3' cr false) k1 k2 (tkOf d ty' x' a' true gc' gk') false cst), .t (bl true)], [],
      [Holds Try.prog noG 47 [machT q b s1 s2 s3 cr cs, i64 (3 : Nat), .agg a.l, i64 0] [.t (machT q' b' s1' s2' s3' cr false), .t (.agg g.l), .t (i64 0)],
        Holds Try.prog noG 11 [.agg (tkOf false ty x a bg gc gk).l, .agg g.l] [.t (.agg (tkOf d ty' x' a' true gc' gk').l)]]) := by
  cases b <;> cases b' <;> cases bg <;> cases d <;> kernel_rfl
theorem still3 (q : MR) (b : Bool) (s1 s2 s3 cr : Int) (cs : Bool) (k1 k2 : TK) (ct cst : Bool) (ty : Nat) (x : T) (a : A8) (bg : Bool) (gc : List T) (gk : Nat) :
    runX Try.prog noG clones 20 16 [worldT (machT q b s1 s2 s3 cr cs) k1 k2 (tkOf true ty x a bg gc gk) ct cst, .agg [i64 0, i64 (3 : Nat), i64 0]] [] =
    some ([.t (worldT (machT q b s1 s2 s3 cr cs) k1 k2 (tkOf true ty x a bg gc gk) ct cst), .t (bl false)], [], []) := by
  cases b <;> cases bg <;> kernel_rfl
end Go.Proofs.Ytfceedfmjhclaaa
