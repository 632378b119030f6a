/- The law AdviseChanges: a round of its picks. -/
import Derived.Test.YtfceedfmjhclaaaCh9
namespace Go.Proofs.Ytfceedfmjhclaaa
open Go Go.RowKit Go.Va
set_option maxRecDepth 100000
set_option maxHeartbeats 400000
noncomputable def tail4 : Code := restC 11 body4
noncomputable def loopP : Code := inL (inB (c2 (c1 tail4)))
def S5 (lT Wa Wb : T) (e1 e2 e3 i : Int) : S :=
  ⟨[(2, .t lT), (14, .loc 0 0), (16, .loc 1 0), (18, .loc 2 0), (20, .t (i64 i))], [some (.cells (cellsT Wa) false), some (.cells (cellsT Wb) false), some (.cells [.t (i64 e1), .t (i64 e2), .t (i64 e3)] false)]⟩
def ks5 : List Nat := [2, 14, 16, 18, 20]
noncomputable abbrev X4 : Code → S → Va.Tape → Option (Ex × S × Va.Tape × List Prop) := execX Try.prog noG (runX Try.prog noG noF 10) 4 Try.f4.ntmps 10
def Wd (q : MR) (b : Bool) (s1 s2 s3 cr : Int) (cs : Bool) (k1 k2 k3 : TK) (ct cst : Bool) : T := worldT (machT q b s1 s2 s3 cr cs) k1 k2 k3 ct cst
/-- A pick of thread 1 that rests. -/
theorem rest1 (lc : List T) (ln : Nat) (cl : Bool) (i : Nat) (x : Int) (q p p' : MR) (b d d' : Bool) (s1 s2 s3 cr v1 v2 v3 cv y1 y2 y3 cy : Int) (cs cu cu' : Bool) (k1 k2 k3 j1 j2 j3 l1 l2 l3 : TK) (ct cst dt dst et est r : Bool) (e1 e2 e3 : Int) :
    tidied ks5 (X4 loopP (S5 (.sl lc ln cl) (Wd q b s1 s2 s3 cr cs k1 k2 k3 ct cst) (Wd p d v1 v2 v3 cv cu j1 j2 j3 dt dst) e1 e2 e3 i)
      [((4, 117), .b true), ((4, 122), .res (.t (.ptr lc i))), ((4, 123), .res (.t (u8 x))), ((4, 124), .res (.t (u8 0))), ((4, 131), .call [.t (Wd p' d' y1 y2 y3 cy cu' l1 l2 l3 et est), .t (bl r)]), ((4, 137), .b true), ((4, 141), .res (.t (i64 (e1 - 1)))), ((4, 119), .res (.t (i64 (i + 1))))]) =
    some (.normal, S5 (.sl lc ln cl) (Wd q b s1 s2 s3 cr cs k1 k2 k3 ct cst) (Wd p' d' y1 y2 y3 cy cu' l1 l2 l3 et est) (e1 - 1) e2 e3 (i + 1), [],
      [decide ((i : Int) < (ln : Int)) = true, indexAddrC Try.prog 52 (.t (.sl lc ln cl)) i = some ⟨.t (.ptr lc i), [], []⟩, partC Try.prog 5 (lc.map .t) i = some (.t (u8 x)), BinIs Try.prog .rem 5 (.tmp 123) (.const (.int .u8 3)) (.int .u8 x) (.int .u8 3) (.int .u8 0),
        Holds Try.prog noG 16 [Wd p d v1 v2 v3 cv cu j1 j2 j3 dt dst, .agg [i64 0, i64 1, i64 0]] [.t (Wd p' d' y1 y2 y3 cy cu' l1 l2 l3 et est), .t (bl r)], decide (e1 > 0) = true,
        BinIs Try.prog .sub 3 (.tmp 140) (.const (.int .i64 1)) (.int .i64 e1) (.int .i64 1) (.int .i64 (e1 - 1)), BinIs Try.prog .add 3 (.tmp 118) (.const (.int .i64 1)) (.int .i64 i) (.int .i64 1) (.int .i64 (i + 1))]) := by
  cases b <;> cases d <;> cases d' <;> kernel_rfl
end Go.Proofs.Ytfceedfmjhclaaa
