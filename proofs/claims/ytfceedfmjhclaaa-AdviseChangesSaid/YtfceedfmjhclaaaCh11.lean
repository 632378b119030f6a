/- The law AdviseChanges: the rounds of its picks. -/
import Derived.Test.YtfceedfmjhclaaaCh10
namespace Go.Proofs.Ytfceedfmjhclaaa
open Go Go.RowKit Go.Va
set_option maxRecDepth 100000
set_option maxHeartbeats 400000
/-- Behind the picks. -/
def S6 (Wa Wb : T) : S :=
  ⟨[(14, .loc 0 0), (16, .loc 1 0)], [some (.cells (cellsT Wa) false), some (.cells (cellsT Wb) false)]⟩
theorem move1 (lc : List T) (ln : Nat) (cl : Bool) (i : Nat) (x : Int) (q q' p p' : MR) (b b' d d' : Bool) (s1 s2 s3 cr z1 z2 z3 cz v1 v2 v3 cv y1 y2 y3 cy : Int) (cs cs' cu cu' : Bool) (k1 k2 k3 m1 m2 m3 j1 j2 j3 l1 l2 l3 : TK) (ct cst ft fst dt dst et est r r' : Bool) (e1 e2 e3 : Int) :
    tidied ks5 (X4 loopP (S5 (.sl lc ln cl) (Wd q b s1 s2 s3 cr cs k1 k2 k3 ct cst) (Wd p d v1 v2 v3 cv cu j1 j2 j3 dt dst) e1 e2 e3 i)
      [((4, 117), .b true), ((4, 122), .res (.t (.ptr lc i))), ((4, 123), .res (.t (u8 x))), ((4, 124), .res (.t (u8 0))), ((4, 131), .call [.t (Wd p' d' y1 y2 y3 cy cu' l1 l2 l3 et est), .t (bl r)]), ((4, 137), .b false), ((4, 148), .call [.t (Wd q' b' z1 z2 z3 cz cs' m1 m2 m3 ft fst), .t (bl r')]), ((4, 119), .res (.t (i64 (i + 1))))]) =
    some (.normal, S5 (.sl lc ln cl) (Wd q' b' z1 z2 z3 cz cs' m1 m2 m3 ft fst) (Wd p' d' y1 y2 y3 cy cu' l1 l2 l3 et est) e1 e2 e3 (i + 1), [],
      [decide ((i : Int) < (ln : Int)) = true, indexAddrC Try.prog 52 (.t (.sl lc ln cl)) i = some ⟨.t (.ptr lc i), [], []⟩, partC Try.prog 5 (lc.map .t) i = some (.t (u8 x)), BinIs Try.prog .rem 5 (.tmp 123) (.const (.int .u8 3)) (.int .u8 x) (.int .u8 3) (.int .u8 0),
        Holds Try.prog noG 16 [Wd p d v1 v2 v3 cv cu j1 j2 j3 dt dst, .agg [i64 0, i64 (1 : Nat), i64 0]] [.t (Wd p' d' y1 y2 y3 cy cu' l1 l2 l3 et est), .t (bl r)], decide (e1 > 0) = false,
        Holds Try.prog noG 16 [Wd q b s1 s2 s3 cr cs k1 k2 k3 ct cst, .agg [i64 0, i64 (1 : Nat), i64 0]] [.t (Wd q' b' z1 z2 z3 cz cs' m1 m2 m3 ft fst), .t (bl r')], BinIs Try.prog .add 3 (.tmp 118) (.const (.int .i64 1)) (.int .i64 i) (.int .i64 1) (.int .i64 (i + 1))]) := by
  cases b <;> cases b' <;> cases d <;> cases d' <;> kernel_rfl
theorem rest2 (lc : List T) (ln : Nat) (cl : Bool) (i : Nat) (x : Int) (q p p' : MR) (b d d' : Bool) (s1 s2 s3 cr v1 v2 v3 cv y1 y2 y3 cy : Int) (cs cu cu' : Bool) (k1 k2 k3 j1 j2 j3 l1 l2 l3 : TK) (ct cst dt dst et est r : Bool) (e1 e2 e3 : Int) :
    tidied ks5 (X4 loopP (S5 (.sl lc ln cl) (Wd q b s1 s2 s3 cr cs k1 k2 k3 ct cst) (Wd p d v1 v2 v3 cv cu j1 j2 j3 dt dst) e1 e2 e3 i)
      [((4, 117), .b true), ((4, 122), .res (.t (.ptr lc i))), ((4, 123), .res (.t (u8 x))), ((4, 124), .res (.t (u8 1))), ((4, 131), .call [.t (Wd p' d' y1 y2 y3 cy cu' l1 l2 l3 et est), .t (bl r)]), ((4, 137), .b true), ((4, 141), .res (.t (i64 (e2 - 1)))), ((4, 119), .res (.t (i64 (i + 1))))]) =
    some (.normal, S5 (.sl lc ln cl) (Wd q b s1 s2 s3 cr cs k1 k2 k3 ct cst) (Wd p' d' y1 y2 y3 cy cu' l1 l2 l3 et est) e1 (e2 - 1) e3 (i + 1), [],
      [decide ((i : Int) < (ln : Int)) = true, indexAddrC Try.prog 52 (.t (.sl lc ln cl)) i = some ⟨.t (.ptr lc i), [], []⟩, partC Try.prog 5 (lc.map .t) i = some (.t (u8 x)), BinIs Try.prog .rem 5 (.tmp 123) (.const (.int .u8 3)) (.int .u8 x) (.int .u8 3) (.int .u8 1),
        Holds Try.prog noG 16 [Wd p d v1 v2 v3 cv cu j1 j2 j3 dt dst, .agg [i64 0, i64 (2 : Nat), i64 0]] [.t (Wd p' d' y1 y2 y3 cy cu' l1 l2 l3 et est), .t (bl r)], decide (e2 > 0) = true,
        BinIs Try.prog .sub 3 (.tmp 140) (.const (.int .i64 1)) (.int .i64 e2) (.int .i64 1) (.int .i64 (e2 - 1)), BinIs Try.prog .add 3 (.tmp 118) (.const (.int .i64 1)) (.int .i64 i) (.int .i64 1) (.int .i64 (i + 1))]) := by
  cases b <;> cases d <;> cases d' <;> kernel_rfl
theorem move2 (lc : List T) (ln : Nat) (cl : Bool) (i : Nat) (x : Int) (q q' p p' : MR) (b b' d d' : Bool) (s1 s2 s3 cr z1 z2 z3 cz v1 v2 v3 cv y1 y2 y3 cy : Int) (cs cs' cu cu' : Bool) (k1 k2 k3 m1 m2 m3 j1 j2 j3 l1 l2 l3 : TK) (ct cst ft fst dt dst et est r r' : Bool) (e1 e2 e3 : Int) :
    tidied ks5 (X4 loopP (S5 (.sl lc ln cl) (Wd q b s1 s2 s3 cr cs k1 k2 k3 ct cst) (Wd p d v1 v2 v3 cv cu j1 j2 j3 dt dst) e1 e2 e3 i)
      [((4, 117), .b true), ((4, 122), .res (.t (.ptr lc i))), ((4, 123), .res (.t (u8 x))), ((4, 124), .res (.t (u8 1))), ((4, 131), .call [.t (Wd p' d' y1 y2 y3 cy cu' l1 l2 l3 et est), .t (bl r)]), ((4, 137), .b false), ((4, 148), .call [.t (Wd q' b' z1 z2 z3 cz cs' m1 m2 m3 ft fst), .t (bl r')]), ((4, 119), .res (.t (i64 (i + 1))))]) =
    some (.normal, S5 (.sl lc ln cl) (Wd q' b' z1 z2 z3 cz cs' m1 m2 m3 ft fst) (Wd p' d' y1 y2 y3 cy cu' l1 l2 l3 et est) e1 e2 e3 (i + 1), [],
      [decide ((i : Int) < (ln : Int)) = true, indexAddrC Try.prog 52 (.t (.sl lc ln cl)) i = some ⟨.t (.ptr lc i), [], []⟩, partC Try.prog 5 (lc.map .t) i = some (.t (u8 x)), BinIs Try.prog .rem 5 (.tmp 123) (.const (.int .u8 3)) (.int .u8 x) (.int .u8 3) (.int .u8 1),
        Holds Try.prog noG 16 [Wd p d v1 v2 v3 cv cu j1 j2 j3 dt dst, .agg [i64 0, i64 (2 : Nat), i64 0]] [.t (Wd p' d' y1 y2 y3 cy cu' l1 l2 l3 et est), .t (bl r)], decide (e2 > 0) = false,
        Holds Try.prog noG 16 [Wd q b s1 s2 s3 cr cs k1 k2 k3 ct cst, .agg [i64 0, i64 (2 : Nat), i64 0]] [.t (Wd q' b' z1 z2 z3 cz cs' m1 m2 m3 ft fst), .t (bl r')], BinIs Try.prog .add 3 (.tmp 118) (.const (.int .i64 1)) (.int .i64 i) (.int .i64 1) (.int .i64 (i + 1))]) := by
  cases b <;> cases b' <;> cases d <;> cases d' <;> kernel_rfl
theorem rest3 (lc : List T) (ln : Nat) (cl : Bool) (i : Nat) (x : Int) (q p p' : MR) (b d d' : Bool) (s1 s2 s3 cr v1 v2 v3 cv y1 y2 y3 cy : Int) (cs cu cu' : Bool) (k1 k2 k3 j1 j2 j3 l1 l2 l3 : TK) (ct cst dt dst et est r : Bool) (e1 e2 e3 : Int) :
    tidied ks5 (X4 loopP (S5 (.sl lc ln cl) (Wd q b s1 s2 s3 cr cs k1 k2 k3 ct cst) (Wd p d v1 v2 v3 cv cu j1 j2 j3 dt dst) e1 e2 e3 i)
      [((4, 117), .b true), ((4, 122), .res (.t (.ptr lc i))), ((4, 123), .res (.t (u8 x))), ((4, 124), .res (.t (u8 2))), ((4, 131), .call [.t (Wd p' d' y1 y2 y3 cy cu' l1 l2 l3 et est), .t (bl r)]), ((4, 137), .b true), ((4, 141), .res (.t (i64 (e3 - 1)))), ((4, 119), .res (.t (i64 (i + 1))))]) =
    some (.normal, S5 (.sl lc ln cl) (Wd q b s1 s2 s3 cr cs k1 k2 k3 ct cst) (Wd p' d' y1 y2 y3 cy cu' l1 l2 l3 et est) e1 e2 (e3 - 1) (i + 1), [],
      [decide ((i : Int) < (ln : Int)) = true, indexAddrC Try.prog 52 (.t (.sl lc ln cl)) i = some ⟨.t (.ptr lc i), [], []⟩, partC Try.prog 5 (lc.map .t) i = some (.t (u8 x)), BinIs Try.prog .rem 5 (.tmp 123) (.const (.int .u8 3)) (.int .u8 x) (.int .u8 3) (.int .u8 2),
        Holds Try.prog noG 16 [Wd p d v1 v2 v3 cv cu j1 j2 j3 dt dst, .agg [i64 0, i64 (3 : Nat), i64 0]] [.t (Wd p' d' y1 y2 y3 cy cu' l1 l2 l3 et est), .t (bl r)], decide (e3 > 0) = true,
        BinIs Try.prog .sub 3 (.tmp 140) (.const (.int .i64 1)) (.int .i64 e3) (.int .i64 1) (.int .i64 (e3 - 1)), BinIs Try.prog .add 3 (.tmp 118) (.const (.int .i64 1)) (.int .i64 i) (.int .i64 1) (.int .i64 (i + 1))]) := by
  cases b <;> cases d <;> cases d' <;> kernel_rfl
theorem move3 (lc : List T) (ln : Nat) (cl : Bool) (i : Nat) (x : Int) (q q' p p' : MR) (b b' d d' : Bool) (s1 s2 s3 cr z1 z2 z3 cz v1 v2 v3 cv y1 y2 y3 cy : Int) (cs cs' cu cu' : Bool) (k1 k2 k3 m1 m2 m3 j1 j2 j3 l1 l2 l3 : TK) (ct cst ft fst dt dst et est r r' : Bool) (e1 e2 e3 : Int) :
    tidied ks5 (X4 loopP (S5 (.sl lc ln cl) (Wd q b s1 s2 s3 cr cs k1 k2 k3 ct cst) (Wd p d v1 v2 v3 cv cu j1 j2 j3 dt dst) e1 e2 e3 i)
      [((4, 117), .b true), ((4, 122), .res (.t (.ptr lc i))), ((4, 123), .res (.t (u8 x))), ((4, 124), .res (.t (u8 2))), ((4, 131), .call [.t (Wd p' d' y1 y2 y3 cy cu' l1 l2 l3 et est), .t (bl r)]), ((4, 137), .b false), ((4, 148), .call [.t (Wd q' b' z1 z2 z3 cz cs' m1 m2 m3 ft fst), .t (bl r')]), ((4, 119), .res (.t (i64 (i + 1))))]) =
    some (.normal, S5 (.sl lc ln cl) (Wd q' b' z1 z2 z3 cz cs' m1 m2 m3 ft fst) (Wd p' d' y1 y2 y3 cy cu' l1 l2 l3 et est) e1 e2 e3 (i + 1), [],
      [decide ((i : Int) < (ln : Int)) = true, indexAddrC Try.prog 52 (.t (.sl lc ln cl)) i = some ⟨.t (.ptr lc i), [], []⟩, partC Try.prog 5 (lc.map .t) i = some (.t (u8 x)), BinIs Try.prog .rem 5 (.tmp 123) (.const (.int .u8 3)) (.int .u8 x) (.int .u8 3) (.int .u8 2),
        Holds Try.prog noG 16 [Wd p d v1 v2 v3 cv cu j1 j2 j3 dt dst, .agg [i64 0, i64 (3 : Nat), i64 0]] [.t (Wd p' d' y1 y2 y3 cy cu' l1 l2 l3 et est), .t (bl r)], decide (e3 > 0) = false,
        Holds Try.prog noG 16 [Wd q b s1 s2 s3 cr cs k1 k2 k3 ct cst, .agg [i64 0, i64 (3 : Nat), i64 0]] [.t (Wd q' b' z1 z2 z3 cz cs' m1 m2 m3 ft fst), .t (bl r')], BinIs Try.prog .add 3 (.tmp 118) (.const (.int .i64 1)) (.int .i64 i) (.int .i64 1) (.int .i64 (i + 1))]) := by
  cases b <;> cases b' <;> cases d <;> cases d' <;> kernel_rfl
/-- The picks are at their end. -/
theorem outP {lT : T} {lc : List T} {ln : Nat} (hl : IsL lT lc ln) (i : Nat) (q p : MR) (b d : Bool) (s1 s2 s3 cr v1 v2 v3 cv : Int) (cs cu : Bool) (k1 k2 k3 j1 j2 j3 : TK) (ct cst dt dst : Bool) (e1 e2 e3 : Int) :
    tidied [14, 16] (X4 loopP (S5 lT (Wd q b s1 s2 s3 cr cs k1 k2 k3 ct cst) (Wd p d v1 v2 v3 cv cu j1 j2 j3 dt dst) e1 e2 e3 i) [((4, 117), .b false)]) =
    some (.exit 4, S6 (Wd q b s1 s2 s3 cr cs k1 k2 k3 ct cst) (Wd p d v1 v2 v3 cv cu j1 j2 j3 dt dst), [], [decide ((i : Int) < (ln : Int)) = false]) := by
  rcases hl with ⟨cl, rfl⟩ | ⟨rfl, rfl, rfl⟩ <;> cases b <;> cases d <;> kernel_rfl
end Go.Proofs.Ytfceedfmjhclaaa
