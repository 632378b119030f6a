/- The law AdviseChanges: what stands behind its picks. -/
import Derived.Test.YtfceedfmjhclaaaCh11
namespace Go.Proofs.Ytfceedfmjhclaaa
open Go Go.RowKit Go.Va
set_option maxRecDepth 100000
set_option maxHeartbeats 400000
noncomputable def loopQ : Code := inL (inB (c2 (c1 (c2 (c2 (c2 tail4))))))
theorem tail4_eq : tail4 = .seq (.seq (c1 (c1 tail4)) (.block 4 (.loop loopP))) (.seq (c1 (c2 tail4)) (.seq (c1 (c2 (c2 tail4))) (.seq (.seq (c1 (c1 (c2 (c2 (c2 tail4))))) (.block 6 (.loop loopQ))) (c2 (c2 (c2 (c2 tail4))))))) := by kernel_rfl
theorem start4 {lT : T} {lc : List T} {ln : Nat} (hl : IsL lT lc ln) (q p : MR) (b d : Bool) (s1 s2 s3 cr v1 v2 v3 cv : Int) (cs cu : Bool) (k1 k2 k3 j1 j2 j3 : TK) (ct cst dt dst : Bool) (e1 e2 e3 : Int) :
    tidied ks5 (X4 (c1 (c1 tail4)) (S4 lT (Wd q b s1 s2 s3 cr cs k1 k2 k3 ct cst) (Wd p d v1 v2 v3 cv cu j1 j2 j3 dt dst) e1 e2 e3) []) = some (.normal, S5 lT (Wd q b s1 s2 s3 cr cs k1 k2 k3 ct cst) (Wd p d v1 v2 v3 cv cu j1 j2 j3 dt dst) e1 e2 e3 0, [], []) := by
  rcases hl with ⟨cl, rfl⟩ | ⟨rfl, rfl, rfl⟩ <;> kernel_rfl
def S7 (Wa Wb x : T) : S :=
  ⟨[(14, .loc 0 0), (16, .loc 1 0), (22, .loc 2 0)], [some (.cells (cellsT Wa) false), some (.cells (cellsT Wb) false), some (.cells (cellsT x) false)]⟩
def S8 (Wa Wb x y : T) : S :=
  ⟨[(14, .loc 0 0), (16, .loc 1 0), (22, .loc 2 0), (24, .loc 3 0)], [some (.cells (cellsT Wa) false), some (.cells (cellsT Wb) false), some (.cells (cellsT x) false), some (.cells (cellsT y) false)]⟩
def S9 (Wa Wb x y : T) (i : Int) : S :=
  ⟨[(14, .loc 0 0), (16, .loc 1 0), (22, .loc 2 0), (24, .loc 3 0), (26, .t (i64 i))], [some (.cells (cellsT Wa) false), some (.cells (cellsT Wb) false), some (.cells (cellsT x) false), some (.cells (cellsT y) false)]⟩
def ks9 : List Nat := [14, 16, 22, 24, 26]
theorem wordA (q p : MR) (b d : Bool) (s1 s2 s3 cr v1 v2 v3 cv : Int) (cs cu : Bool) (k1 k2 k3 j1 j2 j3 : TK) (ct cst dt dst : Bool) (v a r : Int) :
    tidied [14, 16, 22] (X4 (c1 (c2 tail4)) (S6 (Wd q b s1 s2 s3 cr cs k1 k2 k3 ct cst) (Wd p d v1 v2 v3 cv cu j1 j2 j3 dt dst)) [((4, 154), .call [.t (wT v a r), .t (bl true)])]) =
    some (.normal, S7 (Wd q b s1 s2 s3 cr cs k1 k2 k3 ct cst) (Wd p d v1 v2 v3 cv cu j1 j2 j3 dt dst) (wT v a r), [], [Holds Try.prog noG 17 [machT q b s1 s2 s3 cr cs, i64 0] [.t (wT v a r), .t (bl true)]]) := by kernel_rfl
theorem wordB (q p : MR) (b d : Bool) (s1 s2 s3 cr v1 v2 v3 cv : Int) (cs cu : Bool) (k1 k2 k3 j1 j2 j3 : TK) (ct cst dt dst : Bool) (v a r v' a' r' : Int) :
    tidied [14, 16, 22, 24] (X4 (c1 (c2 (c2 tail4))) (S7 (Wd q b s1 s2 s3 cr cs k1 k2 k3 ct cst) (Wd p d v1 v2 v3 cv cu j1 j2 j3 dt dst) (wT v' a' r')) [((4, 160), .call [.t (wT v a r), .t (bl true)])]) =
    some (.normal, S8 (Wd q b s1 s2 s3 cr cs k1 k2 k3 ct cst) (Wd p d v1 v2 v3 cv cu j1 j2 j3 dt dst) (wT v' a' r') (wT v a r), [], [Holds Try.prog noG 17 [machT p d v1 v2 v3 cv cu, i64 0] [.t (wT v a r), .t (bl true)]]) := by kernel_rfl
theorem startQ (q p : MR) (b d : Bool) (s1 s2 s3 cr v1 v2 v3 cv : Int) (cs cu : Bool) (k1 k2 k3 j1 j2 j3 : TK) (ct cst dt dst : Bool) (v a r v' a' r' : Int) :
    tidied ks9 (X4 (c1 (c1 (c2 (c2 (c2 tail4))))) (S8 (Wd q b s1 s2 s3 cr cs k1 k2 k3 ct cst) (Wd p d v1 v2 v3 cv cu j1 j2 j3 dt dst) (wT v' a' r') (wT v a r)) []) =
    some (.normal, S9 (Wd q b s1 s2 s3 cr cs k1 k2 k3 ct cst) (Wd p d v1 v2 v3 cv cu j1 j2 j3 dt dst) (wT v' a' r') (wT v a r) 0, [], []) := by kernel_rfl

theorem same1 (q p : MR) (b d : Bool) (s1 s2 s3 cr v1 v2 v3 cv : Int) (cs cu : Bool) (k2 j2 k3 j3 : TK) (e f : Bool) (x y : T) (o i : Int) (ob ib : Bool) (a z : A8) (bg bh : Bool) (gc gd : List T) (gk gl : Nat) (ct cst dt dst : Bool) (n1 n2 n3 m1 m2 m3 : Int) (w : Int) (u : Bool) :
    tidied ks9 (X4 loopQ (S9 (Wd q b s1 s2 s3 cr cs (tkOf e 104 x a bg gc gk) k2 k3 ct cst) (Wd p d v1 v2 v3 cv cu (tkOf f 98 (wr (.ifc 98 (wr (.ifc 104 y) i ib)) o ob) z bh gd gl) j2 j3 dt dst) (wT n1 n2 n3) (wT m1 m2 m3) 0)
      [((4, 174), .call [.t (i64 w), .t (bl u)]), ((4, 185), .call [.t (i64 w), .t (bl u)]), ((4, 191), .b false), ((4, 191), .b false), ((4, 191), .b false), ((4, 195), .res (.t (bl false)))]) =
    some (.normal, S9 (Wd q b s1 s2 s3 cr cs (tkOf e 104 x a bg gc gk) k2 k3 ct cst) (Wd p d v1 v2 v3 cv cu (tkOf f 98 (wr (.ifc 98 (wr (.ifc 104 y) i ib)) o ob) z bh gd gl) j2 j3 dt dst) (wT n1 n2 n3) (wT m1 m2 m3) 1, [],
      [Holds Try.prog noG 12 [.ifc 104 x] [.t (i64 w), .t (bl u)], Holds Try.prog noG 12 [.ifc 104 y] [.t (i64 w), .t (bl u)], (w != w) = false, (w != w) = false, (w != w) = false, (if (w != w) then some (C.t (.lit (.bool true))) else some (C.t (.lit (.bool (!(u == u)))))) = some (C.t (bl false))]) := by
  cases e <;> cases f <;> cases bg <;> cases bh <;> kernel_rfl
theorem same2 (q p : MR) (b d : Bool) (s1 s2 s3 cr v1 v2 v3 cv : Int) (cs cu : Bool) (k1 j1 k3 j3 : TK) (e f : Bool) (x y : T) (o i : Int) (ob ib : Bool) (a z : A8) (bg bh : Bool) (gc gd : List T) (gk gl : Nat) (ct cst dt dst : Bool) (n1 n2 n3 m1 m2 m3 : Int) (w : Int) (u : Bool) :
    tidied ks9 (X4 loopQ (S9 (Wd q b s1 s2 s3 cr cs k1 (tkOf e 104 x a bg gc gk) k3 ct cst) (Wd p d v1 v2 v3 cv cu j1 (tkOf f 98 (wr (.ifc 98 (wr (.ifc 104 y) i ib)) o ob) z bh gd gl) j3 dt dst) (wT n1 n2 n3) (wT m1 m2 m3) 1)
      [((4, 174), .call [.t (i64 w), .t (bl u)]), ((4, 185), .call [.t (i64 w), .t (bl u)]), ((4, 191), .b false), ((4, 191), .b false), ((4, 191), .b false), ((4, 195), .res (.t (bl false)))]) =
    some (.normal, S9 (Wd q b s1 s2 s3 cr cs k1 (tkOf e 104 x a bg gc gk) k3 ct cst) (Wd p d v1 v2 v3 cv cu j1 (tkOf f 98 (wr (.ifc 98 (wr (.ifc 104 y) i ib)) o ob) z bh gd gl) j3 dt dst) (wT n1 n2 n3) (wT m1 m2 m3) 2, [],
      [Holds Try.prog noG 12 [.ifc 104 x] [.t (i64 w), .t (bl u)], Holds Try.prog noG 12 [.ifc 104 y] [.t (i64 w), .t (bl u)], (w != w) = false, (w != w) = false, (w != w) = false, (if (w != w) then some (C.t (.lit (.bool true))) else some (C.t (.lit (.bool (!(u == u)))))) = some (C.t (bl false))]) := by
  cases e <;> cases f <;> cases bg <;> cases bh <;> kernel_rfl
theorem same3 (q p : MR) (b d : Bool) (s1 s2 s3 cr v1 v2 v3 cv : Int) (cs cu : Bool) (k1 j1 k2 j2 : TK) (e f : Bool) (x y : T) (o i : Int) (ob ib : Bool) (a z : A8) (bg bh : Bool) (gc gd : List T) (gk gl : Nat) (ct cst dt dst : Bool) (n1 n2 n3 m1 m2 m3 : Int) (w : Int) (u : Bool) :
    tidied ks9 (X4 loopQ (S9 (Wd q b s1 s2 s3 cr cs k1 k2 (tkOf e 104 x a bg gc gk) ct cst) (Wd p d v1 v2 v3 cv cu j1 j2 (tkOf f 98 (wr (.ifc 98 (wr (.ifc 104 y) i ib)) o ob) z bh gd gl) dt dst) (wT n1 n2 n3) (wT m1 m2 m3) 2)
      [((4, 174), .call [.t (i64 w), .t (bl u)]), ((4, 185), .call [.t (i64 w), .t (bl u)]), ((4, 191), .b false), ((4, 191), .b false), ((4, 191), .b false), ((4, 195), .res (.t (bl false)))]) =
    some (.normal, S9 (Wd q b s1 s2 s3 cr cs k1 k2 (tkOf e 104 x a bg gc gk) ct cst) (Wd p d v1 v2 v3 cv cu j1 j2 (tkOf f 98 (wr (.ifc 98 (wr (.ifc 104 y) i ib)) o ob) z bh gd gl) dt dst) (wT n1 n2 n3) (wT m1 m2 m3) 3, [],
      [Holds Try.prog noG 12 [.ifc 104 x] [.t (i64 w), .t (bl u)], Holds Try.prog noG 12 [.ifc 104 y] [.t (i64 w), .t (bl u)], (w != w) = false, (w != w) = false, (w != w) = false, (if (w != w) then some (C.t (.lit (.bool true))) else some (C.t (.lit (.bool (!(u == u)))))) = some (C.t (bl false))]) := by
  cases e <;> cases f <;> cases bg <;> cases bh <;> kernel_rfl
theorem outQ (q p : MR) (b d : Bool) (s1 s2 s3 cr v1 v2 v3 cv : Int) (cs cu : Bool) (k1 k2 k3 j1 j2 j3 : TK) (ct cst dt dst : Bool) (v a r v' a' r' : Int) :
    tidied [22, 24] (X4 loopQ (S9 (Wd q b s1 s2 s3 cr cs k1 k2 k3 ct cst) (Wd p d v1 v2 v3 cv cu j1 j2 j3 dt dst) (wT v' a' r') (wT v a r) 3) []) =
    some (.exit 6, ⟨[(22, .loc 0 0), (24, .loc 1 0)], [some (.cells (cellsT (wT v' a' r')) false), some (.cells (cellsT (wT v a r)) false)]⟩, [], []) := by kernel_rfl
theorem last4 (v a r : Int) : ∃ s, X4 (c2 (c2 (c2 (c2 tail4)))) ⟨[(22, .loc 0 0), (24, .loc 1 0)], [some (.cells (cellsT (wT v a r)) false), some (.cells (cellsT (wT v a r)) false)]⟩ [((4, 198), .res (.t (bl true)))] =
      some (.ret, s, [], [BinIs Try.prog .eql 35 (.tmp 196) (.tmp 197) (.agg [.int .i64 v, .int .u32 a, .int .u32 r].toArray) (.agg [.int .i64 v, .int .u32 a, .int .u32 r].toArray) (.bool true)]) ∧ retR Try.prog Try.f4 s = some [.t (bl true)] := by
  exact ⟨⟨[(6, .t (bl true)), (22, .loc 0 0), (24, .loc 1 0), (196, .agg [.t (i64 v), .t (u32 a), .t (u32 r)]), (197, .agg [.t (i64 v), .t (u32 a), .t (u32 r)]), (198, .t (bl true))], [some (.cells [.t (i64 v), .t (u32 a), .t (u32 r)] false), some (.cells [.t (i64 v), .t (u32 a), .t (u32 r)] false)]⟩, by kernel_rfl, by kernel_rfl⟩
end Go.Proofs.Ytfceedfmjhclaaa
