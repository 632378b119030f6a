/- The law AdviseChanges: what stands before its picks. -/
import Derived.Test.YtfceedfmjhclaaaCh8
import Derived.Test.YtfceedfmjhclaaaAd6
namespace Go.Proofs.Ytfceedfmjhclaaa
open Go Go.RowKit Go.Va
set_option maxRecDepth 100000
set_option maxHeartbeats 400000
noncomputable def body4 : Code := (Try.f4.body).getD .skip
def u8c (r k : Int) : Int := IntKind.i64.wrap (Int.tmod r k)
def cN (n : Int) : T := (cA (w64 n)).c
def wwT (n r : Int) : T := .ifc 98 (wr (.ifc 98 (wr (cN n) (Lx (u8c r 5)) false)) (Lx (u8c r 3)) false)
def leftE (r : Int) : Int := w64 (u8c r 5 + u8c r 3)
def S4 (lT Wa Wb : T) (e1 e2 e3 : Int) : S :=
  ⟨[(2, .t lT), (14, .loc 0 0), (16, .loc 1 0), (18, .loc 2 0)], [some (.cells (cellsT Wa) false), some (.cells (cellsT Wb) false), some (.cells [.t (i64 e1), .t (i64 e2), .t (i64 e3)] false)]⟩
def i8 (n : Int) : T := .lit (.int .i8 n)
def u8 (n : Int) : T := .lit (.int .u8 n)
theorem prefix4 (lc : List T) (ln : Nat) (n1 n2 n3 r1 r2 r3 : Int) (a1 a2 a3 b1 b2 b3 : TK) :
    tidiedP [2, 14, 16, 18] (preX Try.prog noG (runX Try.prog noG noF 10) 4 Try.f4.ntmps 10 11 body4 ⟨initE [.agg [i8 n1, i8 n2, i8 n3], .agg [u8 r1, u8 r2, u8 r3], .sl lc ln false] 0, []⟩
      [((4, 31), .call [.t (bl true)]), ((4, 35), .b false), ((4, 39), .call [.t (machT m0 false 0 0 0 0 false), .t (i64 0)]), ((4, 78), .call [.t (worldT (machT m0 false 0 0 0 0 false) a1 a2 a3 false false), .t (i64 0)]), ((4, 84), .call [.t (worldT (machT m0 false 0 0 0 0 false) b1 b2 b3 false false), .t (i64 0)])]) =
    some (S4 (.sl lc ln false) (worldT (machT m0 false 0 0 0 0 false) a1 a2 a3 false false) (worldT (machT m0 false 0 0 0 0 false) b1 b2 b3 false false) (leftE r1) (leftE r2) (leftE r3), [],
      [Holds Try.prog noG 5 [] [.t (bl true)], decide ((ln : Int) > 150) = false, Holds Try.prog noG 14 [i64 3, .sl [i64 0, u32 0, u32 0] 1 false] [.t (machT m0 false 0 0 0 0 false), .t (i64 0)],
        Holds Try.prog noG 15 [machT m0 false 0 0 0 0 false, .sl [cN n1, cN n2, cN n3] 3 false] [.t (worldT (machT m0 false 0 0 0 0 false) a1 a2 a3 false false), .t (i64 0)],
        Holds Try.prog noG 15 [machT m0 false 0 0 0 0 false, .sl [wwT n1 r1, wwT n2 r2, wwT n3 r3] 3 false] [.t (worldT (machT m0 false 0 0 0 0 false) b1 b2 b3 false false), .t (i64 0)]]) := by kernel_rfl
end Go.Proofs.Ytfceedfmjhclaaa
