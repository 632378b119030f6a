/- The law AdviseWraps: its second loop. -/
import Derived.Test.YtfceedfmjhclaaaAd4
namespace Go.Proofs.Ytfceedfmjhclaaa
open Go Go.RowKit Go.Va
set_option maxRecDepth 100000
set_option maxHeartbeats 400000

/-- The wrapped task and the plain one. -/
def Xt (d : Bool) (s : AC) (a : A8) (g : T) : T := match d with
  | true => tskD (.ifc 98 (wr s.c 0 true)) g
  | false => tsk (.ifc 98 (wr s.c 0 true)) a g
def Yt (d : Bool) (s : AC) (a : A8) (g : T) : T := match d with
  | true => tskD s.c g
  | false => tsk s.c a g
def acOf (n tr ans : Int) (bg sw d : Bool) : AC := ⟨n, tr, ans, bg, sw, d⟩
def ptrL (cells : List T) (off : Nat) : C := .t (.ptr cells off)

/-- A round at an index of the list: the tasks are not done. -/
theorem roundB (lc : List T) (ln : Nat) (cl : Bool) (i : Nat) (n tr ans n' tr' ans' : Int) (bg sw bg' sw' d' : Bool) (a a' : A8) (g : G4) (b1 b2 : Bool) (gx gy gx' gy' : List T) (kx ky kx' ky' : Nat) :
    tidied ks2 (X3 loopB (S2 (.sl lc ln cl) (Xt false (acOf n tr ans bg sw false) a (gT b1 gx kx)) (Yt false (acOf n tr ans bg sw false) a (gT b2 gy ky)) i)
      [((3, 85), .b true), ((3, 113), .res (.t (bl false))), ((3, 132), .b true), ((3, 136), .res (ptrL lc (i * 4))), ((3, 137), .res (.agg (g.l.map .t))), ((3, 138), .call [.t (Xt d' (acOf n' tr' ans' bg' sw' d') a' (.sl gx' kx' false))]),
        ((3, 142), .res (ptrL lc (i * 4))), ((3, 143), .res (.agg (g.l.map .t))), ((3, 144), .call [.t (Yt d' (acOf n' tr' ans' bg' sw' d') a' (.sl gy' ky' false))]), ((3, 87), .res (.t (i64 (i + 1))))]) =
    some (.normal, S2 (.sl lc ln cl) (Xt d' (acOf n' tr' ans' bg' sw' d') a' (.sl gx' kx' false)) (Yt d' (acOf n' tr' ans' bg' sw' d') a' (.sl gy' ky' false)) (i + 1), [],
      [decide ((i : Int) ≤ (ln : Int)) = true, BinIs Try.prog .neq 37 (.tmp 111) (.tmp 112) (.agg a.v.toArray) (.agg a.v.toArray) (.bool false), decide ((i : Int) < (ln : Int)) = true,
        indexAddrC Try.prog 23 (.t (.sl lc ln cl)) i = some ⟨ptrL lc (i * 4), [], []⟩, partC Try.prog 45 (lc.map .t) (i * 4) = some (.agg (g.l.map .t)),
        Holds Try.prog noG 11 [Xt false (acOf n tr ans bg sw false) a (gT b1 gx kx), .agg g.l] [.t (Xt d' (acOf n' tr' ans' bg' sw' d') a' (.sl gx' kx' false))],
        indexAddrC Try.prog 23 (.t (.sl lc ln cl)) i = some ⟨ptrL lc (i * 4), [], []⟩, partC Try.prog 45 (lc.map .t) (i * 4) = some (.agg (g.l.map .t)),
        Holds Try.prog noG 11 [Yt false (acOf n tr ans bg sw false) a (gT b2 gy ky), .agg g.l] [.t (Yt d' (acOf n' tr' ans' bg' sw' d') a' (.sl gy' ky' false))],
        BinIs Try.prog .add 3 (.tmp 86) (.const (.int .i64 1)) (.int .i64 i) (.int .i64 1) (.int .i64 (i + 1))]) := by
  cases b1 <;> cases b2 <;> cases d' <;> kernel_rfl
/-- .. the tasks are done. -/
theorem roundBD (lc : List T) (ln : Nat) (cl : Bool) (i : Nat) (n tr ans : Int) (bg sw : Bool) (a : A8) (g : G4) (b1 b2 : Bool) (gx gy : List T) (kx ky : Nat) :
    tidied ks2 (X3 loopB (S2 (.sl lc ln cl) (Xt true (acOf n tr ans bg sw true) a (gT b1 gx kx)) (Yt true (acOf n tr ans bg sw true) a (gT b2 gy ky)) i)
      [((3, 85), .b true), ((3, 124), .b false), ((3, 124), .b false), ((3, 124), .b false), ((3, 128), .res (.t (bl false))), ((3, 132), .b true), ((3, 136), .res (ptrL lc (i * 4))), ((3, 137), .res (.agg (g.l.map .t))),
        ((3, 142), .res (ptrL lc (i * 4))), ((3, 143), .res (.agg (g.l.map .t))), ((3, 87), .res (.t (i64 (i + 1))))]) =
    some (.normal, S2 (.sl lc ln cl) (Xt true (acOf n tr ans bg sw true) a (gT b1 gx kx)) (Yt true (acOf n tr ans bg sw true) a (gT b2 gy ky)) (i + 1), [],
      [decide ((i : Int) ≤ (ln : Int)) = true, (ans != ans) = false, (ans != ans) = false, (ans != ans) = false, (if (ans != ans) then some (C.t (.lit (.bool true))) else some (C.t (.lit (.bool false)))) = some (C.t (bl false)), decide ((i : Int) < (ln : Int)) = true,
        indexAddrC Try.prog 23 (.t (.sl lc ln cl)) i = some ⟨ptrL lc (i * 4), [], []⟩, partC Try.prog 45 (lc.map .t) (i * 4) = some (.agg (g.l.map .t)),
        indexAddrC Try.prog 23 (.t (.sl lc ln cl)) i = some ⟨ptrL lc (i * 4), [], []⟩, partC Try.prog 45 (lc.map .t) (i * 4) = some (.agg (g.l.map .t)),
        BinIs Try.prog .add 3 (.tmp 86) (.const (.int .i64 1)) (.int .i64 i) (.int .i64 1) (.int .i64 (i + 1))]) := by
  cases b1 <;> cases b2 <;> kernel_rfl

/-- The list: with elements, or nil. -/
def IsL (lT : T) (lc : List T) (ln : Nat) : Prop := (∃ cl, lT = .sl lc ln cl) ∨ (lT = .lit (.slice none 0 0) ∧ lc = [] ∧ ln = 0)
/-- The round behind the last element. -/
theorem lastB {lT : T} {lc : List T} {ln : Nat} (hl : IsL lT lc ln) (i : Nat) (n tr ans : Int) (bg sw : Bool) (a : A8) (b1 b2 : Bool) (gx gy : List T) (kx ky : Nat) :
    tidied ks2 (X3 loopB (S2 lT (Xt false (acOf n tr ans bg sw false) a (gT b1 gx kx)) (Yt false (acOf n tr ans bg sw false) a (gT b2 gy ky)) i)
      [((3, 85), .b true), ((3, 113), .res (.t (bl false))), ((3, 132), .b false), ((3, 87), .res (.t (i64 (i + 1))))]) =
    some (.normal, S2 lT (Xt false (acOf n tr ans bg sw false) a (gT b1 gx kx)) (Yt false (acOf n tr ans bg sw false) a (gT b2 gy ky)) (i + 1), [],
      [decide ((i : Int) ≤ (ln : Int)) = true, BinIs Try.prog .neq 37 (.tmp 111) (.tmp 112) (.agg a.v.toArray) (.agg a.v.toArray) (.bool false), decide ((i : Int) < (ln : Int)) = false,
        BinIs Try.prog .add 3 (.tmp 86) (.const (.int .i64 1)) (.int .i64 i) (.int .i64 1) (.int .i64 (i + 1))]) := by
  rcases hl with ⟨cl, rfl⟩ | ⟨rfl, rfl, rfl⟩ <;> cases b1 <;> cases b2 <;> kernel_rfl
theorem lastBD {lT : T} {lc : List T} {ln : Nat} (hl : IsL lT lc ln) (i : Nat) (n tr ans : Int) (bg sw : Bool) (a : A8) (b1 b2 : Bool) (gx gy : List T) (kx ky : Nat) :
    tidied ks2 (X3 loopB (S2 lT (Xt true (acOf n tr ans bg sw true) a (gT b1 gx kx)) (Yt true (acOf n tr ans bg sw true) a (gT b2 gy ky)) i)
      [((3, 85), .b true), ((3, 124), .b false), ((3, 124), .b false), ((3, 124), .b false), ((3, 128), .res (.t (bl false))), ((3, 132), .b false), ((3, 87), .res (.t (i64 (i + 1))))]) =
    some (.normal, S2 lT (Xt true (acOf n tr ans bg sw true) a (gT b1 gx kx)) (Yt true (acOf n tr ans bg sw true) a (gT b2 gy ky)) (i + 1), [],
      [decide ((i : Int) ≤ (ln : Int)) = true, (ans != ans) = false, (ans != ans) = false, (ans != ans) = false, (if (ans != ans) then some (C.t (.lit (.bool true))) else some (C.t (.lit (.bool false)))) = some (C.t (bl false)), decide ((i : Int) < (ln : Int)) = false,
        BinIs Try.prog .add 3 (.tmp 86) (.const (.int .i64 1)) (.int .i64 i) (.int .i64 1) (.int .i64 (i + 1))]) := by
  rcases hl with ⟨cl, rfl⟩ | ⟨rfl, rfl, rfl⟩ <;> cases b1 <;> cases b2 <;> kernel_rfl
/-- Out of the loop. -/
theorem outB {lT : T} {lc : List T} {ln : Nat} (hl : IsL lT lc ln) (i : Int) (s : AC) (d : Bool) (a : A8) (b1 b2 : Bool) (gx gy : List T) (kx ky : Nat) :
    tidied [] (X3 loopB (S2 lT (Xt d s a (gT b1 gx kx)) (Yt d s a (gT b2 gy ky)) i) [((3, 85), .b false)]) = some (.exit 2, ⟨[], []⟩, [], [decide (i ≤ (ln : Int)) = false]) := by
  rcases hl with ⟨cl, rfl⟩ | ⟨rfl, rfl, rfl⟩ <;> cases b1 <;> cases b2 <;> cases d <;> kernel_rfl
end Go.Proofs.Ytfceedfmjhclaaa
