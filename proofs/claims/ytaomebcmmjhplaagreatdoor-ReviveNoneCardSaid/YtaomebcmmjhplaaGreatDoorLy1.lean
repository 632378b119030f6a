/- The layout: lengths and places. -/
import Derived.Test.YtaomebcmmjhplaaGreatDoorVa20
import Derived.Test.YtaomebcmmjhplaaGreatDoorRows
namespace Go.Proofs.YtaomebcmmjhplaaGreatDoor
open Go Go.RowKit Go.Va
set_option maxRecDepth 100000
set_option maxHeartbeats 400000
def i64 (n : Int) : T := .lit (.int .i64 n)
def u32 (n : Int) : T := .lit (.int .u32 n)
def bl (b : Bool) : T := .lit (.bool b)
/-- What the listed variable holds. -/
def sizesL : List T := [i64 8, i64 8, i64 8, i64 1, i64 104, i64 0, i64 32]
def gG : Nat → Option (List T) := fun g => if g = 0 then some sizesL else none
def noF : FuncId → List T → Option (List R) := fun _ _ => none
theorem noF_snd : Snd Tryz.prog gG noF := fun f args rs h => by cases h
theorem mixed : Tryz.prog.follows .mixedOrders = true := by kernel_rfl
theorem sndL (n : Nat) : SndX Tryz.prog gG (runX Tryz.prog gG noF n) := runX_sound mixed noF_snd n
abbrev HoldsL (f : FuncId) (args : List T) (rs : List R) : Prop := Holds Tryz.prog gG f args rs
def w64 : Int → Int := IntKind.i64.wrap
theorem w64_id (n : Int) (h0 : -9223372036854775808 ≤ n) (h1 : n < 9223372036854775808) : w64 n = n := by
  have e : w64 n = (if (true && decide (n % (18446744073709551616 : Int) ≥ (9223372036854775808 : Int))) = true then n % 18446744073709551616 - 18446744073709551616 else n % 18446744073709551616) := rfl
  rw [e]
  simp only [Bool.true_and, decide_eq_true_eq]
  split <;> omega
/-! Small sums, differences, products. -/
theorem bAdd (x y : Operand) (a b c : Int) (hc : a + b = c) (h0 : -9223372036854775808 ≤ c) (h1 : c < 9223372036854775808) : BinIs Tryz.prog .add 3 x y (.int .i64 a) (.int .i64 b) (.int .i64 c) := by
  have h : BinIs Tryz.prog .add 3 x y (.int .i64 a) (.int .i64 b) (.int .i64 (w64 (a + b))) := by unfold BinIs; kernel_rfl
  rwa [hc, w64_id _ h0 h1] at h
theorem bSub (x y : Operand) (a b c : Int) (hc : a - b = c) (h0 : -9223372036854775808 ≤ c) (h1 : c < 9223372036854775808) : BinIs Tryz.prog .sub 3 x y (.int .i64 a) (.int .i64 b) (.int .i64 c) := by
  have h : BinIs Tryz.prog .sub 3 x y (.int .i64 a) (.int .i64 b) (.int .i64 (w64 (a - b))) := by unfold BinIs; kernel_rfl
  rwa [hc, w64_id _ h0 h1] at h
theorem bMul (x y : Operand) (a b c : Int) (hc : a * b = c) (h0 : -9223372036854775808 ≤ c) (h1 : c < 9223372036854775808) : BinIs Tryz.prog .mul 3 x y (.int .i64 a) (.int .i64 b) (.int .i64 c) := by
  have h : BinIs Tryz.prog .mul 3 x y (.int .i64 a) (.int .i64 b) (.int .i64 (w64 (a * b))) := by unfold BinIs; kernel_rfl
  rwa [hc, w64_id _ h0 h1] at h
theorem bQuo8 (x y : Operand) (a c : Int) (hc : Int.tdiv a 8 = c) (h0 : -9223372036854775808 ≤ c) (h1 : c < 9223372036854775808) : BinIs Tryz.prog .quo 3 x y (.int .i64 a) (.int .i64 8) (.int .i64 c) := by
  have h : BinIs Tryz.prog .quo 3 x y (.int .i64 a) (.int .i64 8) (.int .i64 (w64 (Int.tdiv a 8))) := by unfold BinIs; kernel_rfl
  rwa [hc, w64_id _ h0 h1] at h
end Go.Proofs.YtaomebcmmjhplaaGreatDoor
