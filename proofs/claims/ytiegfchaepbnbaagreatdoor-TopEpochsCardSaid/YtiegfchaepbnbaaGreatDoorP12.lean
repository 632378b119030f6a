/- The layout: lengths and places. The layout: lengths, beginnings, its check. The layout: places. -/
import Derived.Test.YtiegfchaepbnbaaGreatDoorP11
import Derived.Test.YtiegfchaepbnbaaGreatDoorP10
import Derived.Test.YtiegfchaepbnbaaGreatDoorRows
namespace Go.Proofs.YtiegfchaepbnbaaGreatDoor
open Go Go.RowKit Go.Va
set_option maxRecDepth 100000
set_option maxHeartbeats 400000
def i64 (n : Int) : T := .lit (.int .i64 n)
def u32 (n : Int) : T := .lit (.int .u32 n)
def bl (b : Bool) : T := .lit (.bool b)
/-- What the listed variable holds. -/
def sizesL : List T := [i64 8, i64 8, i64 8, i64 1, i64 104, i64 0, i64 32]
def gG : Nat → Option (List T) := fun g => if g = 0 then some sizesL else none
def noF : FuncId → List T → Option (List R) := fun _ _ => none
theorem noF_snd : Snd Tryz.prog gG noF := fun f args rs h => by cases h
theorem mixed : Tryz.prog.follows .mixedOrders = true := by kernel_rfl
theorem sndL (n : Nat) : SndX Tryz.prog gG (runX Tryz.prog gG noF n) := runX_sound mixed noF_snd n
abbrev HoldsL (f : FuncId) (args : List T) (rs : List R) : Prop := Holds Tryz.prog gG f args rs
def w64 : Int → Int := IntKind.i64.wrap
theorem w64_id (n : Int) (h0 : -9223372036854775808 ≤ n) (h1 : n < 9223372036854775808) : w64 n = n := by
  have e : w64 n = (if (true && decide (n % (18446744073709551616 : Int) ≥ (9223372036854775808 : Int))) = true then n % 18446744073709551616 - 18446744073709551616 else n % 18446744073709551616) := rfl
  rw [e]
  simp only [Bool.true_and, decide_eq_true_eq]
  split <;> omega
/-! Small sums, differences, products. -/
end Go.Proofs.YtiegfchaepbnbaaGreatDoor
namespace Go.Proofs.YtiegfchaepbnbaaGreatDoor
open Go Go.RowKit Go.Va
set_option maxRecDepth 100000
set_option maxHeartbeats 400000
def lay (t c b : Int) : T := .agg [i64 t, i64 c, i64 b]
/-- A layout of the size that these texts speak of. -/
structure LV (t c b : Int) : Prop where
  t1 : 1 ≤ t
  t8 : t ≤ 8
  c1 : 1 ≤ c
  c2 : c ≤ 40
  b0 : 0 ≤ b
  b64 : b ≤ 12
def long3 (c : Int) : Int := (c + 7) / 8 * 8
def long5 (b : Int) : Int := if 0 < b then 8 else 0
/-- Where a part begins; 7: the length of it all. -/
def fromF (t c b : Int) : Nat → Int
  | 0 => 0
  | 1 => 8
  | 2 => 8 + 8 * t
  | 3 => 8 + 16 * t
  | 4 => 8 + 16 * t + long3 c
  | 5 => 8 + 120 * t + long3 c
  | 6 => 8 + 120 * t + long3 c + long5 b
  | _ => 8 + 120 * t + long3 c + long5 b + 32 * b
/-- A layout that is out of range. -/
def LW (t c b : Int) : Prop := ¬ (1 ≤ t ∧ t ≤ 8) ∨ ¬ (1 ≤ c ∧ c ≤ 2048) ∨ ¬ (0 ≤ b ∧ b ≤ 64)
end Go.Proofs.YtiegfchaepbnbaaGreatDoor
namespace Go.Proofs.YtiegfchaepbnbaaGreatDoor
open Go Go.RowKit Go.Va
set_option maxRecDepth 100000
set_option maxHeartbeats 400000
theorem bLss61 (x y : Operand) (a b : Int) (d : Bool) (h : decide (a < b) = d) : BinIs Tryz.prog .lss 51 x y (.int .i64 a) (.int .i64 b) (.bool d) := by
  have : BinIs Tryz.prog .lss 51 x y (.int .i64 a) (.int .i64 b) (.bool (decide (a < b))) := by unfold BinIs; kernel_rfl
  rwa [h] at this
theorem bLeq (x y : Operand) (a b : Int) (d : Bool) (h : decide (a ≤ b) = d) : BinIs Tryz.prog .leq 3 x y (.int .i64 a) (.int .i64 b) (.bool d) := by
  have : BinIs Tryz.prog .leq 3 x y (.int .i64 a) (.int .i64 b) (.bool (decide (a ≤ b))) := by unfold BinIs; kernel_rfl
  rwa [h] at this
/-- Which words may be held by a swap. -/
def mayF (t c b a : Int) : Bool := (decide (a - fromF t c b 3 ≥ 0) && decide (a - fromF t c b 3 < c)) || ((decide (a ≥ fromF t c b 2) && decide (a < fromF t c b 3)) && decide (Int.tmod a 8 < 3))
end Go.Proofs.YtiegfchaepbnbaaGreatDoor
