/- The bag: Retire, Sweep. -/
import Derived.Test.YtiegfchaepbnbaaGreatDoorP19
namespace Go.Proofs.YtiegfchaepbnbaaGreatDoor
open Go Go.RowKit Go.Va
set_option maxRecDepth 100000
set_option maxHeartbeats 400000
/-- A retired block. -/
structure It where
  b : Int
  br : Int
  re : Int
  deriving DecidableEq
def itL (i : It) : List T := [i64 i.b, i64 i.br, i64 i.re]
def livesB (i : It) (e : Int) : Bool := decide (e ≠ 0 ∧ i.br ≤ e ∧ e ≤ i.re)
def wayB (i : It) (l : List Int) : Bool := l.any (livesB i)
theorem lv0 (i : It) (e : Int) (h : e = 0) : HoldsL 48 [(T.agg [(i64 i.b), (i64 i.br), (i64 i.re)]), (i64 e)] [(R.t (bl false))] := by
  have ee : runX Tryz.prog gG noF 20 48 [(T.agg [(i64 i.b), (i64 i.br), (i64 i.re)]), (i64 e)] [((48, 6), .res (.t (bl false)))] = some ([(R.t (bl false))], [], [BinIs Tryz.prog .neq 2 (.tmp 5) (.const (.int .i64 0)) (.int .i64 e) (.int .i64 0) (.bool false)]) := by kernel_rfl
  exact sndL 20 _ _ _ _ _ _ ee (.cons (bCmp (d := (!(e == 0))) (by unfold BinIs; kernel_rfl) (neF (by omega))) .nil)
theorem lv1 (i : It) (e : Int) (h : e ≠ 0) (h1 : ¬ i.br ≤ e) : HoldsL 48 [(T.agg [(i64 i.b), (i64 i.br), (i64 i.re)]), (i64 e)] [(R.t (bl false))] := by
  have ee : runX Tryz.prog gG noF 20 48 [(T.agg [(i64 i.b), (i64 i.br), (i64 i.re)]), (i64 e)] [((48, 6), .res (.t (bl true))), ((48, 11), .res (.t (bl false)))] = some ([(R.t (bl false))], [], [BinIs Tryz.prog .neq 2 (.tmp 5) (.const (.int .i64 0)) (.int .i64 e) (.int .i64 0) (.bool true),
      BinIs Tryz.prog .geq 2 (.tmp 8) (.tmp 10) (.int .i64 e) (.int .i64 i.br) (.bool false)]) := by kernel_rfl
  exact sndL 20 _ _ _ _ _ _ ee (.cons (bCmp (d := (!(e == 0))) (by unfold BinIs; kernel_rfl) (neT (by omega))) (.cons (bCmp (d := decide (e ≥ i.br)) (by unfold BinIs; kernel_rfl) (decide_eq_false (by omega))) .nil))
theorem lv2 (i : It) (e : Int) (h : e ≠ 0) (h1 : i.br ≤ e) (h2 : ¬ e ≤ i.re) : HoldsL 48 [(T.agg [(i64 i.b), (i64 i.br), (i64 i.re)]), (i64 e)] [(R.t (bl false))] := by
  have ee : runX Tryz.prog gG noF 20 48 [(T.agg [(i64 i.b), (i64 i.br), (i64 i.re)]), (i64 e)] [((48, 6), .res (.t (bl true))), ((48, 11), .res (.t (bl true))), ((48, 17), .res (.t (bl false)))] = some ([(R.t (bl false))], [], [BinIs Tryz.prog .neq 2 (.tmp 5) (.const (.int .i64 0)) (.int .i64 e) (.int .i64 0) (.bool true),
      BinIs Tryz.prog .geq 2 (.tmp 8) (.tmp 10) (.int .i64 e) (.int .i64 i.br) (.bool true),
      BinIs Tryz.prog .leq 2 (.tmp 14) (.tmp 16) (.int .i64 e) (.int .i64 i.re) (.bool false)]) := by kernel_rfl
  exact sndL 20 _ _ _ _ _ _ ee (.cons (bCmp (d := (!(e == 0))) (by unfold BinIs; kernel_rfl) (neT (by omega))) (.cons (bCmp (d := decide (e ≥ i.br)) (by unfold BinIs; kernel_rfl) (decide_eq_true (by omega))) (.cons (bCmp (d := decide (e ≤ i.re)) (by unfold BinIs; kernel_rfl) (decide_eq_false (by omega))) .nil)))
theorem lv3 (i : It) (e : Int) (h : e ≠ 0) (h1 : i.br ≤ e) (h2 : e ≤ i.re) : HoldsL 48 [(T.agg [(i64 i.b), (i64 i.br), (i64 i.re)]), (i64 e)] [(R.t (bl true))] := by
  have ee : runX Tryz.prog gG noF 20 48 [(T.agg [(i64 i.b), (i64 i.br), (i64 i.re)]), (i64 e)] [((48, 6), .res (.t (bl true))), ((48, 11), .res (.t (bl true))), ((48, 17), .res (.t (bl true)))] = some ([(R.t (bl true))], [], [BinIs Tryz.prog .neq 2 (.tmp 5) (.const (.int .i64 0)) (.int .i64 e) (.int .i64 0) (.bool true),
      BinIs Tryz.prog .geq 2 (.tmp 8) (.tmp 10) (.int .i64 e) (.int .i64 i.br) (.bool true),
      BinIs Tryz.prog .leq 2 (.tmp 14) (.tmp 16) (.int .i64 e) (.int .i64 i.re) (.bool true)]) := by kernel_rfl
  exact sndL 20 _ _ _ _ _ _ ee (.cons (bCmp (d := (!(e == 0))) (by unfold BinIs; kernel_rfl) (neT (by omega))) (.cons (bCmp (d := decide (e ≥ i.br)) (by unfold BinIs; kernel_rfl) (decide_eq_true (by omega))) (.cons (bCmp (d := decide (e ≤ i.re)) (by unfold BinIs; kernel_rfl) (decide_eq_true (by omega))) .nil)))
theorem lives_holds (i : It) (e : Int) : HoldsL 48 [.agg (itL i), i64 e] [.t (bl (livesB i e))] := by
  unfold livesB
  by_cases h : e = 0
  · rw [decide_eq_false (fun hh => hh.1 h)]; exact lv0 i e h
  · by_cases h1 : i.br ≤ e
    · by_cases h2 : e ≤ i.re
      · rw [decide_eq_true ⟨h, h1, h2⟩]; exact lv3 i e h h1 h2
      · rw [decide_eq_false (fun hh => h2 hh.2.2)]; exact lv2 i e h h1 h2
    · rw [decide_eq_false (fun hh => h1 hh.2.1)]; exact lv1 i e h h1
theorem lives_at {i : It} {e : Int} {b : Bool} (h : livesB i e = b) : HoldsL 48 [.agg (itL i), i64 e] [.t (bl b)] := h ▸ lives_holds i e
theorem way0 (i : It) (x y z : Int) (hx : livesB i x = true) : HoldsL 26 [(T.agg [(i64 i.b), (i64 i.br), (i64 i.re)]), (T.sl [(i64 x), (i64 y), (i64 z)] 3 false), nilS] [(R.t (bl true))] := by
  have e : runX Tryz.prog gG noF 20 26 [(T.agg [(i64 i.b), (i64 i.br), (i64 i.re)]), (T.sl [(i64 x), (i64 y), (i64 z)] 3 false), nilS] [((71, 16), .call [(R.t (bl true))])] = some ([(R.t (bl true))], [], [HoldsL 48 [(T.agg [(i64 i.b), (i64 i.br), (i64 i.re)]), (i64 x)] [(R.t (bl true))]]) := by kernel_rfl
  exact sndL 20 _ _ _ _ _ _ e (.cons (lives_at hx) .nil)
theorem way1 (i : It) (x y z : Int) (hx : livesB i x = false) (hy : livesB i y = true) : HoldsL 26 [(T.agg [(i64 i.b), (i64 i.br), (i64 i.re)]), (T.sl [(i64 x), (i64 y), (i64 z)] 3 false), nilS] [(R.t (bl true))] := by
  have e : runX Tryz.prog gG noF 20 26 [(T.agg [(i64 i.b), (i64 i.br), (i64 i.re)]), (T.sl [(i64 x), (i64 y), (i64 z)] 3 false), nilS] [((71, 16), .call [(R.t (bl false))]), ((71, 16), .call [(R.t (bl true))])] = some ([(R.t (bl true))], [], [HoldsL 48 [(T.agg [(i64 i.b), (i64 i.br), (i64 i.re)]), (i64 x)] [(R.t (bl false))],
      HoldsL 48 [(T.agg [(i64 i.b), (i64 i.br), (i64 i.re)]), (i64 y)] [(R.t (bl true))]]) := by kernel_rfl
  exact sndL 20 _ _ _ _ _ _ e (.cons (lives_at hx) (.cons (lives_at hy) .nil))
theorem way2 (i : It) (x y z : Int) (hx : livesB i x = false) (hy : livesB i y = false) (hz : livesB i z = true) : HoldsL 26 [(T.agg [(i64 i.b), (i64 i.br), (i64 i.re)]), (T.sl [(i64 x), (i64 y), (i64 z)] 3 false), nilS] [(R.t (bl true))] := by
  have e : runX Tryz.prog gG noF 20 26 [(T.agg [(i64 i.b), (i64 i.br), (i64 i.re)]), (T.sl [(i64 x), (i64 y), (i64 z)] 3 false), nilS] [((71, 16), .call [(R.t (bl false))]), ((71, 16), .call [(R.t (bl false))]), ((71, 16), .call [(R.t (bl true))])] = some ([(R.t (bl true))], [], [HoldsL 48 [(T.agg [(i64 i.b), (i64 i.br), (i64 i.re)]), (i64 x)] [(R.t (bl false))],
      HoldsL 48 [(T.agg [(i64 i.b), (i64 i.br), (i64 i.re)]), (i64 y)] [(R.t (bl false))],
      HoldsL 48 [(T.agg [(i64 i.b), (i64 i.br), (i64 i.re)]), (i64 z)] [(R.t (bl true))]]) := by kernel_rfl
  exact sndL 20 _ _ _ _ _ _ e (.cons (lives_at hx) (.cons (lives_at hy) (.cons (lives_at hz) .nil)))
theorem way3 (i : It) (x y z : Int) (hx : livesB i x = false) (hy : livesB i y = false) (hz : livesB i z = false) : HoldsL 26 [(T.agg [(i64 i.b), (i64 i.br), (i64 i.re)]), (T.sl [(i64 x), (i64 y), (i64 z)] 3 false), nilS] [(R.t (bl false))] := by
  have e : runX Tryz.prog gG noF 20 26 [(T.agg [(i64 i.b), (i64 i.br), (i64 i.re)]), (T.sl [(i64 x), (i64 y), (i64 z)] 3 false), nilS] [((71, 16), .call [(R.t (bl false))]), ((71, 16), .call [(R.t (bl false))]), ((71, 16), .call [(R.t (bl false))])] = some ([(R.t (bl false))], [], [HoldsL 48 [(T.agg [(i64 i.b), (i64 i.br), (i64 i.re)]), (i64 x)] [(R.t (bl false))],
      HoldsL 48 [(T.agg [(i64 i.b), (i64 i.br), (i64 i.re)]), (i64 y)] [(R.t (bl false))],
      HoldsL 48 [(T.agg [(i64 i.b), (i64 i.br), (i64 i.re)]), (i64 z)] [(R.t (bl false))]]) := by kernel_rfl
  exact sndL 20 _ _ _ _ _ _ e (.cons (lives_at hx) (.cons (lives_at hy) (.cons (lives_at hz) .nil)))
theorem way_holds (i : It) (x y z : Int) : HoldsL 26 [.agg (itL i), .sl [i64 x, i64 y, i64 z] 3 false, nilS] [.t (bl (wayB i [x, y, z]))] := by
  unfold wayB
  simp only [List.any_cons, List.any_nil]
  cases hx : livesB i x with
  | true => exact way0 i x y z hx
  | false => cases hy : livesB i y with
    | true => exact way1 i x y z hx hy
    | false => cases hz : livesB i z with
      | true => exact way2 i x y z hx hy hz
      | false => exact way3 i x y z hx hy hz
theorem way_at {i : It} {x y z : Int} {b : Bool} (h : wayB i [x, y, z] = b) : HoldsL 26 [.agg (itL i), .sl [i64 x, i64 y, i64 z] 3 false, nilS] [.t (bl b)] := h ▸ way_holds i x y z
def goneR : List Int → R
  | [] => .t nilS
  | l => .osl (rows i1L l) l.length 1
theorem bitsLen_0 : HoldsL 51 [T.lit (.int .u64 0)] [.t (i64 0)] := by
  have e : runX Tryz.prog gG noF 10 51 [T.lit (.int .u64 0)] [] = some ([.t (i64 0)], [], []) := by kernel_rfl
  exact sndL 10 _ _ _ _ _ _ e .nil
theorem sw0_0 (x y z : Int)  : HoldsL 10 [(T.agg [(bsT itL [])]), (T.sl [(i64 x), (i64 y), (i64 z)] 3 false), nilS] [(R.t (T.agg [nilS])), (R.t nilS)] := by
  have e : runX Tryz.prog gG noF 20 10 [(T.agg [(bsT itL [])]), (T.sl [(i64 x), (i64 y), (i64 z)] 3 false), nilS] [((10, 13), .ub), ((27, 9), .call [(R.t (i64 0))])] = some ([(R.t (T.agg [nilS])), (R.t nilS)], [], [HoldsL 51 [(T.lit (.int .u64 0))] [(R.t (i64 0))]]) := by kernel_rfl
  exact sndL 20 _ _ _ _ _ _ e (.cons bitsLen_0 .nil)
theorem sw1_0 (i0 : It) (x y z : Int) (hi0 : wayB i0 [x, y, z] = true) : HoldsL 10 [(T.agg [(bsT itL [i0])]), (T.sl [(i64 x), (i64 y), (i64 z)] 3 false), nilS] [(R.t (T.agg [(T.sl [(i64 i0.b), (i64 i0.br), (i64 i0.re)] 1 false)])), (R.t nilS)] := by
  have e : runX Tryz.prog gG noF 20 10 [(T.agg [(bsT itL [i0])]), (T.sl [(i64 x), (i64 y), (i64 z)] 3 false), nilS] [((10, 13), .ub), ((10, 22), .call [(R.t (bl true))]), ((27, 9), .call [(R.t (i64 0))])] = some ([(R.t (T.agg [(T.sl [(i64 i0.b), (i64 i0.br), (i64 i0.re)] 1 false)])), (R.t nilS)], [], [HoldsL 26 [(T.agg [(i64 i0.b), (i64 i0.br), (i64 i0.re)]), (T.sl [(i64 x), (i64 y), (i64 z)] 3 false), nilS] [(R.t (bl true))],
      HoldsL 51 [(T.lit (.int .u64 0))] [(R.t (i64 0))]]) := by kernel_rfl
  exact sndL 20 _ _ _ _ _ _ e (.cons (way_at hi0) (.cons bitsLen_0 .nil))
theorem sw1_1 (i0 : It) (x y z : Int) (hi0 : wayB i0 [x, y, z] = false) (s0 : Int) (hs : sortO [i0.b] [s0]) : HoldsL 10 [(T.agg [(bsT itL [i0])]), (T.sl [(i64 x), (i64 y), (i64 z)] 3 false), nilS] [(R.t (T.agg [nilS])), (R.osl [(i64 s0)] 1 1)] := by
  have e : runX Tryz.prog gG noF 20 10 [(T.agg [(bsT itL [i0])]), (T.sl [(i64 x), (i64 y), (i64 z)] 3 false), nilS] [((10, 13), .ub), ((10, 22), .call [(R.t (bl false))]), ((10, 34), .ho [(2, (.cells [(C.t (i64 i0.b))] false))] (C.tup []) [(2, (.cells [(C.t (i64 s0))] false))])] = some ([(R.t (T.agg [nilS])), (R.osl [(i64 s0)] 1 1)], [], [HoldsL 26 [(T.agg [(i64 i0.b), (i64 i0.br), (i64 i0.re)]), (T.sl [(i64 x), (i64 y), (i64 z)] 3 false), nilS] [(R.t (bl false))],
      HoldsO Tryz.prog gG 27 [(C.osl 2 1 1)] [(2, (.cells [(C.t (i64 i0.b))] false))] (C.tup []) [(2, (.cells [(C.t (i64 s0))] false))],
      (some (.cells [(C.t (i64 i0.b))] false) : Option Blk) = some (.cells [(C.t (i64 i0.b))] false),
      InB [2] (.cells [(C.t (i64 i0.b))] false)]) := by kernel_rfl
  exact sndL 20 _ _ _ _ _ _ e (.cons (way_at hi0) (.cons (sort_at [i0.b] [s0] 2 hs) (.cons rfl (.cons (by first | exact .inr (.inr rfl) | exact .inl ⟨_, _, rfl⟩ | exact .inr (.inl ⟨_, _, _, rfl⟩)) .nil))))
theorem sw2_0 (i0 i1 : It) (x y z : Int) (hi0 : wayB i0 [x, y, z] = true) (hi1 : wayB i1 [x, y, z] = true) : HoldsL 10 [(T.agg [(bsT itL [i0, i1])]), (T.sl [(i64 x), (i64 y), (i64 z)] 3 false), nilS] [(R.t (T.agg [(T.sl [(i64 i0.b), (i64 i0.br), (i64 i0.re), (i64 i1.b), (i64 i1.br), (i64 i1.re)] 2 false)])), (R.t nilS)] := by
  have e : runX Tryz.prog gG noF 20 10 [(T.agg [(bsT itL [i0, i1])]), (T.sl [(i64 x), (i64 y), (i64 z)] 3 false), nilS] [((10, 13), .ub), ((10, 22), .call [(R.t (bl true))]), ((10, 22), .call [(R.t (bl true))]), ((27, 9), .call [(R.t (i64 0))])] = some ([(R.t (T.agg [(T.sl [(i64 i0.b), (i64 i0.br), (i64 i0.re), (i64 i1.b), (i64 i1.br), (i64 i1.re)] 2 false)])), (R.t nilS)], [], [HoldsL 26 [(T.agg [(i64 i0.b), (i64 i0.br), (i64 i0.re)]), (T.sl [(i64 x), (i64 y), (i64 z)] 3 false), nilS] [(R.t (bl true))],
      HoldsL 26 [(T.agg [(i64 i1.b), (i64 i1.br), (i64 i1.re)]), (T.sl [(i64 x), (i64 y), (i64 z)] 3 false), nilS] [(R.t (bl true))],
      HoldsL 51 [(T.lit (.int .u64 0))] [(R.t (i64 0))]]) := by kernel_rfl
  exact sndL 20 _ _ _ _ _ _ e (.cons (way_at hi0) (.cons (way_at hi1) (.cons bitsLen_0 .nil)))
theorem sw2_1 (i0 i1 : It) (x y z : Int) (hi0 : wayB i0 [x, y, z] = true) (hi1 : wayB i1 [x, y, z] = false) (s0 : Int) (hs : sortO [i1.b] [s0]) : HoldsL 10 [(T.agg [(bsT itL [i0, i1])]), (T.sl [(i64 x), (i64 y), (i64 z)] 3 false), nilS] [(R.t (T.agg [(T.sl [(i64 i0.b), (i64 i0.br), (i64 i0.re)] 1 false)])), (R.osl [(i64 s0)] 1 1)] := by
  have e : runX Tryz.prog gG noF 20 10 [(T.agg [(bsT itL [i0, i1])]), (T.sl [(i64 x), (i64 y), (i64 z)] 3 false), nilS] [((10, 13), .ub), ((10, 22), .call [(R.t (bl true))]), ((10, 22), .call [(R.t (bl false))]), ((10, 34), .ho [(3, (.cells [(C.t (i64 i1.b))] false))] (C.tup []) [(3, (.cells [(C.t (i64 s0))] false))])] = some ([(R.t (T.agg [(T.sl [(i64 i0.b), (i64 i0.br), (i64 i0.re)] 1 false)])), (R.osl [(i64 s0)] 1 1)], [], [HoldsL 26 [(T.agg [(i64 i0.b), (i64 i0.br), (i64 i0.re)]), (T.sl [(i64 x), (i64 y), (i64 z)] 3 false), nilS] [(R.t (bl true))],
      HoldsL 26 [(T.agg [(i64 i1.b), (i64 i1.br), (i64 i1.re)]), (T.sl [(i64 x), (i64 y), (i64 z)] 3 false), nilS] [(R.t (bl false))],
      HoldsO Tryz.prog gG 27 [(C.osl 3 1 1)] [(3, (.cells [(C.t (i64 i1.b))] false))] (C.tup []) [(3, (.cells [(C.t (i64 s0))] false))],
      (some (.cells [(C.t (i64 i1.b))] false) : Option Blk) = some (.cells [(C.t (i64 i1.b))] false),
      InB [3] (.cells [(C.t (i64 i1.b))] false)]) := by kernel_rfl
  exact sndL 20 _ _ _ _ _ _ e (.cons (way_at hi0) (.cons (way_at hi1) (.cons (sort_at [i1.b] [s0] 3 hs) (.cons rfl (.cons (by first | exact .inr (.inr rfl) | exact .inl ⟨_, _, rfl⟩ | exact .inr (.inl ⟨_, _, _, rfl⟩)) .nil)))))
theorem sw2_2 (i0 i1 : It) (x y z : Int) (hi0 : wayB i0 [x, y, z] = false) (hi1 : wayB i1 [x, y, z] = true) (s0 : Int) (hs : sortO [i0.b] [s0]) : HoldsL 10 [(T.agg [(bsT itL [i0, i1])]), (T.sl [(i64 x), (i64 y), (i64 z)] 3 false), nilS] [(R.t (T.agg [(T.sl [(i64 i1.b), (i64 i1.br), (i64 i1.re)] 1 false)])), (R.osl [(i64 s0)] 1 1)] := by
  have e : runX Tryz.prog gG noF 20 10 [(T.agg [(bsT itL [i0, i1])]), (T.sl [(i64 x), (i64 y), (i64 z)] 3 false), nilS] [((10, 13), .ub), ((10, 22), .call [(R.t (bl false))]), ((10, 22), .call [(R.t (bl true))]), ((10, 34), .ho [(3, (.cells [(C.t (i64 i0.b))] false))] (C.tup []) [(3, (.cells [(C.t (i64 s0))] false))])] = some ([(R.t (T.agg [(T.sl [(i64 i1.b), (i64 i1.br), (i64 i1.re)] 1 false)])), (R.osl [(i64 s0)] 1 1)], [], [HoldsL 26 [(T.agg [(i64 i0.b), (i64 i0.br), (i64 i0.re)]), (T.sl [(i64 x), (i64 y), (i64 z)] 3 false), nilS] [(R.t (bl false))],
      HoldsL 26 [(T.agg [(i64 i1.b), (i64 i1.br), (i64 i1.re)]), (T.sl [(i64 x), (i64 y), (i64 z)] 3 false), nilS] [(R.t (bl true))],
      HoldsO Tryz.prog gG 27 [(C.osl 3 1 1)] [(3, (.cells [(C.t (i64 i0.b))] false))] (C.tup []) [(3, (.cells [(C.t (i64 s0))] false))],
      (some (.cells [(C.t (i64 i0.b))] false) : Option Blk) = some (.cells [(C.t (i64 i0.b))] false),
      InB [3] (.cells [(C.t (i64 i0.b))] false)]) := by kernel_rfl
  exact sndL 20 _ _ _ _ _ _ e (.cons (way_at hi0) (.cons (way_at hi1) (.cons (sort_at [i0.b] [s0] 3 hs) (.cons rfl (.cons (by first | exact .inr (.inr rfl) | exact .inl ⟨_, _, rfl⟩ | exact .inr (.inl ⟨_, _, _, rfl⟩)) .nil)))))
theorem sw2_3 (i0 i1 : It) (x y z : Int) (hi0 : wayB i0 [x, y, z] = false) (hi1 : wayB i1 [x, y, z] = false) (s0 s1 : Int) (hs : sortO [i0.b, i1.b] [s0, s1]) : HoldsL 10 [(T.agg [(bsT itL [i0, i1])]), (T.sl [(i64 x), (i64 y), (i64 z)] 3 false), nilS] [(R.t (T.agg [nilS])), (R.osl [(i64 s0), (i64 s1)] 2 1)] := by
  have e : runX Tryz.prog gG noF 20 10 [(T.agg [(bsT itL [i0, i1])]), (T.sl [(i64 x), (i64 y), (i64 z)] 3 false), nilS] [((10, 13), .ub), ((10, 22), .call [(R.t (bl false))]), ((10, 22), .call [(R.t (bl false))]), ((10, 34), .ho [(2, (.cells [(C.t (i64 i0.b)), (C.t (i64 i1.b))] false))] (C.tup []) [(2, (.cells [(C.t (i64 s0)), (C.t (i64 s1))] false))])] = some ([(R.t (T.agg [nilS])), (R.osl [(i64 s0), (i64 s1)] 2 1)], [], [HoldsL 26 [(T.agg [(i64 i0.b), (i64 i0.br), (i64 i0.re)]), (T.sl [(i64 x), (i64 y), (i64 z)] 3 false), nilS] [(R.t (bl false))],
      HoldsL 26 [(T.agg [(i64 i1.b), (i64 i1.br), (i64 i1.re)]), (T.sl [(i64 x), (i64 y), (i64 z)] 3 false), nilS] [(R.t (bl false))],
      HoldsO Tryz.prog gG 27 [(C.osl 2 2 1)] [(2, (.cells [(C.t (i64 i0.b)), (C.t (i64 i1.b))] false))] (C.tup []) [(2, (.cells [(C.t (i64 s0)), (C.t (i64 s1))] false))],
      (some (.cells [(C.t (i64 i0.b)), (C.t (i64 i1.b))] false) : Option Blk) = some (.cells [(C.t (i64 i0.b)), (C.t (i64 i1.b))] false),
      InB [2] (.cells [(C.t (i64 i0.b)), (C.t (i64 i1.b))] false)]) := by kernel_rfl
  exact sndL 20 _ _ _ _ _ _ e (.cons (way_at hi0) (.cons (way_at hi1) (.cons (sort_at [i0.b, i1.b] [s0, s1] 2 hs) (.cons rfl (.cons (by first | exact .inr (.inr rfl) | exact .inl ⟨_, _, rfl⟩ | exact .inr (.inl ⟨_, _, _, rfl⟩)) .nil)))))
theorem sw3_0 (i0 i1 i2 : It) (x y z : Int) (hi0 : wayB i0 [x, y, z] = true) (hi1 : wayB i1 [x, y, z] = true) (hi2 : wayB i2 [x, y, z] = true) : HoldsL 10 [(T.agg [(bsT itL [i0, i1, i2])]), (T.sl [(i64 x), (i64 y), (i64 z)] 3 false), nilS] [(R.t (T.agg [(T.sl [(i64 i0.b), (i64 i0.br), (i64 i0.re), (i64 i1.b), (i64 i1.br), (i64 i1.re), (i64 i2.b), (i64 i2.br), (i64 i2.re)] 3 false)])), (R.t nilS)] := by
  have e : runX Tryz.prog gG noF 20 10 [(T.agg [(bsT itL [i0, i1, i2])]), (T.sl [(i64 x), (i64 y), (i64 z)] 3 false), nilS] [((10, 13), .ub), ((10, 22), .call [(R.t (bl true))]), ((10, 22), .call [(R.t (bl true))]), ((10, 22), .call [(R.t (bl true))]), ((27, 9), .call [(R.t (i64 0))])] = some ([(R.t (T.agg [(T.sl [(i64 i0.b), (i64 i0.br), (i64 i0.re), (i64 i1.b), (i64 i1.br), (i64 i1.re), (i64 i2.b), (i64 i2.br), (i64 i2.re)] 3 false)])), (R.t nilS)], [], [HoldsL 26 [(T.agg [(i64 i0.b), (i64 i0.br), (i64 i0.re)]), (T.sl [(i64 x), (i64 y), (i64 z)] 3 false), nilS] [(R.t (bl true))],
      HoldsL 26 [(T.agg [(i64 i1.b), (i64 i1.br), (i64 i1.re)]), (T.sl [(i64 x), (i64 y), (i64 z)] 3 false), nilS] [(R.t (bl true))],
      HoldsL 26 [(T.agg [(i64 i2.b), (i64 i2.br), (i64 i2.re)]), (T.sl [(i64 x), (i64 y), (i64 z)] 3 false), nilS] [(R.t (bl true))],
      HoldsL 51 [(T.lit (.int .u64 0))] [(R.t (i64 0))]]) := by kernel_rfl
  exact sndL 20 _ _ _ _ _ _ e (.cons (way_at hi0) (.cons (way_at hi1) (.cons (way_at hi2) (.cons bitsLen_0 .nil))))
theorem sw3_1 (i0 i1 i2 : It) (x y z : Int) (hi0 : wayB i0 [x, y, z] = true) (hi1 : wayB i1 [x, y, z] = true) (hi2 : wayB i2 [x, y, z] = false) (s0 : Int) (hs : sortO [i2.b] [s0]) : HoldsL 10 [(T.agg [(bsT itL [i0, i1, i2])]), (T.sl [(i64 x), (i64 y), (i64 z)] 3 false), nilS] [(R.t (T.agg [(T.sl [(i64 i0.b), (i64 i0.br), (i64 i0.re), (i64 i1.b), (i64 i1.br), (i64 i1.re)] 2 false)])), (R.osl [(i64 s0)] 1 1)] := by
  have e : runX Tryz.prog gG noF 20 10 [(T.agg [(bsT itL [i0, i1, i2])]), (T.sl [(i64 x), (i64 y), (i64 z)] 3 false), nilS] [((10, 13), .ub), ((10, 22), .call [(R.t (bl true))]), ((10, 22), .call [(R.t (bl true))]), ((10, 22), .call [(R.t (bl false))]), ((10, 34), .ho [(3, (.cells [(C.t (i64 i2.b))] false))] (C.tup []) [(3, (.cells [(C.t (i64 s0))] false))])] = some ([(R.t (T.agg [(T.sl [(i64 i0.b), (i64 i0.br), (i64 i0.re), (i64 i1.b), (i64 i1.br), (i64 i1.re)] 2 false)])), (R.osl [(i64 s0)] 1 1)], [], [HoldsL 26 [(T.agg [(i64 i0.b), (i64 i0.br), (i64 i0.re)]), (T.sl [(i64 x), (i64 y), (i64 z)] 3 false), nilS] [(R.t (bl true))],
      HoldsL 26 [(T.agg [(i64 i1.b), (i64 i1.br), (i64 i1.re)]), (T.sl [(i64 x), (i64 y), (i64 z)] 3 false), nilS] [(R.t (bl true))],
      HoldsL 26 [(T.agg [(i64 i2.b), (i64 i2.br), (i64 i2.re)]), (T.sl [(i64 x), (i64 y), (i64 z)] 3 false), nilS] [(R.t (bl false))],
      HoldsO Tryz.prog gG 27 [(C.osl 3 1 1)] [(3, (.cells [(C.t (i64 i2.b))] false))] (C.tup []) [(3, (.cells [(C.t (i64 s0))] false))],
      (some (.cells [(C.t (i64 i2.b))] false) : Option Blk) = some (.cells [(C.t (i64 i2.b))] false),
      InB [3] (.cells [(C.t (i64 i2.b))] false)]) := by kernel_rfl
  exact sndL 20 _ _ _ _ _ _ e (.cons (way_at hi0) (.cons (way_at hi1) (.cons (way_at hi2) (.cons (sort_at [i2.b] [s0] 3 hs) (.cons rfl (.cons (by first | exact .inr (.inr rfl) | exact .inl ⟨_, _, rfl⟩ | exact .inr (.inl ⟨_, _, _, rfl⟩)) .nil))))))
theorem sw3_2 (i0 i1 i2 : It) (x y z : Int) (hi0 : wayB i0 [x, y, z] = true) (hi1 : wayB i1 [x, y, z] = false) (hi2 : wayB i2 [x, y, z] = true) (s0 : Int) (hs : sortO [i1.b] [s0]) : HoldsL 10 [(T.agg [(bsT itL [i0, i1, i2])]), (T.sl [(i64 x), (i64 y), (i64 z)] 3 false), nilS] [(R.t (T.agg [(T.sl [(i64 i0.b), (i64 i0.br), (i64 i0.re), (i64 i2.b), (i64 i2.br), (i64 i2.re)] 2 false)])), (R.osl [(i64 s0)] 1 1)] := by
  have e : runX Tryz.prog gG noF 20 10 [(T.agg [(bsT itL [i0, i1, i2])]), (T.sl [(i64 x), (i64 y), (i64 z)] 3 false), nilS] [((10, 13), .ub), ((10, 22), .call [(R.t (bl true))]), ((10, 22), .call [(R.t (bl false))]), ((10, 22), .call [(R.t (bl true))]), ((10, 34), .ho [(3, (.cells [(C.t (i64 i1.b))] false))] (C.tup []) [(3, (.cells [(C.t (i64 s0))] false))])] = some ([(R.t (T.agg [(T.sl [(i64 i0.b), (i64 i0.br), (i64 i0.re), (i64 i2.b), (i64 i2.br), (i64 i2.re)] 2 false)])), (R.osl [(i64 s0)] 1 1)], [], [HoldsL 26 [(T.agg [(i64 i0.b), (i64 i0.br), (i64 i0.re)]), (T.sl [(i64 x), (i64 y), (i64 z)] 3 false), nilS] [(R.t (bl true))],
      HoldsL 26 [(T.agg [(i64 i1.b), (i64 i1.br), (i64 i1.re)]), (T.sl [(i64 x), (i64 y), (i64 z)] 3 false), nilS] [(R.t (bl false))],
      HoldsL 26 [(T.agg [(i64 i2.b), (i64 i2.br), (i64 i2.re)]), (T.sl [(i64 x), (i64 y), (i64 z)] 3 false), nilS] [(R.t (bl true))],
      HoldsO Tryz.prog gG 27 [(C.osl 3 1 1)] [(3, (.cells [(C.t (i64 i1.b))] false))] (C.tup []) [(3, (.cells [(C.t (i64 s0))] false))],
      (some (.cells [(C.t (i64 i1.b))] false) : Option Blk) = some (.cells [(C.t (i64 i1.b))] false),
      InB [3] (.cells [(C.t (i64 i1.b))] false)]) := by kernel_rfl
  exact sndL 20 _ _ _ _ _ _ e (.cons (way_at hi0) (.cons (way_at hi1) (.cons (way_at hi2) (.cons (sort_at [i1.b] [s0] 3 hs) (.cons rfl (.cons (by first | exact .inr (.inr rfl) | exact .inl ⟨_, _, rfl⟩ | exact .inr (.inl ⟨_, _, _, rfl⟩)) .nil))))))
theorem sw3_3 (i0 i1 i2 : It) (x y z : Int) (hi0 : wayB i0 [x, y, z] = true) (hi1 : wayB i1 [x, y, z] = false) (hi2 : wayB i2 [x, y, z] = false) (s0 s1 : Int) (hs : sortO [i1.b, i2.b] [s0, s1]) : HoldsL 10 [(T.agg [(bsT itL [i0, i1, i2])]), (T.sl [(i64 x), (i64 y), (i64 z)] 3 false), nilS] [(R.t (T.agg [(T.sl [(i64 i0.b), (i64 i0.br), (i64 i0.re)] 1 false)])), (R.osl [(i64 s0), (i64 s1)] 2 1)] := by
  have e : runX Tryz.prog gG noF 20 10 [(T.agg [(bsT itL [i0, i1, i2])]), (T.sl [(i64 x), (i64 y), (i64 z)] 3 false), nilS] [((10, 13), .ub), ((10, 22), .call [(R.t (bl true))]), ((10, 22), .call [(R.t (bl false))]), ((10, 22), .call [(R.t (bl false))]), ((10, 34), .ho [(3, (.cells [(C.t (i64 i1.b)), (C.t (i64 i2.b))] false))] (C.tup []) [(3, (.cells [(C.t (i64 s0)), (C.t (i64 s1))] false))])] = some ([(R.t (T.agg [(T.sl [(i64 i0.b), (i64 i0.br), (i64 i0.re)] 1 false)])), (R.osl [(i64 s0), (i64 s1)] 2 1)], [], [HoldsL 26 [(T.agg [(i64 i0.b), (i64 i0.br), (i64 i0.re)]), (T.sl [(i64 x), (i64 y), (i64 z)] 3 false), nilS] [(R.t (bl true))],
      HoldsL 26 [(T.agg [(i64 i1.b), (i64 i1.br), (i64 i1.re)]), (T.sl [(i64 x), (i64 y), (i64 z)] 3 false), nilS] [(R.t (bl false))],
      HoldsL 26 [(T.agg [(i64 i2.b), (i64 i2.br), (i64 i2.re)]), (T.sl [(i64 x), (i64 y), (i64 z)] 3 false), nilS] [(R.t (bl false))],
      HoldsO Tryz.prog gG 27 [(C.osl 3 2 1)] [(3, (.cells [(C.t (i64 i1.b)), (C.t (i64 i2.b))] false))] (C.tup []) [(3, (.cells [(C.t (i64 s0)), (C.t (i64 s1))] false))],
      (some (.cells [(C.t (i64 i1.b)), (C.t (i64 i2.b))] false) : Option Blk) = some (.cells [(C.t (i64 i1.b)), (C.t (i64 i2.b))] false),
      InB [3] (.cells [(C.t (i64 i1.b)), (C.t (i64 i2.b))] false)]) := by kernel_rfl
  exact sndL 20 _ _ _ _ _ _ e (.cons (way_at hi0) (.cons (way_at hi1) (.cons (way_at hi2) (.cons (sort_at [i1.b, i2.b] [s0, s1] 3 hs) (.cons rfl (.cons (by first | exact .inr (.inr rfl) | exact .inl ⟨_, _, rfl⟩ | exact .inr (.inl ⟨_, _, _, rfl⟩)) .nil))))))
theorem sw3_4 (i0 i1 i2 : It) (x y z : Int) (hi0 : wayB i0 [x, y, z] = false) (hi1 : wayB i1 [x, y, z] = true) (hi2 : wayB i2 [x, y, z] = true) (s0 : Int) (hs : sortO [i0.b] [s0]) : HoldsL 10 [(T.agg [(bsT itL [i0, i1, i2])]), (T.sl [(i64 x), (i64 y), (i64 z)] 3 false), nilS] [(R.t (T.agg [(T.sl [(i64 i1.b), (i64 i1.br), (i64 i1.re), (i64 i2.b), (i64 i2.br), (i64 i2.re)] 2 false)])), (R.osl [(i64 s0)] 1 1)] := by
  have e : runX Tryz.prog gG noF 20 10 [(T.agg [(bsT itL [i0, i1, i2])]), (T.sl [(i64 x), (i64 y), (i64 z)] 3 false), nilS] [((10, 13), .ub), ((10, 22), .call [(R.t (bl false))]), ((10, 22), .call [(R.t (bl true))]), ((10, 22), .call [(R.t (bl true))]), ((10, 34), .ho [(3, (.cells [(C.t (i64 i0.b))] false))] (C.tup []) [(3, (.cells [(C.t (i64 s0))] false))])] = some ([(R.t (T.agg [(T.sl [(i64 i1.b), (i64 i1.br), (i64 i1.re), (i64 i2.b), (i64 i2.br), (i64 i2.re)] 2 false)])), (R.osl [(i64 s0)] 1 1)], [], [HoldsL 26 [(T.agg [(i64 i0.b), (i64 i0.br), (i64 i0.re)]), (T.sl [(i64 x), (i64 y), (i64 z)] 3 false), nilS] [(R.t (bl false))],
      HoldsL 26 [(T.agg [(i64 i1.b), (i64 i1.br), (i64 i1.re)]), (T.sl [(i64 x), (i64 y), (i64 z)] 3 false), nilS] [(R.t (bl true))],
      HoldsL 26 [(T.agg [(i64 i2.b), (i64 i2.br), (i64 i2.re)]), (T.sl [(i64 x), (i64 y), (i64 z)] 3 false), nilS] [(R.t (bl true))],
      HoldsO Tryz.prog gG 27 [(C.osl 3 1 1)] [(3, (.cells [(C.t (i64 i0.b))] false))] (C.tup []) [(3, (.cells [(C.t (i64 s0))] false))],
      (some (.cells [(C.t (i64 i0.b))] false) : Option Blk) = some (.cells [(C.t (i64 i0.b))] false),
      InB [3] (.cells [(C.t (i64 i0.b))] false)]) := by kernel_rfl
  exact sndL 20 _ _ _ _ _ _ e (.cons (way_at hi0) (.cons (way_at hi1) (.cons (way_at hi2) (.cons (sort_at [i0.b] [s0] 3 hs) (.cons rfl (.cons (by first | exact .inr (.inr rfl) | exact .inl ⟨_, _, rfl⟩ | exact .inr (.inl ⟨_, _, _, rfl⟩)) .nil))))))
theorem sw3_5 (i0 i1 i2 : It) (x y z : Int) (hi0 : wayB i0 [x, y, z] = false) (hi1 : wayB i1 [x, y, z] = true) (hi2 : wayB i2 [x, y, z] = false) (s0 s1 : Int) (hs : sortO [i0.b, i2.b] [s0, s1]) : HoldsL 10 [(T.agg [(bsT itL [i0, i1, i2])]), (T.sl [(i64 x), (i64 y), (i64 z)] 3 false), nilS] [(R.t (T.agg [(T.sl [(i64 i1.b), (i64 i1.br), (i64 i1.re)] 1 false)])), (R.osl [(i64 s0), (i64 s1)] 2 1)] := by
  have e : runX Tryz.prog gG noF 20 10 [(T.agg [(bsT itL [i0, i1, i2])]), (T.sl [(i64 x), (i64 y), (i64 z)] 3 false), nilS] [((10, 13), .ub), ((10, 22), .call [(R.t (bl false))]), ((10, 22), .call [(R.t (bl true))]), ((10, 22), .call [(R.t (bl false))]), ((10, 34), .ho [(3, (.cells [(C.t (i64 i0.b)), (C.t (i64 i2.b))] false))] (C.tup []) [(3, (.cells [(C.t (i64 s0)), (C.t (i64 s1))] false))])] = some ([(R.t (T.agg [(T.sl [(i64 i1.b), (i64 i1.br), (i64 i1.re)] 1 false)])), (R.osl [(i64 s0), (i64 s1)] 2 1)], [], [HoldsL 26 [(T.agg [(i64 i0.b), (i64 i0.br), (i64 i0.re)]), (T.sl [(i64 x), (i64 y), (i64 z)] 3 false), nilS] [(R.t (bl false))],
      HoldsL 26 [(T.agg [(i64 i1.b), (i64 i1.br), (i64 i1.re)]), (T.sl [(i64 x), (i64 y), (i64 z)] 3 false), nilS] [(R.t (bl true))],
      HoldsL 26 [(T.agg [(i64 i2.b), (i64 i2.br), (i64 i2.re)]), (T.sl [(i64 x), (i64 y), (i64 z)] 3 false), nilS] [(R.t (bl false))],
      HoldsO Tryz.prog gG 27 [(C.osl 3 2 1)] [(3, (.cells [(C.t (i64 i0.b)), (C.t (i64 i2.b))] false))] (C.tup []) [(3, (.cells [(C.t (i64 s0)), (C.t (i64 s1))] false))],
      (some (.cells [(C.t (i64 i0.b)), (C.t (i64 i2.b))] false) : Option Blk) = some (.cells [(C.t (i64 i0.b)), (C.t (i64 i2.b))] false),
      InB [3] (.cells [(C.t (i64 i0.b)), (C.t (i64 i2.b))] false)]) := by kernel_rfl
  exact sndL 20 _ _ _ _ _ _ e (.cons (way_at hi0) (.cons (way_at hi1) (.cons (way_at hi2) (.cons (sort_at [i0.b, i2.b] [s0, s1] 3 hs) (.cons rfl (.cons (by first | exact .inr (.inr rfl) | exact .inl ⟨_, _, rfl⟩ | exact .inr (.inl ⟨_, _, _, rfl⟩)) .nil))))))
theorem sw3_6 (i0 i1 i2 : It) (x y z : Int) (hi0 : wayB i0 [x, y, z] = false) (hi1 : wayB i1 [x, y, z] = false) (hi2 : wayB i2 [x, y, z] = true) (s0 s1 : Int) (hs : sortO [i0.b, i1.b] [s0, s1]) : HoldsL 10 [(T.agg [(bsT itL [i0, i1, i2])]), (T.sl [(i64 x), (i64 y), (i64 z)] 3 false), nilS] [(R.t (T.agg [(T.sl [(i64 i2.b), (i64 i2.br), (i64 i2.re)] 1 false)])), (R.osl [(i64 s0), (i64 s1)] 2 1)] := by
  have e : runX Tryz.prog gG noF 20 10 [(T.agg [(bsT itL [i0, i1, i2])]), (T.sl [(i64 x), (i64 y), (i64 z)] 3 false), nilS] [((10, 13), .ub), ((10, 22), .call [(R.t (bl false))]), ((10, 22), .call [(R.t (bl false))]), ((10, 22), .call [(R.t (bl true))]), ((10, 34), .ho [(3, (.cells [(C.t (i64 i0.b)), (C.t (i64 i1.b))] false))] (C.tup []) [(3, (.cells [(C.t (i64 s0)), (C.t (i64 s1))] false))])] = some ([(R.t (T.agg [(T.sl [(i64 i2.b), (i64 i2.br), (i64 i2.re)] 1 false)])), (R.osl [(i64 s0), (i64 s1)] 2 1)], [], [HoldsL 26 [(T.agg [(i64 i0.b), (i64 i0.br), (i64 i0.re)]), (T.sl [(i64 x), (i64 y), (i64 z)] 3 false), nilS] [(R.t (bl false))],
      HoldsL 26 [(T.agg [(i64 i1.b), (i64 i1.br), (i64 i1.re)]), (T.sl [(i64 x), (i64 y), (i64 z)] 3 false), nilS] [(R.t (bl false))],
      HoldsL 26 [(T.agg [(i64 i2.b), (i64 i2.br), (i64 i2.re)]), (T.sl [(i64 x), (i64 y), (i64 z)] 3 false), nilS] [(R.t (bl true))],
      HoldsO Tryz.prog gG 27 [(C.osl 3 2 1)] [(3, (.cells [(C.t (i64 i0.b)), (C.t (i64 i1.b))] false))] (C.tup []) [(3, (.cells [(C.t (i64 s0)), (C.t (i64 s1))] false))],
      (some (.cells [(C.t (i64 i0.b)), (C.t (i64 i1.b))] false) : Option Blk) = some (.cells [(C.t (i64 i0.b)), (C.t (i64 i1.b))] false),
      InB [3] (.cells [(C.t (i64 i0.b)), (C.t (i64 i1.b))] false)]) := by kernel_rfl
  exact sndL 20 _ _ _ _ _ _ e (.cons (way_at hi0) (.cons (way_at hi1) (.cons (way_at hi2) (.cons (sort_at [i0.b, i1.b] [s0, s1] 3 hs) (.cons rfl (.cons (by first | exact .inr (.inr rfl) | exact .inl ⟨_, _, rfl⟩ | exact .inr (.inl ⟨_, _, _, rfl⟩)) .nil))))))
theorem sw3_7 (i0 i1 i2 : It) (x y z : Int) (hi0 : wayB i0 [x, y, z] = false) (hi1 : wayB i1 [x, y, z] = false) (hi2 : wayB i2 [x, y, z] = false) (s0 s1 s2 : Int) (hs : sortO [i0.b, i1.b, i2.b] [s0, s1, s2]) : HoldsL 10 [(T.agg [(bsT itL [i0, i1, i2])]), (T.sl [(i64 x), (i64 y), (i64 z)] 3 false), nilS] [(R.t (T.agg [nilS])), (R.osl [(i64 s0), (i64 s1), (i64 s2)] 3 1)] := by
  have e : runX Tryz.prog gG noF 20 10 [(T.agg [(bsT itL [i0, i1, i2])]), (T.sl [(i64 x), (i64 y), (i64 z)] 3 false), nilS] [((10, 13), .ub), ((10, 22), .call [(R.t (bl false))]), ((10, 22), .call [(R.t (bl false))]), ((10, 22), .call [(R.t (bl false))]), ((10, 34), .ho [(2, (.cells [(C.t (i64 i0.b)), (C.t (i64 i1.b)), (C.t (i64 i2.b))] false))] (C.tup []) [(2, (.cells [(C.t (i64 s0)), (C.t (i64 s1)), (C.t (i64 s2))] false))])] = some ([(R.t (T.agg [nilS])), (R.osl [(i64 s0), (i64 s1), (i64 s2)] 3 1)], [], [HoldsL 26 [(T.agg [(i64 i0.b), (i64 i0.br), (i64 i0.re)]), (T.sl [(i64 x), (i64 y), (i64 z)] 3 false), nilS] [(R.t (bl false))],
      HoldsL 26 [(T.agg [(i64 i1.b), (i64 i1.br), (i64 i1.re)]), (T.sl [(i64 x), (i64 y), (i64 z)] 3 false), nilS] [(R.t (bl false))],
      HoldsL 26 [(T.agg [(i64 i2.b), (i64 i2.br), (i64 i2.re)]), (T.sl [(i64 x), (i64 y), (i64 z)] 3 false), nilS] [(R.t (bl false))],
      HoldsO Tryz.prog gG 27 [(C.osl 2 3 1)] [(2, (.cells [(C.t (i64 i0.b)), (C.t (i64 i1.b)), (C.t (i64 i2.b))] false))] (C.tup []) [(2, (.cells [(C.t (i64 s0)), (C.t (i64 s1)), (C.t (i64 s2))] false))],
      (some (.cells [(C.t (i64 i0.b)), (C.t (i64 i1.b)), (C.t (i64 i2.b))] false) : Option Blk) = some (.cells [(C.t (i64 i0.b)), (C.t (i64 i1.b)), (C.t (i64 i2.b))] false),
      InB [2] (.cells [(C.t (i64 i0.b)), (C.t (i64 i1.b)), (C.t (i64 i2.b))] false)]) := by kernel_rfl
  exact sndL 20 _ _ _ _ _ _ e (.cons (way_at hi0) (.cons (way_at hi1) (.cons (way_at hi2) (.cons (sort_at [i0.b, i1.b, i2.b] [s0, s1, s2] 2 hs) (.cons rfl (.cons (by first | exact .inr (.inr rfl) | exact .inl ⟨_, _, rfl⟩ | exact .inr (.inl ⟨_, _, _, rfl⟩)) .nil))))))
theorem RLes.refl (a : List R) : RLes a a := fun _ _ _ _ _ h => h
theorem len1 {α : Type} {l : List α} (h : l.length = 1) : ∃ a, l = [a] := by match l, h with | [a], _ => exact ⟨a, rfl⟩
theorem len2 {α : Type} {l : List α} (h : l.length = 2) : ∃ a b, l = [a, b] := by match l, h with | [a, b], _ => exact ⟨a, b, rfl⟩
theorem len3 {α : Type} {l : List α} (h : l.length = 3) : ∃ a b c, l = [a, b, c] := by match l, h with | [a, b, c], _ => exact ⟨a, b, c, rfl⟩
theorem sweep_any (bag : List It) (hb : bag.length ≤ 3) (x y z : Int) : ∃ gone : List Int, gone.Perm ((bag.filter fun i => !wayB i [x, y, z]).map It.b) ∧ HoldsL 10 [.agg [bsT itL bag], .sl [i64 x, i64 y, i64 z] 3 false, nilS] [.t (.agg [bsT itL (bag.filter fun i => wayB i [x, y, z])]), goneR gone] := by
  match bag, hb with
  | [], _ =>
    have e1 : [].filter (fun i => wayB i [x, y, z]) = [] := by simp []
    have e2 : ([].filter (fun i => !wayB i [x, y, z])).map It.b = [] := by simp []
    rw [e1, e2]
    exact ⟨[], .refl _, holds_res (.t (tle_agg (.cons (bs_out itL []) .nil)) (RLes.refl _)) (sw0_0  x y z )⟩
  | [i0], _ =>
    cases hi0 : wayB i0 [x, y, z] with
    | true =>
      have e1 : [i0].filter (fun i => wayB i [x, y, z]) = [i0] := by simp [hi0]
      have e2 : ([i0].filter (fun i => !wayB i [x, y, z])).map It.b = [] := by simp [hi0]
      rw [e1, e2]
      exact ⟨[], .refl _, holds_res (.t (tle_agg (.cons (bs_out itL [i0]) .nil)) (RLes.refl _)) (sw1_0 i0 x y z hi0)⟩
    | false =>
      have e1 : [i0].filter (fun i => wayB i [x, y, z]) = [] := by simp [hi0]
      have e2 : ([i0].filter (fun i => !wayB i [x, y, z])).map It.b = [i0.b] := by simp [hi0]
      rw [e1, e2]
      obtain ⟨l, hp, hs⟩ := sort_any [i0.b] (by simp) (by simp)
      obtain ⟨s0, rfl⟩ := len1 (l := l) (by simpa using hp.length_eq)
      exact ⟨_, hp, holds_res (.t (tle_agg (.cons (bs_out itL []) .nil)) (RLes.refl _)) (sw1_1 i0 x y z hi0 s0 hs)⟩
  | [i0, i1], _ =>
    cases hi0 : wayB i0 [x, y, z] with
    | true =>
      cases hi1 : wayB i1 [x, y, z] with
      | true =>
        have e1 : [i0, i1].filter (fun i => wayB i [x, y, z]) = [i0, i1] := by simp [hi0, hi1]
        have e2 : ([i0, i1].filter (fun i => !wayB i [x, y, z])).map It.b = [] := by simp [hi0, hi1]
        rw [e1, e2]
        exact ⟨[], .refl _, holds_res (.t (tle_agg (.cons (bs_out itL [i0, i1]) .nil)) (RLes.refl _)) (sw2_0 i0 i1 x y z hi0 hi1)⟩
      | false =>
        have e1 : [i0, i1].filter (fun i => wayB i [x, y, z]) = [i0] := by simp [hi0, hi1]
        have e2 : ([i0, i1].filter (fun i => !wayB i [x, y, z])).map It.b = [i1.b] := by simp [hi0, hi1]
        rw [e1, e2]
        obtain ⟨l, hp, hs⟩ := sort_any [i1.b] (by simp) (by simp)
        obtain ⟨s0, rfl⟩ := len1 (l := l) (by simpa using hp.length_eq)
        exact ⟨_, hp, holds_res (.t (tle_agg (.cons (bs_out itL [i0]) .nil)) (RLes.refl _)) (sw2_1 i0 i1 x y z hi0 hi1 s0 hs)⟩
    | false =>
      cases hi1 : wayB i1 [x, y, z] with
      | true =>
        have e1 : [i0, i1].filter (fun i => wayB i [x, y, z]) = [i1] := by simp [hi0, hi1]
        have e2 : ([i0, i1].filter (fun i => !wayB i [x, y, z])).map It.b = [i0.b] := by simp [hi0, hi1]
        rw [e1, e2]
        obtain ⟨l, hp, hs⟩ := sort_any [i0.b] (by simp) (by simp)
        obtain ⟨s0, rfl⟩ := len1 (l := l) (by simpa using hp.length_eq)
        exact ⟨_, hp, holds_res (.t (tle_agg (.cons (bs_out itL [i1]) .nil)) (RLes.refl _)) (sw2_2 i0 i1 x y z hi0 hi1 s0 hs)⟩
      | false =>
        have e1 : [i0, i1].filter (fun i => wayB i [x, y, z]) = [] := by simp [hi0, hi1]
        have e2 : ([i0, i1].filter (fun i => !wayB i [x, y, z])).map It.b = [i0.b, i1.b] := by simp [hi0, hi1]
        rw [e1, e2]
        obtain ⟨l, hp, hs⟩ := sort_any [i0.b, i1.b] (by simp) (by simp)
        obtain ⟨s0, s1, rfl⟩ := len2 (l := l) (by simpa using hp.length_eq)
        exact ⟨_, hp, holds_res (.t (tle_agg (.cons (bs_out itL []) .nil)) (RLes.refl _)) (sw2_3 i0 i1 x y z hi0 hi1 s0 s1 hs)⟩
  | [i0, i1, i2], _ =>
    cases hi0 : wayB i0 [x, y, z] with
    | true =>
      cases hi1 : wayB i1 [x, y, z] with
      | true =>
        cases hi2 : wayB i2 [x, y, z] with
        | true =>
          have e1 : [i0, i1, i2].filter (fun i => wayB i [x, y, z]) = [i0, i1, i2] := by simp [hi0, hi1, hi2]
          have e2 : ([i0, i1, i2].filter (fun i => !wayB i [x, y, z])).map It.b = [] := by simp [hi0, hi1, hi2]
          rw [e1, e2]
          exact ⟨[], .refl _, holds_res (.t (tle_agg (.cons (bs_out itL [i0, i1, i2]) .nil)) (RLes.refl _)) (sw3_0 i0 i1 i2 x y z hi0 hi1 hi2)⟩
        | false =>
          have e1 : [i0, i1, i2].filter (fun i => wayB i [x, y, z]) = [i0, i1] := by simp [hi0, hi1, hi2]
          have e2 : ([i0, i1, i2].filter (fun i => !wayB i [x, y, z])).map It.b = [i2.b] := by simp [hi0, hi1, hi2]
          rw [e1, e2]
          obtain ⟨l, hp, hs⟩ := sort_any [i2.b] (by simp) (by simp)
          obtain ⟨s0, rfl⟩ := len1 (l := l) (by simpa using hp.length_eq)
          exact ⟨_, hp, holds_res (.t (tle_agg (.cons (bs_out itL [i0, i1]) .nil)) (RLes.refl _)) (sw3_1 i0 i1 i2 x y z hi0 hi1 hi2 s0 hs)⟩
      | false =>
        cases hi2 : wayB i2 [x, y, z] with
        | true =>
          have e1 : [i0, i1, i2].filter (fun i => wayB i [x, y, z]) = [i0, i2] := by simp [hi0, hi1, hi2]
          have e2 : ([i0, i1, i2].filter (fun i => !wayB i [x, y, z])).map It.b = [i1.b] := by simp [hi0, hi1, hi2]
          rw [e1, e2]
          obtain ⟨l, hp, hs⟩ := sort_any [i1.b] (by simp) (by simp)
          obtain ⟨s0, rfl⟩ := len1 (l := l) (by simpa using hp.length_eq)
          exact ⟨_, hp, holds_res (.t (tle_agg (.cons (bs_out itL [i0, i2]) .nil)) (RLes.refl _)) (sw3_2 i0 i1 i2 x y z hi0 hi1 hi2 s0 hs)⟩
        | false =>
          have e1 : [i0, i1, i2].filter (fun i => wayB i [x, y, z]) = [i0] := by simp [hi0, hi1, hi2]
          have e2 : ([i0, i1, i2].filter (fun i => !wayB i [x, y, z])).map It.b = [i1.b, i2.b] := by simp [hi0, hi1, hi2]
          rw [e1, e2]
          obtain ⟨l, hp, hs⟩ := sort_any [i1.b, i2.b] (by simp) (by simp)
          obtain ⟨s0, s1, rfl⟩ := len2 (l := l) (by simpa using hp.length_eq)
          exact ⟨_, hp, holds_res (.t (tle_agg (.cons (bs_out itL [i0]) .nil)) (RLes.refl _)) (sw3_3 i0 i1 i2 x y z hi0 hi1 hi2 s0 s1 hs)⟩
    | false =>
      cases hi1 : wayB i1 [x, y, z] with
      | true =>
        cases hi2 : wayB i2 [x, y, z] with
        | true =>
          have e1 : [i0, i1, i2].filter (fun i => wayB i [x, y, z]) = [i1, i2] := by simp [hi0, hi1, hi2]
          have e2 : ([i0, i1, i2].filter (fun i => !wayB i [x, y, z])).map It.b = [i0.b] := by simp [hi0, hi1, hi2]
          rw [e1, e2]
          obtain ⟨l, hp, hs⟩ := sort_any [i0.b] (by simp) (by simp)
          obtain ⟨s0, rfl⟩ := len1 (l := l) (by simpa using hp.length_eq)
          exact ⟨_, hp, holds_res (.t (tle_agg (.cons (bs_out itL [i1, i2]) .nil)) (RLes.refl _)) (sw3_4 i0 i1 i2 x y z hi0 hi1 hi2 s0 hs)⟩
        | false =>
          have e1 : [i0, i1, i2].filter (fun i => wayB i [x, y, z]) = [i1] := by simp [hi0, hi1, hi2]
          have e2 : ([i0, i1, i2].filter (fun i => !wayB i [x, y, z])).map It.b = [i0.b, i2.b] := by simp [hi0, hi1, hi2]
          rw [e1, e2]
          obtain ⟨l, hp, hs⟩ := sort_any [i0.b, i2.b] (by simp) (by simp)
          obtain ⟨s0, s1, rfl⟩ := len2 (l := l) (by simpa using hp.length_eq)
          exact ⟨_, hp, holds_res (.t (tle_agg (.cons (bs_out itL [i1]) .nil)) (RLes.refl _)) (sw3_5 i0 i1 i2 x y z hi0 hi1 hi2 s0 s1 hs)⟩
      | false =>
        cases hi2 : wayB i2 [x, y, z] with
        | true =>
          have e1 : [i0, i1, i2].filter (fun i => wayB i [x, y, z]) = [i2] := by simp [hi0, hi1, hi2]
          have e2 : ([i0, i1, i2].filter (fun i => !wayB i [x, y, z])).map It.b = [i0.b, i1.b] := by simp [hi0, hi1, hi2]
          rw [e1, e2]
          obtain ⟨l, hp, hs⟩ := sort_any [i0.b, i1.b] (by simp) (by simp)
          obtain ⟨s0, s1, rfl⟩ := len2 (l := l) (by simpa using hp.length_eq)
          exact ⟨_, hp, holds_res (.t (tle_agg (.cons (bs_out itL [i2]) .nil)) (RLes.refl _)) (sw3_6 i0 i1 i2 x y z hi0 hi1 hi2 s0 s1 hs)⟩
        | false =>
          have e1 : [i0, i1, i2].filter (fun i => wayB i [x, y, z]) = [] := by simp [hi0, hi1, hi2]
          have e2 : ([i0, i1, i2].filter (fun i => !wayB i [x, y, z])).map It.b = [i0.b, i1.b, i2.b] := by simp [hi0, hi1, hi2]
          rw [e1, e2]
          obtain ⟨l, hp, hs⟩ := sort_any [i0.b, i1.b, i2.b] (by simp) (by simp)
          obtain ⟨s0, s1, s2, rfl⟩ := len3 (l := l) (by simpa using hp.length_eq)
          exact ⟨_, hp, holds_res (.t (tle_agg (.cons (bs_out itL []) .nil)) (RLes.refl _)) (sw3_7 i0 i1 i2 x y z hi0 hi1 hi2 s0 s1 s2 hs)⟩
  | _ :: _ :: _ :: _ :: _, h => simp at h
theorem ret0 ( j : It) (h0 : 0 ≤ j.b) (h1 : j.b < 64) (h2 : 0 ≤ j.br) (h3 : j.br ≤ j.re)  : HoldsL 145 [(T.agg [(bsT itL [])]), (T.agg [(i64 j.b), (i64 j.br), (i64 j.re)])] [(R.t (T.agg [(T.sl [(i64 j.b), (i64 j.br), (i64 j.re)] 1 false)])), (R.t (i64 0))] := by
  have e : runX Tryz.prog gG noF 20 145 [(T.agg [(bsT itL [])]), (T.agg [(i64 j.b), (i64 j.br), (i64 j.re)])] [((145, 9), .res (.t (bl false))), ((145, 13), .res (.t (bl false))), ((145, 19), .res (.t (bl false))), ((145, 25), .res (.t (bl false))), ((145, 30), .ub), ((145, 35), .ub)] = some ([(R.t (T.agg [(T.sl [(i64 j.b), (i64 j.br), (i64 j.re)] 1 false)])), (R.t (i64 0))], [], [BinIs Tryz.prog .lss 3 (.tmp 8) (.const (.int .i64 0)) (.int .i64 j.b) (.int .i64 0) (.bool false),
      BinIs Tryz.prog .geq 3 (.tmp 12) (.const (.int .i64 64)) (.int .i64 j.b) (.int .i64 64) (.bool false),
      BinIs Tryz.prog .lss 2 (.tmp 18) (.const (.int .i64 0)) (.int .i64 j.br) (.int .i64 0) (.bool false),
      BinIs Tryz.prog .gtr 2 (.tmp 22) (.tmp 24) (.int .i64 j.br) (.int .i64 j.re) (.bool false)]) := by kernel_rfl
  exact sndL 20 _ _ _ _ _ _ e (.cons (bCmp (d := decide (j.b < 0)) (by unfold BinIs; kernel_rfl) (decide_eq_false (by omega))) (.cons (bCmp (d := decide (j.b ≥ 64)) (by unfold BinIs; kernel_rfl) (decide_eq_false (by omega))) (.cons (bCmp (d := decide (j.br < 0)) (by unfold BinIs; kernel_rfl) (decide_eq_false (by omega))) (.cons (bCmp (d := decide (j.br > j.re)) (by unfold BinIs; kernel_rfl) (decide_eq_false (by omega))) .nil))))
theorem ret1 (i0 j : It) (h0 : 0 ≤ j.b) (h1 : j.b < 64) (h2 : 0 ≤ j.br) (h3 : j.br ≤ j.re) (g0 : i0.b ≠ j.b) : HoldsL 145 [(T.agg [(bsT itL [i0])]), (T.agg [(i64 j.b), (i64 j.br), (i64 j.re)])] [(R.t (T.agg [(T.sl [(i64 i0.b), (i64 i0.br), (i64 i0.re), (i64 j.b), (i64 j.br), (i64 j.re)] 2 false)])), (R.t (i64 0))] := by
  have e : runX Tryz.prog gG noF 20 145 [(T.agg [(bsT itL [i0])]), (T.agg [(i64 j.b), (i64 j.br), (i64 j.re)])] [((145, 9), .res (.t (bl false))), ((145, 13), .res (.t (bl false))), ((145, 19), .res (.t (bl false))), ((145, 25), .res (.t (bl false))), ((145, 30), .ub), ((151, 8), .res (.t (bl false))), ((145, 35), .ub)] = some ([(R.t (T.agg [(T.sl [(i64 i0.b), (i64 i0.br), (i64 i0.re), (i64 j.b), (i64 j.br), (i64 j.re)] 2 false)])), (R.t (i64 0))], [], [BinIs Tryz.prog .lss 3 (.tmp 8) (.const (.int .i64 0)) (.int .i64 j.b) (.int .i64 0) (.bool false),
      BinIs Tryz.prog .geq 3 (.tmp 12) (.const (.int .i64 64)) (.int .i64 j.b) (.int .i64 64) (.bool false),
      BinIs Tryz.prog .lss 2 (.tmp 18) (.const (.int .i64 0)) (.int .i64 j.br) (.int .i64 0) (.bool false),
      BinIs Tryz.prog .gtr 2 (.tmp 22) (.tmp 24) (.int .i64 j.br) (.int .i64 j.re) (.bool false),
      BinIs Tryz.prog .eql 3 (.tmp 5) (.tmp 7) (.int .i64 i0.b) (.int .i64 j.b) (.bool false)]) := by kernel_rfl
  exact sndL 20 _ _ _ _ _ _ e (.cons (bCmp (d := decide (j.b < 0)) (by unfold BinIs; kernel_rfl) (decide_eq_false (by omega))) (.cons (bCmp (d := decide (j.b ≥ 64)) (by unfold BinIs; kernel_rfl) (decide_eq_false (by omega))) (.cons (bCmp (d := decide (j.br < 0)) (by unfold BinIs; kernel_rfl) (decide_eq_false (by omega))) (.cons (bCmp (d := decide (j.br > j.re)) (by unfold BinIs; kernel_rfl) (decide_eq_false (by omega))) (.cons (bCmp (d := (i0.b == j.b)) (by unfold BinIs; kernel_rfl) (eqF (by omega))) .nil)))))
theorem ret2 (i0 i1 j : It) (h0 : 0 ≤ j.b) (h1 : j.b < 64) (h2 : 0 ≤ j.br) (h3 : j.br ≤ j.re) (g0 : i0.b ≠ j.b) (g1 : i1.b ≠ j.b) : HoldsL 145 [(T.agg [(bsT itL [i0, i1])]), (T.agg [(i64 j.b), (i64 j.br), (i64 j.re)])] [(R.t (T.agg [(T.sl [(i64 i0.b), (i64 i0.br), (i64 i0.re), (i64 i1.b), (i64 i1.br), (i64 i1.re), (i64 j.b), (i64 j.br), (i64 j.re)] 3 false)])), (R.t (i64 0))] := by
  have e : runX Tryz.prog gG noF 20 145 [(T.agg [(bsT itL [i0, i1])]), (T.agg [(i64 j.b), (i64 j.br), (i64 j.re)])] [((145, 9), .res (.t (bl false))), ((145, 13), .res (.t (bl false))), ((145, 19), .res (.t (bl false))), ((145, 25), .res (.t (bl false))), ((145, 30), .ub), ((151, 8), .res (.t (bl false))), ((151, 8), .res (.t (bl false))), ((145, 35), .ub)] = some ([(R.t (T.agg [(T.sl [(i64 i0.b), (i64 i0.br), (i64 i0.re), (i64 i1.b), (i64 i1.br), (i64 i1.re), (i64 j.b), (i64 j.br), (i64 j.re)] 3 false)])), (R.t (i64 0))], [], [BinIs Tryz.prog .lss 3 (.tmp 8) (.const (.int .i64 0)) (.int .i64 j.b) (.int .i64 0) (.bool false),
      BinIs Tryz.prog .geq 3 (.tmp 12) (.const (.int .i64 64)) (.int .i64 j.b) (.int .i64 64) (.bool false),
      BinIs Tryz.prog .lss 2 (.tmp 18) (.const (.int .i64 0)) (.int .i64 j.br) (.int .i64 0) (.bool false),
      BinIs Tryz.prog .gtr 2 (.tmp 22) (.tmp 24) (.int .i64 j.br) (.int .i64 j.re) (.bool false),
      BinIs Tryz.prog .eql 3 (.tmp 5) (.tmp 7) (.int .i64 i0.b) (.int .i64 j.b) (.bool false),
      BinIs Tryz.prog .eql 3 (.tmp 5) (.tmp 7) (.int .i64 i1.b) (.int .i64 j.b) (.bool false)]) := by kernel_rfl
  exact sndL 20 _ _ _ _ _ _ e (.cons (bCmp (d := decide (j.b < 0)) (by unfold BinIs; kernel_rfl) (decide_eq_false (by omega))) (.cons (bCmp (d := decide (j.b ≥ 64)) (by unfold BinIs; kernel_rfl) (decide_eq_false (by omega))) (.cons (bCmp (d := decide (j.br < 0)) (by unfold BinIs; kernel_rfl) (decide_eq_false (by omega))) (.cons (bCmp (d := decide (j.br > j.re)) (by unfold BinIs; kernel_rfl) (decide_eq_false (by omega))) (.cons (bCmp (d := (i0.b == j.b)) (by unfold BinIs; kernel_rfl) (eqF (by omega))) (.cons (bCmp (d := (i1.b == j.b)) (by unfold BinIs; kernel_rfl) (eqF (by omega))) .nil))))))
theorem retire_any (bag : List It) (hb : bag.length ≤ 2) (j : It) (h0 : 0 ≤ j.b) (h1 : j.b < 64) (h2 : 0 ≤ j.br) (h3 : j.br ≤ j.re) (hd : ∀ i ∈ bag, i.b ≠ j.b) : HoldsL 145 [.agg [bsT itL bag], .agg (itL j)] [.t (.agg [bsT itL (bag ++ [j])]), .t (i64 0)] := by
  match bag, hb, hd with
  | [], _, hd => exact holds_res (.t (tle_agg (.cons (bs_out itL [j]) .nil)) (RLes.refl _)) (ret0 j h0 h1 h2 h3 )
  | [i0], _, hd => exact holds_res (.t (tle_agg (.cons (bs_out itL [i0, j]) .nil)) (RLes.refl _)) (ret1 i0 j h0 h1 h2 h3 (hd i0 (by simp)))
  | [i0, i1], _, hd => exact holds_res (.t (tle_agg (.cons (bs_out itL [i0, i1, j]) .nil)) (RLes.refl _)) (ret2 i0 i1 j h0 h1 h2 h3 (hd i0 (by simp)) (hd i1 (by simp)))
  | _ :: _ :: _ :: _, h, _ => simp at h
end Go.Proofs.YtiegfchaepbnbaaGreatDoor
