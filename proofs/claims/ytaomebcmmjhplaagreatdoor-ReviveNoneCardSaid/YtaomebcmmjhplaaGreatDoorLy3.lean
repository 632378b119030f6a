/- The layout: places. -/
import Derived.Test.YtaomebcmmjhplaaGreatDoorLy2
namespace Go.Proofs.YtaomebcmmjhplaaGreatDoor
open Go Go.RowKit Go.Va
set_option maxRecDepth 100000
set_option maxHeartbeats 400000
theorem bLss (x y : Operand) (a b : Int) (d : Bool) (h : decide (a < b) = d) : BinIs Tryz.prog .lss 3 x y (.int .i64 a) (.int .i64 b) (.bool d) := by
  have : BinIs Tryz.prog .lss 3 x y (.int .i64 a) (.int .i64 b) (.bool (decide (a < b))) := by unfold BinIs; kernel_rfl
  rwa [h] at this
theorem bLss61 (x y : Operand) (a b : Int) (d : Bool) (h : decide (a < b) = d) : BinIs Tryz.prog .lss 61 x y (.int .i64 a) (.int .i64 b) (.bool d) := by
  have : BinIs Tryz.prog .lss 61 x y (.int .i64 a) (.int .i64 b) (.bool (decide (a < b))) := by unfold BinIs; kernel_rfl
  rwa [h] at this
theorem bGeq (x y : Operand) (a b : Int) (d : Bool) (h : decide (a ≥ b) = d) : BinIs Tryz.prog .geq 3 x y (.int .i64 a) (.int .i64 b) (.bool d) := by
  have : BinIs Tryz.prog .geq 3 x y (.int .i64 a) (.int .i64 b) (.bool (decide (a ≥ b))) := by unfold BinIs; kernel_rfl
  rwa [h] at this
theorem bLeq (x y : Operand) (a b : Int) (d : Bool) (h : decide (a ≤ b) = d) : BinIs Tryz.prog .leq 3 x y (.int .i64 a) (.int .i64 b) (.bool d) := by
  have : BinIs Tryz.prog .leq 3 x y (.int .i64 a) (.int .i64 b) (.bool (decide (a ≤ b))) := by unfold BinIs; kernel_rfl
  rwa [h] at this
theorem bGtr (x y : Operand) (a b : Int) (d : Bool) (h : decide (a > b) = d) : BinIs Tryz.prog .gtr 3 x y (.int .i64 a) (.int .i64 b) (.bool d) := by
  have : BinIs Tryz.prog .gtr 3 x y (.int .i64 a) (.int .i64 b) (.bool (decide (a > b))) := by unfold BinIs; kernel_rfl
  rwa [h] at this
theorem bRem (x y : Operand) (a k c : Int) (hk : k = 8 ∨ k = 32) (hc : Int.tmod a k = c) : BinIs Tryz.prog .rem 3 x y (.int .i64 a) (.int .i64 k) (.int .i64 c) := by
  rcases hk with rfl | rfl
  · have : BinIs Tryz.prog .rem 3 x y (.int .i64 a) (.int .i64 8) (.int .i64 (Int.tmod a 8)) := by unfold BinIs; kernel_rfl
    rwa [hc] at this
  · have : BinIs Tryz.prog .rem 3 x y (.int .i64 a) (.int .i64 32) (.int .i64 (Int.tmod a 32)) := by unfold BinIs; kernel_rfl
    rwa [hc] at this
theorem bQuo32 (x y : Operand) (a c : Int) (hc : Int.tdiv a 32 = c) (h0 : -9223372036854775808 ≤ c) (h1 : c < 9223372036854775808) : BinIs Tryz.prog .quo 3 x y (.int .i64 a) (.int .i64 32) (.int .i64 c) := by
  have h : BinIs Tryz.prog .quo 3 x y (.int .i64 a) (.int .i64 32) (.int .i64 (w64 (Int.tdiv a 32))) := by unfold BinIs; kernel_rfl
  rwa [hc, w64_id _ h0 h1] at h

theorem fromF_range {t c b : Int} (h : LV t c b) (p : Nat) : 0 ≤ fromF t c b p ∧ fromF t c b p ≤ 1500 := by
  have hs := size_le h
  obtain ⟨h1, h2, h3, h4, h5, h6⟩ := h
  have hc := long3_le c h3 h4
  have hb := long5_le b
  unfold fromF at *
  split <;> omega
theorem at_0 {t c b : Int} (h : LV t c b) (i more r : Int) (h0 : 0 ≤ i) (h1 : i < 1) (hr : fromF t c b 0 + i * 8 + more = r) (hr0 : 0 ≤ more) (hr1 : more ≤ 1000) : HoldsL 38 [lay t c b, i64 0, i64 i, i64 more] [.t (i64 r)] := by
  have e : runX Tryz.prog gG noF 10 38 [lay t c b, i64 0, i64 i, i64 more] [((38, 10), .call [.t (bl true)]), ((38, 14), .res (.t (bl false))), ((38, 21), .res (.t (bl false))), ((38, 25), .call [.t (i64 (fromF t c b 0))]), ((38, 30), .res (.t (i64 (i * 8)))), ((38, 31), .res (.t (i64 (fromF t c b 0 + i * 8)))), ((38, 33), .res (.t (i64 r)))] =
    some ([.t (i64 r)], [], [HoldsL 14 [lay t c b] [.t (bl true)], BinIs Tryz.prog .lss 3 (.tmp 13) (.const (.int .i64 0)) (.int .i64 i) (.int .i64 0) (.bool false), BinIs Tryz.prog .geq 3 (.tmp 17) (.tmp 20) (.int .i64 i) (.int .i64 1) (.bool false),
      HoldsL 20 [lay t c b, i64 0] [.t (i64 (fromF t c b 0))], BinIs Tryz.prog .mul 3 (.tmp 26) (.tmp 29) (.int .i64 i) (.int .i64 8) (.int .i64 (i * 8)), BinIs Tryz.prog .add 3 (.tmp 25) (.tmp 30) (.int .i64 (fromF t c b 0)) (.int .i64 (i * 8)) (.int .i64 (fromF t c b 0 + i * 8)),
      BinIs Tryz.prog .add 3 (.tmp 31) (.tmp 32) (.int .i64 (fromF t c b 0 + i * 8)) (.int .i64 more) (.int .i64 r)]) := by kernel_rfl
  have hf := fromF_range h 0
  obtain ⟨g1, g2, g3, g4, g5, g6⟩ := id h
  exact sndL 10 _ _ _ _ _ _ e (.cons (right_ok h) (.cons (bLss _ _ _ _ _ (decide_eq_false (by omega))) (.cons (bGeq _ _ _ _ _ (decide_eq_false (by omega))) (.cons (from_0 h) (.cons (bMul _ _ _ _ _ rfl (by omega) (by omega)) (.cons (bAdd _ _ _ _ _ rfl (by omega) (by omega)) (.cons (bAdd _ _ _ _ _ hr (by omega) (by omega)) .nil)))))))
theorem at_1 {t c b : Int} (h : LV t c b) (i more r : Int) (h0 : 0 ≤ i) (h1 : i < t) (hr : fromF t c b 1 + i * 8 + more = r) (hr0 : 0 ≤ more) (hr1 : more ≤ 1000) : HoldsL 38 [lay t c b, i64 1, i64 i, i64 more] [.t (i64 r)] := by
  have e : runX Tryz.prog gG noF 10 38 [lay t c b, i64 1, i64 i, i64 more] [((38, 10), .call [.t (bl true)]), ((38, 14), .res (.t (bl false))), ((38, 21), .res (.t (bl false))), ((38, 25), .call [.t (i64 (fromF t c b 1))]), ((38, 30), .res (.t (i64 (i * 8)))), ((38, 31), .res (.t (i64 (fromF t c b 1 + i * 8)))), ((38, 33), .res (.t (i64 r)))] =
    some ([.t (i64 r)], [], [HoldsL 14 [lay t c b] [.t (bl true)], BinIs Tryz.prog .lss 3 (.tmp 13) (.const (.int .i64 0)) (.int .i64 i) (.int .i64 0) (.bool false), BinIs Tryz.prog .geq 3 (.tmp 17) (.tmp 20) (.int .i64 i) (.int .i64 t) (.bool false),
      HoldsL 20 [lay t c b, i64 1] [.t (i64 (fromF t c b 1))], BinIs Tryz.prog .mul 3 (.tmp 26) (.tmp 29) (.int .i64 i) (.int .i64 8) (.int .i64 (i * 8)), BinIs Tryz.prog .add 3 (.tmp 25) (.tmp 30) (.int .i64 (fromF t c b 1)) (.int .i64 (i * 8)) (.int .i64 (fromF t c b 1 + i * 8)),
      BinIs Tryz.prog .add 3 (.tmp 31) (.tmp 32) (.int .i64 (fromF t c b 1 + i * 8)) (.int .i64 more) (.int .i64 r)]) := by kernel_rfl
  have hf := fromF_range h 1
  obtain ⟨g1, g2, g3, g4, g5, g6⟩ := id h
  exact sndL 10 _ _ _ _ _ _ e (.cons (right_ok h) (.cons (bLss _ _ _ _ _ (decide_eq_false (by omega))) (.cons (bGeq _ _ _ _ _ (decide_eq_false (by omega))) (.cons (from_1 h) (.cons (bMul _ _ _ _ _ rfl (by omega) (by omega)) (.cons (bAdd _ _ _ _ _ rfl (by omega) (by omega)) (.cons (bAdd _ _ _ _ _ hr (by omega) (by omega)) .nil)))))))
theorem at_2 {t c b : Int} (h : LV t c b) (i more r : Int) (h0 : 0 ≤ i) (h1 : i < t) (hr : fromF t c b 2 + i * 8 + more = r) (hr0 : 0 ≤ more) (hr1 : more ≤ 1000) : HoldsL 38 [lay t c b, i64 2, i64 i, i64 more] [.t (i64 r)] := by
  have e : runX Tryz.prog gG noF 10 38 [lay t c b, i64 2, i64 i, i64 more] [((38, 10), .call [.t (bl true)]), ((38, 14), .res (.t (bl false))), ((38, 21), .res (.t (bl false))), ((38, 25), .call [.t (i64 (fromF t c b 2))]), ((38, 30), .res (.t (i64 (i * 8)))), ((38, 31), .res (.t (i64 (fromF t c b 2 + i * 8)))), ((38, 33), .res (.t (i64 r)))] =
    some ([.t (i64 r)], [], [HoldsL 14 [lay t c b] [.t (bl true)], BinIs Tryz.prog .lss 3 (.tmp 13) (.const (.int .i64 0)) (.int .i64 i) (.int .i64 0) (.bool false), BinIs Tryz.prog .geq 3 (.tmp 17) (.tmp 20) (.int .i64 i) (.int .i64 t) (.bool false),
      HoldsL 20 [lay t c b, i64 2] [.t (i64 (fromF t c b 2))], BinIs Tryz.prog .mul 3 (.tmp 26) (.tmp 29) (.int .i64 i) (.int .i64 8) (.int .i64 (i * 8)), BinIs Tryz.prog .add 3 (.tmp 25) (.tmp 30) (.int .i64 (fromF t c b 2)) (.int .i64 (i * 8)) (.int .i64 (fromF t c b 2 + i * 8)),
      BinIs Tryz.prog .add 3 (.tmp 31) (.tmp 32) (.int .i64 (fromF t c b 2 + i * 8)) (.int .i64 more) (.int .i64 r)]) := by kernel_rfl
  have hf := fromF_range h 2
  obtain ⟨g1, g2, g3, g4, g5, g6⟩ := id h
  exact sndL 10 _ _ _ _ _ _ e (.cons (right_ok h) (.cons (bLss _ _ _ _ _ (decide_eq_false (by omega))) (.cons (bGeq _ _ _ _ _ (decide_eq_false (by omega))) (.cons (from_2 h) (.cons (bMul _ _ _ _ _ rfl (by omega) (by omega)) (.cons (bAdd _ _ _ _ _ rfl (by omega) (by omega)) (.cons (bAdd _ _ _ _ _ hr (by omega) (by omega)) .nil)))))))
theorem at_3 {t c b : Int} (h : LV t c b) (i more r : Int) (h0 : 0 ≤ i) (h1 : i < c) (hr : fromF t c b 3 + i * 1 + more = r) (hr0 : 0 ≤ more) (hr1 : more ≤ 1000) : HoldsL 38 [lay t c b, i64 3, i64 i, i64 more] [.t (i64 r)] := by
  have e : runX Tryz.prog gG noF 10 38 [lay t c b, i64 3, i64 i, i64 more] [((38, 10), .call [.t (bl true)]), ((38, 14), .res (.t (bl false))), ((38, 21), .res (.t (bl false))), ((38, 25), .call [.t (i64 (fromF t c b 3))]), ((38, 30), .res (.t (i64 (i * 1)))), ((38, 31), .res (.t (i64 (fromF t c b 3 + i * 1)))), ((38, 33), .res (.t (i64 r)))] =
    some ([.t (i64 r)], [], [HoldsL 14 [lay t c b] [.t (bl true)], BinIs Tryz.prog .lss 3 (.tmp 13) (.const (.int .i64 0)) (.int .i64 i) (.int .i64 0) (.bool false), BinIs Tryz.prog .geq 3 (.tmp 17) (.tmp 20) (.int .i64 i) (.int .i64 c) (.bool false),
      HoldsL 20 [lay t c b, i64 3] [.t (i64 (fromF t c b 3))], BinIs Tryz.prog .mul 3 (.tmp 26) (.tmp 29) (.int .i64 i) (.int .i64 1) (.int .i64 (i * 1)), BinIs Tryz.prog .add 3 (.tmp 25) (.tmp 30) (.int .i64 (fromF t c b 3)) (.int .i64 (i * 1)) (.int .i64 (fromF t c b 3 + i * 1)),
      BinIs Tryz.prog .add 3 (.tmp 31) (.tmp 32) (.int .i64 (fromF t c b 3 + i * 1)) (.int .i64 more) (.int .i64 r)]) := by kernel_rfl
  have hf := fromF_range h 3
  obtain ⟨g1, g2, g3, g4, g5, g6⟩ := id h
  exact sndL 10 _ _ _ _ _ _ e (.cons (right_ok h) (.cons (bLss _ _ _ _ _ (decide_eq_false (by omega))) (.cons (bGeq _ _ _ _ _ (decide_eq_false (by omega))) (.cons (from_3 h) (.cons (bMul _ _ _ _ _ rfl (by omega) (by omega)) (.cons (bAdd _ _ _ _ _ rfl (by omega) (by omega)) (.cons (bAdd _ _ _ _ _ hr (by omega) (by omega)) .nil)))))))
theorem at_4 {t c b : Int} (h : LV t c b) (i more r : Int) (h0 : 0 ≤ i) (h1 : i < t) (hr : fromF t c b 4 + i * 104 + more = r) (hr0 : 0 ≤ more) (hr1 : more ≤ 1000) : HoldsL 38 [lay t c b, i64 4, i64 i, i64 more] [.t (i64 r)] := by
  have e : runX Tryz.prog gG noF 10 38 [lay t c b, i64 4, i64 i, i64 more] [((38, 10), .call [.t (bl true)]), ((38, 14), .res (.t (bl false))), ((38, 21), .res (.t (bl false))), ((38, 25), .call [.t (i64 (fromF t c b 4))]), ((38, 30), .res (.t (i64 (i * 104)))), ((38, 31), .res (.t (i64 (fromF t c b 4 + i * 104)))), ((38, 33), .res (.t (i64 r)))] =
    some ([.t (i64 r)], [], [HoldsL 14 [lay t c b] [.t (bl true)], BinIs Tryz.prog .lss 3 (.tmp 13) (.const (.int .i64 0)) (.int .i64 i) (.int .i64 0) (.bool false), BinIs Tryz.prog .geq 3 (.tmp 17) (.tmp 20) (.int .i64 i) (.int .i64 t) (.bool false),
      HoldsL 20 [lay t c b, i64 4] [.t (i64 (fromF t c b 4))], BinIs Tryz.prog .mul 3 (.tmp 26) (.tmp 29) (.int .i64 i) (.int .i64 104) (.int .i64 (i * 104)), BinIs Tryz.prog .add 3 (.tmp 25) (.tmp 30) (.int .i64 (fromF t c b 4)) (.int .i64 (i * 104)) (.int .i64 (fromF t c b 4 + i * 104)),
      BinIs Tryz.prog .add 3 (.tmp 31) (.tmp 32) (.int .i64 (fromF t c b 4 + i * 104)) (.int .i64 more) (.int .i64 r)]) := by kernel_rfl
  have hf := fromF_range h 4
  obtain ⟨g1, g2, g3, g4, g5, g6⟩ := id h
  exact sndL 10 _ _ _ _ _ _ e (.cons (right_ok h) (.cons (bLss _ _ _ _ _ (decide_eq_false (by omega))) (.cons (bGeq _ _ _ _ _ (decide_eq_false (by omega))) (.cons (from_4 h) (.cons (bMul _ _ _ _ _ rfl (by omega) (by omega)) (.cons (bAdd _ _ _ _ _ rfl (by omega) (by omega)) (.cons (bAdd _ _ _ _ _ hr (by omega) (by omega)) .nil)))))))
theorem at_5 {t c b : Int} (h : LV t c b) (i more r : Int) (h0 : 0 ≤ i) (h1 : i < b) (hr : fromF t c b 5 + i * 0 + more = r) (hr0 : 0 ≤ more) (hr1 : more ≤ 1000) : HoldsL 38 [lay t c b, i64 5, i64 i, i64 more] [.t (i64 r)] := by
  have e : runX Tryz.prog gG noF 10 38 [lay t c b, i64 5, i64 i, i64 more] [((38, 10), .call [.t (bl true)]), ((38, 14), .res (.t (bl false))), ((38, 21), .res (.t (bl false))), ((38, 25), .call [.t (i64 (fromF t c b 5))]), ((38, 30), .res (.t (i64 (i * 0)))), ((38, 31), .res (.t (i64 (fromF t c b 5 + i * 0)))), ((38, 33), .res (.t (i64 r)))] =
    some ([.t (i64 r)], [], [HoldsL 14 [lay t c b] [.t (bl true)], BinIs Tryz.prog .lss 3 (.tmp 13) (.const (.int .i64 0)) (.int .i64 i) (.int .i64 0) (.bool false), BinIs Tryz.prog .geq 3 (.tmp 17) (.tmp 20) (.int .i64 i) (.int .i64 b) (.bool false),
      HoldsL 20 [lay t c b, i64 5] [.t (i64 (fromF t c b 5))], BinIs Tryz.prog .mul 3 (.tmp 26) (.tmp 29) (.int .i64 i) (.int .i64 0) (.int .i64 (i * 0)), BinIs Tryz.prog .add 3 (.tmp 25) (.tmp 30) (.int .i64 (fromF t c b 5)) (.int .i64 (i * 0)) (.int .i64 (fromF t c b 5 + i * 0)),
      BinIs Tryz.prog .add 3 (.tmp 31) (.tmp 32) (.int .i64 (fromF t c b 5 + i * 0)) (.int .i64 more) (.int .i64 r)]) := by kernel_rfl
  have hf := fromF_range h 5
  obtain ⟨g1, g2, g3, g4, g5, g6⟩ := id h
  exact sndL 10 _ _ _ _ _ _ e (.cons (right_ok h) (.cons (bLss _ _ _ _ _ (decide_eq_false (by omega))) (.cons (bGeq _ _ _ _ _ (decide_eq_false (by omega))) (.cons (from_5 h) (.cons (bMul _ _ _ _ _ rfl (by omega) (by omega)) (.cons (bAdd _ _ _ _ _ rfl (by omega) (by omega)) (.cons (bAdd _ _ _ _ _ hr (by omega) (by omega)) .nil)))))))
theorem at_6 {t c b : Int} (h : LV t c b) (i more r : Int) (h0 : 0 ≤ i) (h1 : i < b) (hr : fromF t c b 6 + i * 32 + more = r) (hr0 : 0 ≤ more) (hr1 : more ≤ 1000) : HoldsL 38 [lay t c b, i64 6, i64 i, i64 more] [.t (i64 r)] := by
  have e : runX Tryz.prog gG noF 10 38 [lay t c b, i64 6, i64 i, i64 more] [((38, 10), .call [.t (bl true)]), ((38, 14), .res (.t (bl false))), ((38, 21), .res (.t (bl false))), ((38, 25), .call [.t (i64 (fromF t c b 6))]), ((38, 30), .res (.t (i64 (i * 32)))), ((38, 31), .res (.t (i64 (fromF t c b 6 + i * 32)))), ((38, 33), .res (.t (i64 r)))] =
    some ([.t (i64 r)], [], [HoldsL 14 [lay t c b] [.t (bl true)], BinIs Tryz.prog .lss 3 (.tmp 13) (.const (.int .i64 0)) (.int .i64 i) (.int .i64 0) (.bool false), BinIs Tryz.prog .geq 3 (.tmp 17) (.tmp 20) (.int .i64 i) (.int .i64 b) (.bool false),
      HoldsL 20 [lay t c b, i64 6] [.t (i64 (fromF t c b 6))], BinIs Tryz.prog .mul 3 (.tmp 26) (.tmp 29) (.int .i64 i) (.int .i64 32) (.int .i64 (i * 32)), BinIs Tryz.prog .add 3 (.tmp 25) (.tmp 30) (.int .i64 (fromF t c b 6)) (.int .i64 (i * 32)) (.int .i64 (fromF t c b 6 + i * 32)),
      BinIs Tryz.prog .add 3 (.tmp 31) (.tmp 32) (.int .i64 (fromF t c b 6 + i * 32)) (.int .i64 more) (.int .i64 r)]) := by kernel_rfl
  have hf := fromF_range h 6
  obtain ⟨g1, g2, g3, g4, g5, g6⟩ := id h
  exact sndL 10 _ _ _ _ _ _ e (.cons (right_ok h) (.cons (bLss _ _ _ _ _ (decide_eq_false (by omega))) (.cons (bGeq _ _ _ _ _ (decide_eq_false (by omega))) (.cons (from_6 h) (.cons (bMul _ _ _ _ _ rfl (by omega) (by omega)) (.cons (bAdd _ _ _ _ _ rfl (by omega) (by omega)) (.cons (bAdd _ _ _ _ _ hr (by omega) (by omega)) .nil)))))))
theorem size_ok {t c b : Int} (h : LV t c b) : HoldsL 15 [lay t c b] [.t (i64 (fromF t c b 7))] := by
  have e : runX Tryz.prog gG noF 10 15 [lay t c b] [((15, 4), .call [.t (bl true)]), ((15, 7), .call [.t (i64 (fromF t c b 7))])] = some ([.t (i64 (fromF t c b 7))], [], [HoldsL 14 [lay t c b] [.t (bl true)], HoldsL 20 [lay t c b, i64 7] [.t (i64 (fromF t c b 7))]]) := by kernel_rfl
  exact sndL 10 _ _ _ _ _ _ e (.cons (right_ok h) (.cons (from_7 h) .nil))
theorem size_bad {t c b : Int} (h : LW t c b) : HoldsL 15 [lay t c b] [.t (i64 0)] := by
  have e : runX Tryz.prog gG noF 10 15 [lay t c b] [((15, 4), .call [.t (bl false)])] = some ([.t (i64 0)], [], [HoldsL 14 [lay t c b] [.t (bl false)]]) := by kernel_rfl
  exact sndL 10 _ _ _ _ _ _ e (.cons (right_bad h) .nil)
theorem clock_ok {t c b : Int} (h : LV t c b) : HoldsL 50 [lay t c b] [.t (i64 0)] := by
  have e : runX Tryz.prog gG noF 10 50 [lay t c b] [((50, 4), .call [.t (i64 0)])] = some ([.t (i64 0)], [], [HoldsL 38 [lay t c b, i64 0, i64 0, i64 0] [.t (i64 0)]]) := by kernel_rfl
  exact sndL 10 _ _ _ _ _ _ e (.cons (at_0 h 0 0 0 (by omega) (by omega) (by simp [fromF]) (by omega) (by omega)) .nil)
theorem era_ok {t c b : Int} (h : LV t c b) : HoldsL 16 [lay t c b] [.t (i64 1)] := by
  have e : runX Tryz.prog gG noF 10 16 [lay t c b] [((16, 4), .call [.t (i64 1)])] = some ([.t (i64 1)], [], [HoldsL 38 [lay t c b, i64 0, i64 0, i64 1] [.t (i64 1)]]) := by kernel_rfl
  exact sndL 10 _ _ _ _ _ _ e (.cons (at_0 h 0 1 1 (by omega) (by omega) (by simp [fromF]) (by omega) (by omega)) .nil)
theorem announce_ok {t c b : Int} (h : LV t c b) (i : Int) (h0 : 1 ≤ i) (h1 : i ≤ t) : HoldsL 69 [lay t c b, i64 i] [.t (i64 (fromF t c b 1 + (i - 1) * 8 + 0))] := by
  have e : runX Tryz.prog gG noF 10 69 [lay t c b, i64 i] [((69, 7), .res (.t (i64 (i - 1)))), ((69, 8), .call [.t (i64 (fromF t c b 1 + (i - 1) * 8 + 0))])] = some ([.t (i64 (fromF t c b 1 + (i - 1) * 8 + 0))], [], [BinIs Tryz.prog .sub 3 (.tmp 6) (.const (.int .i64 1)) (.int .i64 i) (.int .i64 1) (.int .i64 (i - 1)), HoldsL 38 [lay t c b, i64 1, i64 (i - 1), i64 0] [.t (i64 (fromF t c b 1 + (i - 1) * 8 + 0))]]) := by kernel_rfl
  have := h.t8
  exact sndL 10 _ _ _ _ _ _ e (.cons (bSub _ _ _ _ _ rfl (by omega) (by omega)) (.cons (at_1 h (i - 1) 0 _ (by omega) (by omega) rfl (by omega) (by omega)) .nil))
theorem hazard_ok {t c b : Int} (h : LV t c b) (i : Int) (h0 : 1 ≤ i) (h1 : i ≤ t) : HoldsL 70 [lay t c b, i64 i] [.t (i64 (fromF t c b 1 + (i - 1) * 8 + 1))] := by
  have e : runX Tryz.prog gG noF 10 70 [lay t c b, i64 i] [((70, 7), .res (.t (i64 (i - 1)))), ((70, 8), .call [.t (i64 (fromF t c b 1 + (i - 1) * 8 + 1))])] = some ([.t (i64 (fromF t c b 1 + (i - 1) * 8 + 1))], [], [BinIs Tryz.prog .sub 3 (.tmp 6) (.const (.int .i64 1)) (.int .i64 i) (.int .i64 1) (.int .i64 (i - 1)), HoldsL 38 [lay t c b, i64 1, i64 (i - 1), i64 1] [.t (i64 (fromF t c b 1 + (i - 1) * 8 + 1))]]) := by kernel_rfl
  have := h.t8
  exact sndL 10 _ _ _ _ _ _ e (.cons (bSub _ _ _ _ _ rfl (by omega) (by omega)) (.cons (at_1 h (i - 1) 1 _ (by omega) (by omega) rfl (by omega) (by omega)) .nil))
theorem record_ok {t c b : Int} (h : LV t c b) (i : Int) (h0 : 1 ≤ i) (h1 : i ≤ t) : HoldsL 37 [lay t c b, i64 i] [.t (i64 (fromF t c b 2 + (i - 1) * 8 + 0))] := by
  have e : runX Tryz.prog gG noF 10 37 [lay t c b, i64 i] [((37, 7), .res (.t (i64 (i - 1)))), ((37, 8), .call [.t (i64 (fromF t c b 2 + (i - 1) * 8 + 0))])] = some ([.t (i64 (fromF t c b 2 + (i - 1) * 8 + 0))], [], [BinIs Tryz.prog .sub 3 (.tmp 6) (.const (.int .i64 1)) (.int .i64 i) (.int .i64 1) (.int .i64 (i - 1)), HoldsL 38 [lay t c b, i64 2, i64 (i - 1), i64 0] [.t (i64 (fromF t c b 2 + (i - 1) * 8 + 0))]]) := by kernel_rfl
  have := h.t8
  exact sndL 10 _ _ _ _ _ _ e (.cons (bSub _ _ _ _ _ rfl (by omega) (by omega)) (.cons (at_2 h (i - 1) 0 _ (by omega) (by omega) rfl (by omega) (by omega)) .nil))
theorem slot_ok {t c b : Int} (h : LV t c b) (i : Int) (h0 : 1 ≤ i) (h1 : i ≤ t) : HoldsL 17 [lay t c b, i64 i] [.t (i64 (fromF t c b 4 + (i - 1) * 104 + 0))] := by
  have e : runX Tryz.prog gG noF 10 17 [lay t c b, i64 i] [((17, 7), .res (.t (i64 (i - 1)))), ((17, 8), .call [.t (i64 (fromF t c b 4 + (i - 1) * 104 + 0))])] = some ([.t (i64 (fromF t c b 4 + (i - 1) * 104 + 0))], [], [BinIs Tryz.prog .sub 3 (.tmp 6) (.const (.int .i64 1)) (.int .i64 i) (.int .i64 1) (.int .i64 (i - 1)), HoldsL 38 [lay t c b, i64 4, i64 (i - 1), i64 0] [.t (i64 (fromF t c b 4 + (i - 1) * 104 + 0))]]) := by kernel_rfl
  have := h.t8
  exact sndL 10 _ _ _ _ _ _ e (.cons (bSub _ _ _ _ _ rfl (by omega) (by omega)) (.cons (at_4 h (i - 1) 0 _ (by omega) (by omega) rfl (by omega) (by omega)) .nil))
theorem cell_ok {t c b : Int} (h : LV t c b) (i : Int) (h0 : 0 ≤ i) (h1 : i < c) : HoldsL 13 [lay t c b, i64 i] [.t (i64 (fromF t c b 3 + i * 1 + 0))] := by
  have e : runX Tryz.prog gG noF 10 13 [lay t c b, i64 i] [((13, 7), .call [.t (i64 (fromF t c b 3 + i * 1 + 0))])] = some ([.t (i64 (fromF t c b 3 + i * 1 + 0))], [], [HoldsL 38 [lay t c b, i64 3, i64 i, i64 0] [.t (i64 (fromF t c b 3 + i * 1 + 0))]]) := by kernel_rfl
  exact sndL 10 _ _ _ _ _ _ e (.cons (at_3 h i 0 _ (by omega) (by omega) rfl (by omega) (by omega)) .nil)
theorem block_ok {t c b : Int} (h : LV t c b) (i : Int) (h0 : 0 ≤ i) (h1 : i < b) : HoldsL 18 [lay t c b, i64 i] [.t (i64 (fromF t c b 6 + i * 32 + 0))] := by
  have e : runX Tryz.prog gG noF 10 18 [lay t c b, i64 i] [((18, 7), .call [.t (i64 (fromF t c b 6 + i * 32 + 0))])] = some ([.t (i64 (fromF t c b 6 + i * 32 + 0))], [], [HoldsL 38 [lay t c b, i64 6, i64 i, i64 0] [.t (i64 (fromF t c b 6 + i * 32 + 0))]]) := by kernel_rfl
  exact sndL 10 _ _ _ _ _ _ e (.cons (at_6 h i 0 _ (by omega) (by omega) rfl (by omega) (by omega)) .nil)
theorem shl1_0 (x y : Operand) : BinIs Tryz.prog .shl 2 x y (.int .i64 1) (.int .i64 ((0 : Nat) : Int)) (.int .i64 ((2 ^ 0 : Nat) : Int)) := by unfold BinIs; kernel_rfl
theorem shl1_1 (x y : Operand) : BinIs Tryz.prog .shl 2 x y (.int .i64 1) (.int .i64 ((1 : Nat) : Int)) (.int .i64 ((2 ^ 1 : Nat) : Int)) := by unfold BinIs; kernel_rfl
theorem shl1_2 (x y : Operand) : BinIs Tryz.prog .shl 2 x y (.int .i64 1) (.int .i64 ((2 : Nat) : Int)) (.int .i64 ((2 ^ 2 : Nat) : Int)) := by unfold BinIs; kernel_rfl
theorem shl1_3 (x y : Operand) : BinIs Tryz.prog .shl 2 x y (.int .i64 1) (.int .i64 ((3 : Nat) : Int)) (.int .i64 ((2 ^ 3 : Nat) : Int)) := by unfold BinIs; kernel_rfl
theorem shl1_4 (x y : Operand) : BinIs Tryz.prog .shl 2 x y (.int .i64 1) (.int .i64 ((4 : Nat) : Int)) (.int .i64 ((2 ^ 4 : Nat) : Int)) := by unfold BinIs; kernel_rfl
theorem shl1_5 (x y : Operand) : BinIs Tryz.prog .shl 2 x y (.int .i64 1) (.int .i64 ((5 : Nat) : Int)) (.int .i64 ((2 ^ 5 : Nat) : Int)) := by unfold BinIs; kernel_rfl
theorem shl1_6 (x y : Operand) : BinIs Tryz.prog .shl 2 x y (.int .i64 1) (.int .i64 ((6 : Nat) : Int)) (.int .i64 ((2 ^ 6 : Nat) : Int)) := by unfold BinIs; kernel_rfl
theorem shl1_7 (x y : Operand) : BinIs Tryz.prog .shl 2 x y (.int .i64 1) (.int .i64 ((7 : Nat) : Int)) (.int .i64 ((2 ^ 7 : Nat) : Int)) := by unfold BinIs; kernel_rfl
theorem shl1_8 (x y : Operand) : BinIs Tryz.prog .shl 2 x y (.int .i64 1) (.int .i64 ((8 : Nat) : Int)) (.int .i64 ((2 ^ 8 : Nat) : Int)) := by unfold BinIs; kernel_rfl
theorem shl1_9 (x y : Operand) : BinIs Tryz.prog .shl 2 x y (.int .i64 1) (.int .i64 ((9 : Nat) : Int)) (.int .i64 ((2 ^ 9 : Nat) : Int)) := by unfold BinIs; kernel_rfl
theorem shl1_10 (x y : Operand) : BinIs Tryz.prog .shl 2 x y (.int .i64 1) (.int .i64 ((10 : Nat) : Int)) (.int .i64 ((2 ^ 10 : Nat) : Int)) := by unfold BinIs; kernel_rfl
theorem shl1_11 (x y : Operand) : BinIs Tryz.prog .shl 2 x y (.int .i64 1) (.int .i64 ((11 : Nat) : Int)) (.int .i64 ((2 ^ 11 : Nat) : Int)) := by unfold BinIs; kernel_rfl
theorem shl1 (x y : Operand) (i : Nat) (hi : i < 12) : BinIs Tryz.prog .shl 2 x y (.int .i64 1) (.int .i64 i) (.int .i64 ((2 ^ i : Nat) : Int)) := by
  have h : i = 0 ∨ i = 1 ∨ i = 2 ∨ i = 3 ∨ i = 4 ∨ i = 5 ∨ i = 6 ∨ i = 7 ∨ i = 8 ∨ i = 9 ∨ i = 10 ∨ i = 11 := by omega
  rcases h with rfl | rfl | rfl | rfl | rfl | rfl | rfl | rfl | rfl | rfl | rfl | rfl
  · exact shl1_0 x y
  · exact shl1_1 x y
  · exact shl1_2 x y
  · exact shl1_3 x y
  · exact shl1_4 x y
  · exact shl1_5 x y
  · exact shl1_6 x y
  · exact shl1_7 x y
  · exact shl1_8 x y
  · exact shl1_9 x y
  · exact shl1_10 x y
  · exact shl1_11 x y
theorem bits_ok {t c b : Int} (h : LV t c b) (i : Nat) (h1 : (i : Int) < b) : HoldsL 49 [lay t c b, i64 i] [.t (i64 (fromF t c b 5)), .t (i64 ((2 ^ i : Nat) : Int))] := by
  have e : runX Tryz.prog gG noF 10 49 [lay t c b, i64 i] [((49, 10), .res (.t (i64 0))), ((49, 11), .call [.t (i64 (fromF t c b 5))]), ((49, 13), .res (.t (bl false))), ((49, 16), .res (.t (i64 i))), ((49, 17), .res (.t (i64 ((2 ^ i : Nat) : Int))))] =
    some ([.t (i64 (fromF t c b 5)), .t (i64 ((2 ^ i : Nat) : Int))], [], [BinIs Tryz.prog .quo 3 (.tmp 9) (.const (.int .i64 32)) (.int .i64 i) (.int .i64 32) (.int .i64 0), HoldsL 38 [lay t c b, i64 5, i64 i, i64 0] [.t (i64 (fromF t c b 5))],
      BinIs Tryz.prog .lss 61 (.tmp 12) (.const (.int .i64 0)) (.int .i64 (fromF t c b 5)) (.int .i64 0) (.bool false), BinIs Tryz.prog .rem 3 (.tmp 15) (.const (.int .i64 32)) (.int .i64 i) (.int .i64 32) (.int .i64 i), BinIs Tryz.prog .shl 2 (.const (.int .i64 1)) (.tmp 16) (.int .i64 1) (.int .i64 i) (.int .i64 ((2 ^ i : Nat) : Int))]) := by kernel_rfl
  have hf := fromF_range h 5
  have hb := h.b64
  have hi : (i : Int) < 32 := by omega
  refine sndL 10 _ _ _ _ _ _ e (.cons (bQuo32 _ _ _ _ (Int.tdiv_eq_zero_of_lt (by omega) hi) (by omega) (by omega)) (.cons (at_5 h i 0 _ (by omega) (by omega) (by omega) (by omega) (by omega)) (.cons (bLss61 _ _ _ _ _ (decide_eq_false (by omega))) (.cons (bRem _ _ _ _ _ (.inr rfl) (Int.tmod_eq_of_lt (by omega) hi)) (.cons (shl1 _ _ i (by omega)) .nil)))))
/-- Which words may be held by a swap. -/
def mayF (t c b a : Int) : Bool := (decide (a - fromF t c b 3 ≥ 0) && decide (a - fromF t c b 3 < c)) || ((decide (a ≥ fromF t c b 2) && decide (a < fromF t c b 3)) && decide (Int.tmod a 8 < 3))
theorem may_ok {t c b : Int} (h : LV t c b) (a : Int) (h0 : 0 ≤ a) (h1 : a ≤ 100000) : HoldsL 68 [lay t c b, i64 a] [.t (bl (mayF t c b a))] := by
  have hf := fromF_range h 3
  unfold mayF

  rcases Bool.eq_false_or_eq_true (decide (a - fromF t c b 3 ≥ 0)) with x1 | x1
  · rcases Bool.eq_false_or_eq_true (decide (a - fromF t c b 3 < c)) with x2 | x2
    · simp only [x1, x2, Bool.and_self, Bool.true_or]
      have e : runX Tryz.prog gG noF 10 68 [lay t c b, i64 a] [((68, 8), .call [.t (bl true)]), ((68, 13), .call [.t (i64 (fromF t c b 3))]), ((68, 14), .res (.t (i64 (a - fromF t c b 3)))), ((68, 16), .res (.t (bl true))), ((68, 21), .res (.t (bl true)))] = some ([.t (bl true)], [], [HoldsL 14 [lay t c b] [.t (bl true)], HoldsL 20 [lay t c b, i64 3] [.t (i64 (fromF t c b 3))], BinIs Tryz.prog .sub 3 (.tmp 11) (.tmp 13) (.int .i64 a) (.int .i64 (fromF t c b 3)) (.int .i64 (a - fromF t c b 3)), BinIs Tryz.prog .geq 3 (.tmp 15) (.const (.int .i64 0)) (.int .i64 (a - fromF t c b 3)) (.int .i64 0) (.bool true), BinIs Tryz.prog .lss 3 (.tmp 18) (.tmp 20) (.int .i64 (a - fromF t c b 3)) (.int .i64 c) (.bool true)]) := by kernel_rfl
      exact sndL 10 _ _ _ _ _ _ e (.cons (right_ok h) (.cons (from_3 h) (.cons (bSub _ _ _ _ _ rfl (by omega) (by omega)) (.cons (bGeq _ _ _ _ _ x1) (.cons (bLss _ _ _ _ _ x2) .nil)))))
    · simp only [x1, x2, Bool.and_false, Bool.false_or]
      rcases Bool.eq_false_or_eq_true (decide (a ≥ fromF t c b 2)) with x3 | x3
      · rcases Bool.eq_false_or_eq_true (decide (a < fromF t c b 3)) with x4 | x4
        · simp only [x3, x4, Bool.and_self, Bool.true_and]
          have e : runX Tryz.prog gG noF 10 68 [lay t c b, i64 a] [((68, 8), .call [.t (bl true)]), ((68, 13), .call [.t (i64 (fromF t c b 3))]), ((68, 14), .res (.t (i64 (a - fromF t c b 3)))), ((68, 16), .res (.t (bl true))), ((68, 21), .res (.t (bl false))), ((68, 25), .call [.t (i64 (fromF t c b 2))]), ((68, 26), .res (.t (bl true))), ((68, 30), .call [.t (i64 (fromF t c b 3))]), ((68, 31), .res (.t (bl true))), ((68, 35), .res (.t (i64 (Int.tmod a 8)))), ((68, 36), .res (.t (bl (decide (Int.tmod a 8 < 3)))))] = some ([.t (bl (decide (Int.tmod a 8 < 3)))], [], [HoldsL 14 [lay t c b] [.t (bl true)], HoldsL 20 [lay t c b, i64 3] [.t (i64 (fromF t c b 3))], BinIs Tryz.prog .sub 3 (.tmp 11) (.tmp 13) (.int .i64 a) (.int .i64 (fromF t c b 3)) (.int .i64 (a - fromF t c b 3)), BinIs Tryz.prog .geq 3 (.tmp 15) (.const (.int .i64 0)) (.int .i64 (a - fromF t c b 3)) (.int .i64 0) (.bool true), BinIs Tryz.prog .lss 3 (.tmp 18) (.tmp 20) (.int .i64 (a - fromF t c b 3)) (.int .i64 c) (.bool false), HoldsL 20 [lay t c b, i64 2] [.t (i64 (fromF t c b 2))], BinIs Tryz.prog .geq 3 (.tmp 23) (.tmp 25) (.int .i64 a) (.int .i64 (fromF t c b 2)) (.bool true), HoldsL 20 [lay t c b, i64 3] [.t (i64 (fromF t c b 3))], BinIs Tryz.prog .lss 3 (.tmp 28) (.tmp 30) (.int .i64 a) (.int .i64 (fromF t c b 3)) (.bool true), BinIs Tryz.prog .rem 3 (.tmp 34) (.const (.int .i64 8)) (.int .i64 a) (.int .i64 8) (.int .i64 (Int.tmod a 8)), BinIs Tryz.prog .lss 3 (.tmp 35) (.const (.int .i64 3)) (.int .i64 (Int.tmod a 8)) (.int .i64 3) (.bool (decide (Int.tmod a 8 < 3)))]) := by kernel_rfl
          exact sndL 10 _ _ _ _ _ _ e (.cons (right_ok h) (.cons (from_3 h) (.cons (bSub _ _ _ _ _ rfl (by omega) (by omega)) (.cons (bGeq _ _ _ _ _ x1) (.cons (bLss _ _ _ _ _ x2) (.cons (from_2 h) (.cons (bGeq _ _ _ _ _ x3) (.cons (from_3 h) (.cons (bLss _ _ _ _ _ x4) (.cons (bRem _ _ _ _ _ (.inl rfl) rfl) (.cons (bLss _ _ _ _ _ rfl) .nil)))))))))))
        · simp only [x3, x4, Bool.and_false, Bool.false_and]
          have e : runX Tryz.prog gG noF 10 68 [lay t c b, i64 a] [((68, 8), .call [.t (bl true)]), ((68, 13), .call [.t (i64 (fromF t c b 3))]), ((68, 14), .res (.t (i64 (a - fromF t c b 3)))), ((68, 16), .res (.t (bl true))), ((68, 21), .res (.t (bl false))), ((68, 25), .call [.t (i64 (fromF t c b 2))]), ((68, 26), .res (.t (bl true))), ((68, 30), .call [.t (i64 (fromF t c b 3))]), ((68, 31), .res (.t (bl false)))] = some ([.t (bl false)], [], [HoldsL 14 [lay t c b] [.t (bl true)], HoldsL 20 [lay t c b, i64 3] [.t (i64 (fromF t c b 3))], BinIs Tryz.prog .sub 3 (.tmp 11) (.tmp 13) (.int .i64 a) (.int .i64 (fromF t c b 3)) (.int .i64 (a - fromF t c b 3)), BinIs Tryz.prog .geq 3 (.tmp 15) (.const (.int .i64 0)) (.int .i64 (a - fromF t c b 3)) (.int .i64 0) (.bool true), BinIs Tryz.prog .lss 3 (.tmp 18) (.tmp 20) (.int .i64 (a - fromF t c b 3)) (.int .i64 c) (.bool false), HoldsL 20 [lay t c b, i64 2] [.t (i64 (fromF t c b 2))], BinIs Tryz.prog .geq 3 (.tmp 23) (.tmp 25) (.int .i64 a) (.int .i64 (fromF t c b 2)) (.bool true), HoldsL 20 [lay t c b, i64 3] [.t (i64 (fromF t c b 3))], BinIs Tryz.prog .lss 3 (.tmp 28) (.tmp 30) (.int .i64 a) (.int .i64 (fromF t c b 3)) (.bool false)]) := by kernel_rfl
          exact sndL 10 _ _ _ _ _ _ e (.cons (right_ok h) (.cons (from_3 h) (.cons (bSub _ _ _ _ _ rfl (by omega) (by omega)) (.cons (bGeq _ _ _ _ _ x1) (.cons (bLss _ _ _ _ _ x2) (.cons (from_2 h) (.cons (bGeq _ _ _ _ _ x3) (.cons (from_3 h) (.cons (bLss _ _ _ _ _ x4) .nil)))))))))
      · simp only [x3, Bool.false_and]
        have e : runX Tryz.prog gG noF 10 68 [lay t c b, i64 a] [((68, 8), .call [.t (bl true)]), ((68, 13), .call [.t (i64 (fromF t c b 3))]), ((68, 14), .res (.t (i64 (a - fromF t c b 3)))), ((68, 16), .res (.t (bl true))), ((68, 21), .res (.t (bl false))), ((68, 25), .call [.t (i64 (fromF t c b 2))]), ((68, 26), .res (.t (bl false)))] = some ([.t (bl false)], [], [HoldsL 14 [lay t c b] [.t (bl true)], HoldsL 20 [lay t c b, i64 3] [.t (i64 (fromF t c b 3))], BinIs Tryz.prog .sub 3 (.tmp 11) (.tmp 13) (.int .i64 a) (.int .i64 (fromF t c b 3)) (.int .i64 (a - fromF t c b 3)), BinIs Tryz.prog .geq 3 (.tmp 15) (.const (.int .i64 0)) (.int .i64 (a - fromF t c b 3)) (.int .i64 0) (.bool true), BinIs Tryz.prog .lss 3 (.tmp 18) (.tmp 20) (.int .i64 (a - fromF t c b 3)) (.int .i64 c) (.bool false), HoldsL 20 [lay t c b, i64 2] [.t (i64 (fromF t c b 2))], BinIs Tryz.prog .geq 3 (.tmp 23) (.tmp 25) (.int .i64 a) (.int .i64 (fromF t c b 2)) (.bool false)]) := by kernel_rfl
        exact sndL 10 _ _ _ _ _ _ e (.cons (right_ok h) (.cons (from_3 h) (.cons (bSub _ _ _ _ _ rfl (by omega) (by omega)) (.cons (bGeq _ _ _ _ _ x1) (.cons (bLss _ _ _ _ _ x2) (.cons (from_2 h) (.cons (bGeq _ _ _ _ _ x3) .nil)))))))
  · simp only [x1, Bool.false_and, Bool.false_or]
    rcases Bool.eq_false_or_eq_true (decide (a ≥ fromF t c b 2)) with x3 | x3
    · rcases Bool.eq_false_or_eq_true (decide (a < fromF t c b 3)) with x4 | x4
      · simp only [x3, x4, Bool.and_self, Bool.true_and]
        have e : runX Tryz.prog gG noF 10 68 [lay t c b, i64 a] [((68, 8), .call [.t (bl true)]), ((68, 13), .call [.t (i64 (fromF t c b 3))]), ((68, 14), .res (.t (i64 (a - fromF t c b 3)))), ((68, 16), .res (.t (bl false))), ((68, 25), .call [.t (i64 (fromF t c b 2))]), ((68, 26), .res (.t (bl true))), ((68, 30), .call [.t (i64 (fromF t c b 3))]), ((68, 31), .res (.t (bl true))), ((68, 35), .res (.t (i64 (Int.tmod a 8)))), ((68, 36), .res (.t (bl (decide (Int.tmod a 8 < 3)))))] = some ([.t (bl (decide (Int.tmod a 8 < 3)))], [], [HoldsL 14 [lay t c b] [.t (bl true)], HoldsL 20 [lay t c b, i64 3] [.t (i64 (fromF t c b 3))], BinIs Tryz.prog .sub 3 (.tmp 11) (.tmp 13) (.int .i64 a) (.int .i64 (fromF t c b 3)) (.int .i64 (a - fromF t c b 3)), BinIs Tryz.prog .geq 3 (.tmp 15) (.const (.int .i64 0)) (.int .i64 (a - fromF t c b 3)) (.int .i64 0) (.bool false), HoldsL 20 [lay t c b, i64 2] [.t (i64 (fromF t c b 2))], BinIs Tryz.prog .geq 3 (.tmp 23) (.tmp 25) (.int .i64 a) (.int .i64 (fromF t c b 2)) (.bool true), HoldsL 20 [lay t c b, i64 3] [.t (i64 (fromF t c b 3))], BinIs Tryz.prog .lss 3 (.tmp 28) (.tmp 30) (.int .i64 a) (.int .i64 (fromF t c b 3)) (.bool true), BinIs Tryz.prog .rem 3 (.tmp 34) (.const (.int .i64 8)) (.int .i64 a) (.int .i64 8) (.int .i64 (Int.tmod a 8)), BinIs Tryz.prog .lss 3 (.tmp 35) (.const (.int .i64 3)) (.int .i64 (Int.tmod a 8)) (.int .i64 3) (.bool (decide (Int.tmod a 8 < 3)))]) := by kernel_rfl
        exact sndL 10 _ _ _ _ _ _ e (.cons (right_ok h) (.cons (from_3 h) (.cons (bSub _ _ _ _ _ rfl (by omega) (by omega)) (.cons (bGeq _ _ _ _ _ x1) (.cons (from_2 h) (.cons (bGeq _ _ _ _ _ x3) (.cons (from_3 h) (.cons (bLss _ _ _ _ _ x4) (.cons (bRem _ _ _ _ _ (.inl rfl) rfl) (.cons (bLss _ _ _ _ _ rfl) .nil))))))))))
      · simp only [x3, x4, Bool.and_false, Bool.false_and]
        have e : runX Tryz.prog gG noF 10 68 [lay t c b, i64 a] [((68, 8), .call [.t (bl true)]), ((68, 13), .call [.t (i64 (fromF t c b 3))]), ((68, 14), .res (.t (i64 (a - fromF t c b 3)))), ((68, 16), .res (.t (bl false))), ((68, 25), .call [.t (i64 (fromF t c b 2))]), ((68, 26), .res (.t (bl true))), ((68, 30), .call [.t (i64 (fromF t c b 3))]), ((68, 31), .res (.t (bl false)))] = some ([.t (bl false)], [], [HoldsL 14 [lay t c b] [.t (bl true)], HoldsL 20 [lay t c b, i64 3] [.t (i64 (fromF t c b 3))], BinIs Tryz.prog .sub 3 (.tmp 11) (.tmp 13) (.int .i64 a) (.int .i64 (fromF t c b 3)) (.int .i64 (a - fromF t c b 3)), BinIs Tryz.prog .geq 3 (.tmp 15) (.const (.int .i64 0)) (.int .i64 (a - fromF t c b 3)) (.int .i64 0) (.bool false), HoldsL 20 [lay t c b, i64 2] [.t (i64 (fromF t c b 2))], BinIs Tryz.prog .geq 3 (.tmp 23) (.tmp 25) (.int .i64 a) (.int .i64 (fromF t c b 2)) (.bool true), HoldsL 20 [lay t c b, i64 3] [.t (i64 (fromF t c b 3))], BinIs Tryz.prog .lss 3 (.tmp 28) (.tmp 30) (.int .i64 a) (.int .i64 (fromF t c b 3)) (.bool false)]) := by kernel_rfl
        exact sndL 10 _ _ _ _ _ _ e (.cons (right_ok h) (.cons (from_3 h) (.cons (bSub _ _ _ _ _ rfl (by omega) (by omega)) (.cons (bGeq _ _ _ _ _ x1) (.cons (from_2 h) (.cons (bGeq _ _ _ _ _ x3) (.cons (from_3 h) (.cons (bLss _ _ _ _ _ x4) .nil))))))))
    · simp only [x3, Bool.false_and]
      have e : runX Tryz.prog gG noF 10 68 [lay t c b, i64 a] [((68, 8), .call [.t (bl true)]), ((68, 13), .call [.t (i64 (fromF t c b 3))]), ((68, 14), .res (.t (i64 (a - fromF t c b 3)))), ((68, 16), .res (.t (bl false))), ((68, 25), .call [.t (i64 (fromF t c b 2))]), ((68, 26), .res (.t (bl false)))] = some ([.t (bl false)], [], [HoldsL 14 [lay t c b] [.t (bl true)], HoldsL 20 [lay t c b, i64 3] [.t (i64 (fromF t c b 3))], BinIs Tryz.prog .sub 3 (.tmp 11) (.tmp 13) (.int .i64 a) (.int .i64 (fromF t c b 3)) (.int .i64 (a - fromF t c b 3)), BinIs Tryz.prog .geq 3 (.tmp 15) (.const (.int .i64 0)) (.int .i64 (a - fromF t c b 3)) (.int .i64 0) (.bool false), HoldsL 20 [lay t c b, i64 2] [.t (i64 (fromF t c b 2))], BinIs Tryz.prog .geq 3 (.tmp 23) (.tmp 25) (.int .i64 a) (.int .i64 (fromF t c b 2)) (.bool false)]) := by kernel_rfl
      exact sndL 10 _ _ _ _ _ _ e (.cons (right_ok h) (.cons (from_3 h) (.cons (bSub _ _ _ _ _ rfl (by omega) (by omega)) (.cons (bGeq _ _ _ _ _ x1) (.cons (from_2 h) (.cons (bGeq _ _ _ _ _ x3) .nil))))))
end Go.Proofs.YtaomebcmmjhplaaGreatDoor
