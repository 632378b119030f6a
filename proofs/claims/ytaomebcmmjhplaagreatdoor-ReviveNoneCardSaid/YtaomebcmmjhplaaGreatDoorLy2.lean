/- The layout: lengths, beginnings, its check. -/
import Derived.Test.YtaomebcmmjhplaaGreatDoorLy1
namespace Go.Proofs.YtaomebcmmjhplaaGreatDoor
open Go Go.RowKit Go.Va
set_option maxRecDepth 100000
set_option maxHeartbeats 400000
def lay (t c b : Int) : T := .agg [i64 t, i64 c, i64 b]
/-- A layout of the size that these texts speak of. -/
structure LV (t c b : Int) : Prop where
  t1 : 1 ≤ t
  t8 : t ≤ 8
  c1 : 1 ≤ c
  c2 : c ≤ 40
  b0 : 0 ≤ b
  b64 : b ≤ 12
def long3 (c : Int) : Int := (c + 7) / 8 * 8
def long5 (b : Int) : Int := if 0 < b then 8 else 0
theorem div8 (a : Int) (h : 0 ≤ a) : Int.tdiv a 8 = a / 8 := Int.tdiv_eq_ediv_of_nonneg h

theorem many0 (t c b : Int) : runX Tryz.prog gG noF 10 66 [lay t c b, i64 0] [] = some ([.t (i64 1)], [], []) := by kernel_rfl
theorem many1 (t c b : Int) : runX Tryz.prog gG noF 10 66 [lay t c b, i64 1] [] = some ([.t (i64 t)], [], []) := by kernel_rfl
theorem many2 (t c b : Int) : runX Tryz.prog gG noF 10 66 [lay t c b, i64 2] [] = some ([.t (i64 t)], [], []) := by kernel_rfl
theorem many3 (t c b : Int) : runX Tryz.prog gG noF 10 66 [lay t c b, i64 3] [] = some ([.t (i64 c)], [], []) := by kernel_rfl
theorem many4 (t c b : Int) : runX Tryz.prog gG noF 10 66 [lay t c b, i64 4] [] = some ([.t (i64 t)], [], []) := by kernel_rfl
theorem many5 (t c b : Int) : runX Tryz.prog gG noF 10 66 [lay t c b, i64 5] [] = some ([.t (i64 b)], [], []) := by kernel_rfl
theorem many6 (t c b : Int) : runX Tryz.prog gG noF 10 66 [lay t c b, i64 6] [] = some ([.t (i64 b)], [], []) := by kernel_rfl
theorem long_0 {t c b : Int} (h : LV t c b) : HoldsL 39 [lay t c b, i64 0] [.t (i64 8)] := by
  have e : runX Tryz.prog gG noF 10 39 [lay t c b, i64 0] [] = some ([.t (i64 8)], [], []) := by kernel_rfl
  exact sndL 10 _ _ _ _ _ _ e .nil
theorem long_1 {t c b : Int} (h : LV t c b) : HoldsL 39 [lay t c b, i64 1] [.t (i64 (8 * t))] := by
  obtain ⟨h1, h2, h3, h4, h5, h6⟩ := h
  have e : runX Tryz.prog gG noF 10 39 [lay t c b, i64 1] [((39, 12), .res (.t (i64 (8 * t)))), ((39, 24), .res (.t (i64 (8 * t + 8)))), ((39, 25), .res (.t (i64 (8 * t + 7)))), ((39, 26), .res (.t (i64 (t)))), ((39, 27), .res (.t (i64 (8 * t))))] =
    some ([.t (i64 (8 * t))], [], [BinIs Tryz.prog .mul 3 (.tmp 8) (.tmp 11) (.int .i64 t) (.int .i64 8) (.int .i64 (8 * t)), BinIs Tryz.prog .add 3 (.tmp 23) (.const (.int .i64 8)) (.int .i64 (8 * t)) (.int .i64 8) (.int .i64 (8 * t + 8)),
      BinIs Tryz.prog .sub 3 (.tmp 24) (.const (.int .i64 1)) (.int .i64 (8 * t + 8)) (.int .i64 1) (.int .i64 (8 * t + 7)), BinIs Tryz.prog .quo 3 (.tmp 25) (.const (.int .i64 8)) (.int .i64 (8 * t + 7)) (.int .i64 8) (.int .i64 (t)), BinIs Tryz.prog .mul 3 (.tmp 26) (.const (.int .i64 8)) (.int .i64 (t)) (.int .i64 8) (.int .i64 (8 * t))]) := by kernel_rfl
  exact sndL 10 _ _ _ _ _ _ e (.cons (bMul _ _ _ _ _ (by omega) (by omega) (by omega)) (.cons (bAdd _ _ _ _ _ (by omega) (by omega) (by omega)) (.cons (bSub _ _ _ _ _ (by omega) (by omega) (by omega)) (.cons (bQuo8 _ _ _ _ (by rw [div8 _ (by omega)] <;> omega) (by omega) (by omega)) (.cons (bMul _ _ _ _ _ (by first | rfl | omega) (by omega) (by omega)) .nil)))))
theorem long_2 {t c b : Int} (h : LV t c b) : HoldsL 39 [lay t c b, i64 2] [.t (i64 (8 * t))] := by
  obtain ⟨h1, h2, h3, h4, h5, h6⟩ := h
  have e : runX Tryz.prog gG noF 10 39 [lay t c b, i64 2] [((39, 12), .res (.t (i64 (8 * t)))), ((39, 24), .res (.t (i64 (8 * t + 8)))), ((39, 25), .res (.t (i64 (8 * t + 7)))), ((39, 26), .res (.t (i64 (t)))), ((39, 27), .res (.t (i64 (8 * t))))] =
    some ([.t (i64 (8 * t))], [], [BinIs Tryz.prog .mul 3 (.tmp 8) (.tmp 11) (.int .i64 t) (.int .i64 8) (.int .i64 (8 * t)), BinIs Tryz.prog .add 3 (.tmp 23) (.const (.int .i64 8)) (.int .i64 (8 * t)) (.int .i64 8) (.int .i64 (8 * t + 8)),
      BinIs Tryz.prog .sub 3 (.tmp 24) (.const (.int .i64 1)) (.int .i64 (8 * t + 8)) (.int .i64 1) (.int .i64 (8 * t + 7)), BinIs Tryz.prog .quo 3 (.tmp 25) (.const (.int .i64 8)) (.int .i64 (8 * t + 7)) (.int .i64 8) (.int .i64 (t)), BinIs Tryz.prog .mul 3 (.tmp 26) (.const (.int .i64 8)) (.int .i64 (t)) (.int .i64 8) (.int .i64 (8 * t))]) := by kernel_rfl
  exact sndL 10 _ _ _ _ _ _ e (.cons (bMul _ _ _ _ _ (by omega) (by omega) (by omega)) (.cons (bAdd _ _ _ _ _ (by omega) (by omega) (by omega)) (.cons (bSub _ _ _ _ _ (by omega) (by omega) (by omega)) (.cons (bQuo8 _ _ _ _ (by rw [div8 _ (by omega)] <;> omega) (by omega) (by omega)) (.cons (bMul _ _ _ _ _ (by first | rfl | omega) (by omega) (by omega)) .nil)))))
theorem long_3 {t c b : Int} (h : LV t c b) : HoldsL 39 [lay t c b, i64 3] [.t (i64 (long3 c))] := by
  obtain ⟨h1, h2, h3, h4, h5, h6⟩ := h
  have e : runX Tryz.prog gG noF 10 39 [lay t c b, i64 3] [((39, 12), .res (.t (i64 (c)))), ((39, 24), .res (.t (i64 (c + 8)))), ((39, 25), .res (.t (i64 (c + 7)))), ((39, 26), .res (.t (i64 ((c + 7) / 8)))), ((39, 27), .res (.t (i64 (long3 c))))] =
    some ([.t (i64 (long3 c))], [], [BinIs Tryz.prog .mul 3 (.tmp 8) (.tmp 11) (.int .i64 c) (.int .i64 1) (.int .i64 (c)), BinIs Tryz.prog .add 3 (.tmp 23) (.const (.int .i64 8)) (.int .i64 (c)) (.int .i64 8) (.int .i64 (c + 8)),
      BinIs Tryz.prog .sub 3 (.tmp 24) (.const (.int .i64 1)) (.int .i64 (c + 8)) (.int .i64 1) (.int .i64 (c + 7)), BinIs Tryz.prog .quo 3 (.tmp 25) (.const (.int .i64 8)) (.int .i64 (c + 7)) (.int .i64 8) (.int .i64 ((c + 7) / 8)), BinIs Tryz.prog .mul 3 (.tmp 26) (.const (.int .i64 8)) (.int .i64 ((c + 7) / 8)) (.int .i64 8) (.int .i64 (long3 c))]) := by kernel_rfl
  exact sndL 10 _ _ _ _ _ _ e (.cons (bMul _ _ _ _ _ (by omega) (by omega) (by omega)) (.cons (bAdd _ _ _ _ _ (by omega) (by omega) (by omega)) (.cons (bSub _ _ _ _ _ (by omega) (by omega) (by omega)) (.cons (bQuo8 _ _ _ _ (by rw [div8 _ (by omega)] <;> omega) (by omega) (by omega)) (.cons (bMul _ _ _ _ _ (by first | rfl | omega) (by unfold long3; omega) (by unfold long3; omega)) .nil)))))
theorem long_4 {t c b : Int} (h : LV t c b) : HoldsL 39 [lay t c b, i64 4] [.t (i64 (104 * t))] := by
  obtain ⟨h1, h2, h3, h4, h5, h6⟩ := h
  have e : runX Tryz.prog gG noF 10 39 [lay t c b, i64 4] [((39, 12), .res (.t (i64 (104 * t)))), ((39, 24), .res (.t (i64 (104 * t + 8)))), ((39, 25), .res (.t (i64 (104 * t + 7)))), ((39, 26), .res (.t (i64 (13 * t)))), ((39, 27), .res (.t (i64 (104 * t))))] =
    some ([.t (i64 (104 * t))], [], [BinIs Tryz.prog .mul 3 (.tmp 8) (.tmp 11) (.int .i64 t) (.int .i64 104) (.int .i64 (104 * t)), BinIs Tryz.prog .add 3 (.tmp 23) (.const (.int .i64 8)) (.int .i64 (104 * t)) (.int .i64 8) (.int .i64 (104 * t + 8)),
      BinIs Tryz.prog .sub 3 (.tmp 24) (.const (.int .i64 1)) (.int .i64 (104 * t + 8)) (.int .i64 1) (.int .i64 (104 * t + 7)), BinIs Tryz.prog .quo 3 (.tmp 25) (.const (.int .i64 8)) (.int .i64 (104 * t + 7)) (.int .i64 8) (.int .i64 (13 * t)), BinIs Tryz.prog .mul 3 (.tmp 26) (.const (.int .i64 8)) (.int .i64 (13 * t)) (.int .i64 8) (.int .i64 (104 * t))]) := by kernel_rfl
  exact sndL 10 _ _ _ _ _ _ e (.cons (bMul _ _ _ _ _ (by omega) (by omega) (by omega)) (.cons (bAdd _ _ _ _ _ (by omega) (by omega) (by omega)) (.cons (bSub _ _ _ _ _ (by omega) (by omega) (by omega)) (.cons (bQuo8 _ _ _ _ (by rw [div8 _ (by omega)] <;> omega) (by omega) (by omega)) (.cons (bMul _ _ _ _ _ (by first | rfl | omega) (by omega) (by omega)) .nil)))))
theorem long_6 {t c b : Int} (h : LV t c b) : HoldsL 39 [lay t c b, i64 6] [.t (i64 (32 * b))] := by
  obtain ⟨h1, h2, h3, h4, h5, h6⟩ := h
  have e : runX Tryz.prog gG noF 10 39 [lay t c b, i64 6] [((39, 12), .res (.t (i64 (32 * b)))), ((39, 24), .res (.t (i64 (32 * b + 8)))), ((39, 25), .res (.t (i64 (32 * b + 7)))), ((39, 26), .res (.t (i64 (4 * b)))), ((39, 27), .res (.t (i64 (32 * b))))] =
    some ([.t (i64 (32 * b))], [], [BinIs Tryz.prog .mul 3 (.tmp 8) (.tmp 11) (.int .i64 b) (.int .i64 32) (.int .i64 (32 * b)), BinIs Tryz.prog .add 3 (.tmp 23) (.const (.int .i64 8)) (.int .i64 (32 * b)) (.int .i64 8) (.int .i64 (32 * b + 8)),
      BinIs Tryz.prog .sub 3 (.tmp 24) (.const (.int .i64 1)) (.int .i64 (32 * b + 8)) (.int .i64 1) (.int .i64 (32 * b + 7)), BinIs Tryz.prog .quo 3 (.tmp 25) (.const (.int .i64 8)) (.int .i64 (32 * b + 7)) (.int .i64 8) (.int .i64 (4 * b)), BinIs Tryz.prog .mul 3 (.tmp 26) (.const (.int .i64 8)) (.int .i64 (4 * b)) (.int .i64 8) (.int .i64 (32 * b))]) := by kernel_rfl
  exact sndL 10 _ _ _ _ _ _ e (.cons (bMul _ _ _ _ _ (by omega) (by omega) (by omega)) (.cons (bAdd _ _ _ _ _ (by omega) (by omega) (by omega)) (.cons (bSub _ _ _ _ _ (by omega) (by omega) (by omega)) (.cons (bQuo8 _ _ _ _ (by rw [div8 _ (by omega)] <;> omega) (by omega) (by omega)) (.cons (bMul _ _ _ _ _ (by first | rfl | omega) (by omega) (by omega)) .nil)))))
theorem long_5 {t c b : Int} (h : LV t c b) : HoldsL 39 [lay t c b, i64 5] [.t (i64 (long5 b))] := by
  obtain ⟨h1, h2, h3, h4, h5, h6⟩ := h
  by_cases hb : 0 < b
  · have e : runX Tryz.prog gG noF 10 39 [lay t c b, i64 5] [((39, 12), .res (.t (i64 0))), ((39, 21), .res (.t (bl true)))] =
      some ([.t (i64 8)], [], [BinIs Tryz.prog .mul 3 (.tmp 8) (.tmp 11) (.int .i64 b) (.int .i64 0) (.int .i64 0), BinIs Tryz.prog .gtr 3 (.tmp 20) (.const (.int .i64 0)) (.int .i64 b) (.int .i64 0) (.bool true)]) := by kernel_rfl
    have hr : long5 b = 8 := if_pos hb
    rw [hr]
    refine sndL 10 _ _ _ _ _ _ e (.cons (bMul _ _ _ _ _ (by omega) (by omega) (by omega)) (.cons ?_ .nil))
    have : BinIs Tryz.prog .gtr 3 (.tmp 20) (.const (.int .i64 0)) (.int .i64 b) (.int .i64 0) (.bool (decide (b > 0))) := by unfold BinIs; kernel_rfl
    rwa [show decide (b > 0) = true from decide_eq_true hb] at this
  · have e : runX Tryz.prog gG noF 10 39 [lay t c b, i64 5] [((39, 12), .res (.t (i64 0))), ((39, 21), .res (.t (bl false)))] =
      some ([.t (i64 0)], [], [BinIs Tryz.prog .mul 3 (.tmp 8) (.tmp 11) (.int .i64 b) (.int .i64 0) (.int .i64 0), BinIs Tryz.prog .gtr 3 (.tmp 20) (.const (.int .i64 0)) (.int .i64 b) (.int .i64 0) (.bool false)]) := by kernel_rfl
    have hr : long5 b = 0 := if_neg hb
    rw [hr]
    refine sndL 10 _ _ _ _ _ _ e (.cons (bMul _ _ _ _ _ (by omega) (by omega) (by omega)) (.cons ?_ .nil))
    have : BinIs Tryz.prog .gtr 3 (.tmp 20) (.const (.int .i64 0)) (.int .i64 b) (.int .i64 0) (.bool (decide (b > 0))) := by unfold BinIs; kernel_rfl
    rwa [show decide (b > 0) = false from decide_eq_false hb] at this

/-- Where a part begins; 7: the length of it all. -/
def fromF (t c b : Int) : Nat → Int
  | 0 => 0
  | 1 => 8
  | 2 => 8 + 8 * t
  | 3 => 8 + 16 * t
  | 4 => 8 + 16 * t + long3 c
  | 5 => 8 + 120 * t + long3 c
  | 6 => 8 + 120 * t + long3 c + long5 b
  | _ => 8 + 120 * t + long3 c + long5 b + 32 * b
theorem long3_le (c : Int) (h : 1 ≤ c) (h' : c ≤ 40) : 8 ≤ long3 c ∧ long3 c ≤ 40 := by unfold long3; omega
theorem long5_le (b : Int) : 0 ≤ long5 b ∧ long5 b ≤ 8 := by unfold long5; split <;> omega
theorem from_0 {t c b : Int} (h : LV t c b) : HoldsL 20 [lay t c b, i64 0] [.t (i64 (fromF t c b 0))] := by
  have e : runX Tryz.prog gG noF 10 20 [lay t c b, i64 0] [] = some ([.t (i64 0)], [], []) := by kernel_rfl
  exact sndL 10 _ _ _ _ _ _ e .nil
theorem from_1 {t c b : Int} (h : LV t c b) : HoldsL 20 [lay t c b, i64 1] [.t (i64 (fromF t c b 1))] := by
  have e : runX Tryz.prog gG noF 10 20 [lay t c b, i64 1] [((20, 14), .call [.t (i64 (8))])] =
    some ([.t (i64 (fromF t c b 1))], [], [HoldsL 39 [lay t c b, i64 0] [.t (i64 (8))]]) := by kernel_rfl
  have hh := h
  obtain ⟨h1, h2, h3, h4, h5, h6⟩ := h
  have hc := long3_le c h3 h4
  have hb := long5_le b
  have h := hh
  exact sndL 10 _ _ _ _ _ _ e (.cons (long_0 h) .nil)
theorem from_2 {t c b : Int} (h : LV t c b) : HoldsL 20 [lay t c b, i64 2] [.t (i64 (fromF t c b 2))] := by
  have e : runX Tryz.prog gG noF 10 20 [lay t c b, i64 2] [((20, 14), .call [.t (i64 (8))]), ((20, 14), .call [.t (i64 (8 * t))]), ((20, 15), .res (.t (i64 (fromF t c b 2))))] =
    some ([.t (i64 (fromF t c b 2))], [], [HoldsL 39 [lay t c b, i64 0] [.t (i64 (8))], HoldsL 39 [lay t c b, i64 1] [.t (i64 (8 * t))], BinIs Tryz.prog .add 3 (.tmp 11) (.tmp 14) (.int .i64 (fromF t c b 1)) (.int .i64 (8 * t)) (.int .i64 (fromF t c b 2))]) := by kernel_rfl
  have hh := h
  obtain ⟨h1, h2, h3, h4, h5, h6⟩ := h
  have hc := long3_le c h3 h4
  have hb := long5_le b
  have h := hh
  exact sndL 10 _ _ _ _ _ _ e (.cons (long_0 h) (.cons (long_1 h) (.cons (bAdd _ _ _ _ _ (by simp only [fromF] <;> omega) (by simp only [fromF] <;> omega) (by simp only [fromF] <;> omega)) .nil)))
theorem from_3 {t c b : Int} (h : LV t c b) : HoldsL 20 [lay t c b, i64 3] [.t (i64 (fromF t c b 3))] := by
  have e : runX Tryz.prog gG noF 10 20 [lay t c b, i64 3] [((20, 14), .call [.t (i64 (8))]), ((20, 14), .call [.t (i64 (8 * t))]), ((20, 15), .res (.t (i64 (fromF t c b 2)))), ((20, 14), .call [.t (i64 (8 * t))]), ((20, 15), .res (.t (i64 (fromF t c b 3))))] =
    some ([.t (i64 (fromF t c b 3))], [], [HoldsL 39 [lay t c b, i64 0] [.t (i64 (8))], HoldsL 39 [lay t c b, i64 1] [.t (i64 (8 * t))], BinIs Tryz.prog .add 3 (.tmp 11) (.tmp 14) (.int .i64 (fromF t c b 1)) (.int .i64 (8 * t)) (.int .i64 (fromF t c b 2)), HoldsL 39 [lay t c b, i64 2] [.t (i64 (8 * t))], BinIs Tryz.prog .add 3 (.tmp 11) (.tmp 14) (.int .i64 (fromF t c b 2)) (.int .i64 (8 * t)) (.int .i64 (fromF t c b 3))]) := by kernel_rfl
  have hh := h
  obtain ⟨h1, h2, h3, h4, h5, h6⟩ := h
  have hc := long3_le c h3 h4
  have hb := long5_le b
  have h := hh
  exact sndL 10 _ _ _ _ _ _ e (.cons (long_0 h) (.cons (long_1 h) (.cons (bAdd _ _ _ _ _ (by simp only [fromF] <;> omega) (by simp only [fromF] <;> omega) (by simp only [fromF] <;> omega)) (.cons (long_2 h) (.cons (bAdd _ _ _ _ _ (by simp only [fromF] <;> omega) (by simp only [fromF] <;> omega) (by simp only [fromF] <;> omega)) .nil)))))
theorem from_4 {t c b : Int} (h : LV t c b) : HoldsL 20 [lay t c b, i64 4] [.t (i64 (fromF t c b 4))] := by
  have e : runX Tryz.prog gG noF 10 20 [lay t c b, i64 4] [((20, 14), .call [.t (i64 (8))]), ((20, 14), .call [.t (i64 (8 * t))]), ((20, 15), .res (.t (i64 (fromF t c b 2)))), ((20, 14), .call [.t (i64 (8 * t))]), ((20, 15), .res (.t (i64 (fromF t c b 3)))), ((20, 14), .call [.t (i64 (long3 c))]), ((20, 15), .res (.t (i64 (fromF t c b 4))))] =
    some ([.t (i64 (fromF t c b 4))], [], [HoldsL 39 [lay t c b, i64 0] [.t (i64 (8))], HoldsL 39 [lay t c b, i64 1] [.t (i64 (8 * t))], BinIs Tryz.prog .add 3 (.tmp 11) (.tmp 14) (.int .i64 (fromF t c b 1)) (.int .i64 (8 * t)) (.int .i64 (fromF t c b 2)), HoldsL 39 [lay t c b, i64 2] [.t (i64 (8 * t))], BinIs Tryz.prog .add 3 (.tmp 11) (.tmp 14) (.int .i64 (fromF t c b 2)) (.int .i64 (8 * t)) (.int .i64 (fromF t c b 3)), HoldsL 39 [lay t c b, i64 3] [.t (i64 (long3 c))], BinIs Tryz.prog .add 3 (.tmp 11) (.tmp 14) (.int .i64 (fromF t c b 3)) (.int .i64 (long3 c)) (.int .i64 (fromF t c b 4))]) := by kernel_rfl
  have hh := h
  obtain ⟨h1, h2, h3, h4, h5, h6⟩ := h
  have hc := long3_le c h3 h4
  have hb := long5_le b
  have h := hh
  exact sndL 10 _ _ _ _ _ _ e (.cons (long_0 h) (.cons (long_1 h) (.cons (bAdd _ _ _ _ _ (by simp only [fromF] <;> omega) (by simp only [fromF] <;> omega) (by simp only [fromF] <;> omega)) (.cons (long_2 h) (.cons (bAdd _ _ _ _ _ (by simp only [fromF] <;> omega) (by simp only [fromF] <;> omega) (by simp only [fromF] <;> omega)) (.cons (long_3 h) (.cons (bAdd _ _ _ _ _ (by simp only [fromF] <;> omega) (by simp only [fromF] <;> omega) (by simp only [fromF] <;> omega)) .nil)))))))
theorem from_5 {t c b : Int} (h : LV t c b) : HoldsL 20 [lay t c b, i64 5] [.t (i64 (fromF t c b 5))] := by
  have e : runX Tryz.prog gG noF 10 20 [lay t c b, i64 5] [((20, 14), .call [.t (i64 (8))]), ((20, 14), .call [.t (i64 (8 * t))]), ((20, 15), .res (.t (i64 (fromF t c b 2)))), ((20, 14), .call [.t (i64 (8 * t))]), ((20, 15), .res (.t (i64 (fromF t c b 3)))), ((20, 14), .call [.t (i64 (long3 c))]), ((20, 15), .res (.t (i64 (fromF t c b 4)))), ((20, 14), .call [.t (i64 (104 * t))]), ((20, 15), .res (.t (i64 (fromF t c b 5))))] =
    some ([.t (i64 (fromF t c b 5))], [], [HoldsL 39 [lay t c b, i64 0] [.t (i64 (8))], HoldsL 39 [lay t c b, i64 1] [.t (i64 (8 * t))], BinIs Tryz.prog .add 3 (.tmp 11) (.tmp 14) (.int .i64 (fromF t c b 1)) (.int .i64 (8 * t)) (.int .i64 (fromF t c b 2)), HoldsL 39 [lay t c b, i64 2] [.t (i64 (8 * t))], BinIs Tryz.prog .add 3 (.tmp 11) (.tmp 14) (.int .i64 (fromF t c b 2)) (.int .i64 (8 * t)) (.int .i64 (fromF t c b 3)), HoldsL 39 [lay t c b, i64 3] [.t (i64 (long3 c))], BinIs Tryz.prog .add 3 (.tmp 11) (.tmp 14) (.int .i64 (fromF t c b 3)) (.int .i64 (long3 c)) (.int .i64 (fromF t c b 4)), HoldsL 39 [lay t c b, i64 4] [.t (i64 (104 * t))], BinIs Tryz.prog .add 3 (.tmp 11) (.tmp 14) (.int .i64 (fromF t c b 4)) (.int .i64 (104 * t)) (.int .i64 (fromF t c b 5))]) := by kernel_rfl
  have hh := h
  obtain ⟨h1, h2, h3, h4, h5, h6⟩ := h
  have hc := long3_le c h3 h4
  have hb := long5_le b
  have h := hh
  exact sndL 10 _ _ _ _ _ _ e (.cons (long_0 h) (.cons (long_1 h) (.cons (bAdd _ _ _ _ _ (by simp only [fromF] <;> omega) (by simp only [fromF] <;> omega) (by simp only [fromF] <;> omega)) (.cons (long_2 h) (.cons (bAdd _ _ _ _ _ (by simp only [fromF] <;> omega) (by simp only [fromF] <;> omega) (by simp only [fromF] <;> omega)) (.cons (long_3 h) (.cons (bAdd _ _ _ _ _ (by simp only [fromF] <;> omega) (by simp only [fromF] <;> omega) (by simp only [fromF] <;> omega)) (.cons (long_4 h) (.cons (bAdd _ _ _ _ _ (by simp only [fromF] <;> omega) (by simp only [fromF] <;> omega) (by simp only [fromF] <;> omega)) .nil)))))))))
theorem from_6 {t c b : Int} (h : LV t c b) : HoldsL 20 [lay t c b, i64 6] [.t (i64 (fromF t c b 6))] := by
  have e : runX Tryz.prog gG noF 10 20 [lay t c b, i64 6] [((20, 14), .call [.t (i64 (8))]), ((20, 14), .call [.t (i64 (8 * t))]), ((20, 15), .res (.t (i64 (fromF t c b 2)))), ((20, 14), .call [.t (i64 (8 * t))]), ((20, 15), .res (.t (i64 (fromF t c b 3)))), ((20, 14), .call [.t (i64 (long3 c))]), ((20, 15), .res (.t (i64 (fromF t c b 4)))), ((20, 14), .call [.t (i64 (104 * t))]), ((20, 15), .res (.t (i64 (fromF t c b 5)))), ((20, 14), .call [.t (i64 (long5 b))]), ((20, 15), .res (.t (i64 (fromF t c b 6))))] =
    some ([.t (i64 (fromF t c b 6))], [], [HoldsL 39 [lay t c b, i64 0] [.t (i64 (8))], HoldsL 39 [lay t c b, i64 1] [.t (i64 (8 * t))], BinIs Tryz.prog .add 3 (.tmp 11) (.tmp 14) (.int .i64 (fromF t c b 1)) (.int .i64 (8 * t)) (.int .i64 (fromF t c b 2)), HoldsL 39 [lay t c b, i64 2] [.t (i64 (8 * t))], BinIs Tryz.prog .add 3 (.tmp 11) (.tmp 14) (.int .i64 (fromF t c b 2)) (.int .i64 (8 * t)) (.int .i64 (fromF t c b 3)), HoldsL 39 [lay t c b, i64 3] [.t (i64 (long3 c))], BinIs Tryz.prog .add 3 (.tmp 11) (.tmp 14) (.int .i64 (fromF t c b 3)) (.int .i64 (long3 c)) (.int .i64 (fromF t c b 4)), HoldsL 39 [lay t c b, i64 4] [.t (i64 (104 * t))], BinIs Tryz.prog .add 3 (.tmp 11) (.tmp 14) (.int .i64 (fromF t c b 4)) (.int .i64 (104 * t)) (.int .i64 (fromF t c b 5)), HoldsL 39 [lay t c b, i64 5] [.t (i64 (long5 b))], BinIs Tryz.prog .add 3 (.tmp 11) (.tmp 14) (.int .i64 (fromF t c b 5)) (.int .i64 (long5 b)) (.int .i64 (fromF t c b 6))]) := by kernel_rfl
  have hh := h
  obtain ⟨h1, h2, h3, h4, h5, h6⟩ := h
  have hc := long3_le c h3 h4
  have hb := long5_le b
  have h := hh
  exact sndL 10 _ _ _ _ _ _ e (.cons (long_0 h) (.cons (long_1 h) (.cons (bAdd _ _ _ _ _ (by simp only [fromF] <;> omega) (by simp only [fromF] <;> omega) (by simp only [fromF] <;> omega)) (.cons (long_2 h) (.cons (bAdd _ _ _ _ _ (by simp only [fromF] <;> omega) (by simp only [fromF] <;> omega) (by simp only [fromF] <;> omega)) (.cons (long_3 h) (.cons (bAdd _ _ _ _ _ (by simp only [fromF] <;> omega) (by simp only [fromF] <;> omega) (by simp only [fromF] <;> omega)) (.cons (long_4 h) (.cons (bAdd _ _ _ _ _ (by simp only [fromF] <;> omega) (by simp only [fromF] <;> omega) (by simp only [fromF] <;> omega)) (.cons (long_5 h) (.cons (bAdd _ _ _ _ _ (by simp only [fromF] <;> omega) (by simp only [fromF] <;> omega) (by simp only [fromF] <;> omega)) .nil)))))))))))
theorem from_7 {t c b : Int} (h : LV t c b) : HoldsL 20 [lay t c b, i64 7] [.t (i64 (fromF t c b 7))] := by
  have e : runX Tryz.prog gG noF 10 20 [lay t c b, i64 7] [((20, 14), .call [.t (i64 (8))]), ((20, 14), .call [.t (i64 (8 * t))]), ((20, 15), .res (.t (i64 (fromF t c b 2)))), ((20, 14), .call [.t (i64 (8 * t))]), ((20, 15), .res (.t (i64 (fromF t c b 3)))), ((20, 14), .call [.t (i64 (long3 c))]), ((20, 15), .res (.t (i64 (fromF t c b 4)))), ((20, 14), .call [.t (i64 (104 * t))]), ((20, 15), .res (.t (i64 (fromF t c b 5)))), ((20, 14), .call [.t (i64 (long5 b))]), ((20, 15), .res (.t (i64 (fromF t c b 6)))), ((20, 14), .call [.t (i64 (32 * b))]), ((20, 15), .res (.t (i64 (fromF t c b 7))))] =
    some ([.t (i64 (fromF t c b 7))], [], [HoldsL 39 [lay t c b, i64 0] [.t (i64 (8))], HoldsL 39 [lay t c b, i64 1] [.t (i64 (8 * t))], BinIs Tryz.prog .add 3 (.tmp 11) (.tmp 14) (.int .i64 (fromF t c b 1)) (.int .i64 (8 * t)) (.int .i64 (fromF t c b 2)), HoldsL 39 [lay t c b, i64 2] [.t (i64 (8 * t))], BinIs Tryz.prog .add 3 (.tmp 11) (.tmp 14) (.int .i64 (fromF t c b 2)) (.int .i64 (8 * t)) (.int .i64 (fromF t c b 3)), HoldsL 39 [lay t c b, i64 3] [.t (i64 (long3 c))], BinIs Tryz.prog .add 3 (.tmp 11) (.tmp 14) (.int .i64 (fromF t c b 3)) (.int .i64 (long3 c)) (.int .i64 (fromF t c b 4)), HoldsL 39 [lay t c b, i64 4] [.t (i64 (104 * t))], BinIs Tryz.prog .add 3 (.tmp 11) (.tmp 14) (.int .i64 (fromF t c b 4)) (.int .i64 (104 * t)) (.int .i64 (fromF t c b 5)), HoldsL 39 [lay t c b, i64 5] [.t (i64 (long5 b))], BinIs Tryz.prog .add 3 (.tmp 11) (.tmp 14) (.int .i64 (fromF t c b 5)) (.int .i64 (long5 b)) (.int .i64 (fromF t c b 6)), HoldsL 39 [lay t c b, i64 6] [.t (i64 (32 * b))], BinIs Tryz.prog .add 3 (.tmp 11) (.tmp 14) (.int .i64 (fromF t c b 6)) (.int .i64 (32 * b)) (.int .i64 (fromF t c b 7))]) := by kernel_rfl
  have hh := h
  obtain ⟨h1, h2, h3, h4, h5, h6⟩ := h
  have hc := long3_le c h3 h4
  have hb := long5_le b
  have h := hh
  exact sndL 10 _ _ _ _ _ _ e (.cons (long_0 h) (.cons (long_1 h) (.cons (bAdd _ _ _ _ _ (by simp only [fromF] <;> omega) (by simp only [fromF] <;> omega) (by simp only [fromF] <;> omega)) (.cons (long_2 h) (.cons (bAdd _ _ _ _ _ (by simp only [fromF] <;> omega) (by simp only [fromF] <;> omega) (by simp only [fromF] <;> omega)) (.cons (long_3 h) (.cons (bAdd _ _ _ _ _ (by simp only [fromF] <;> omega) (by simp only [fromF] <;> omega) (by simp only [fromF] <;> omega)) (.cons (long_4 h) (.cons (bAdd _ _ _ _ _ (by simp only [fromF] <;> omega) (by simp only [fromF] <;> omega) (by simp only [fromF] <;> omega)) (.cons (long_5 h) (.cons (bAdd _ _ _ _ _ (by simp only [fromF] <;> omega) (by simp only [fromF] <;> omega) (by simp only [fromF] <;> omega)) (.cons (long_6 h) (.cons (bAdd _ _ _ _ _ (by simp only [fromF] <;> omega) (by simp only [fromF] <;> omega) (by simp only [fromF] <;> omega)) .nil)))))))))))))
theorem size_le {t c b : Int} (h : LV t c b) : 136 ≤ fromF t c b 7 ∧ fromF t c b 7 ≤ 1500 := by
  obtain ⟨h1, h2, h3, h4, h5, h6⟩ := h
  have hc := long3_le c h3 h4
  have hb := long5_le b
  simp only [fromF]
  omega
theorem between_holds (n lo hi : Int) : HoldsL 19 [i64 n, i64 lo, i64 hi] [.t (bl (decide (lo ≤ n) && decide (n ≤ hi)))] := by
  rcases Bool.eq_false_or_eq_true (decide (lo ≤ n)) with h1 | h1
  · have e : runX Tryz.prog gG noF 10 19 [i64 n, i64 lo, i64 hi] [((19, 9), .res (.t (bl true)))] = some ([.t (bl (decide (n ≤ hi)))], [], [BinIs Tryz.prog .geq 3 (.tmp 7) (.tmp 8) (.int .i64 n) (.int .i64 lo) (.bool true)]) := by kernel_rfl
    rw [h1, Bool.true_and]
    refine sndL 10 _ _ _ _ _ _ e (.cons ?_ .nil)
    have : BinIs Tryz.prog .geq 3 (.tmp 7) (.tmp 8) (.int .i64 n) (.int .i64 lo) (.bool (decide (n ≥ lo))) := by unfold BinIs; kernel_rfl
    rwa [show decide (n ≥ lo) = true from h1] at this
  · have e : runX Tryz.prog gG noF 10 19 [i64 n, i64 lo, i64 hi] [((19, 9), .res (.t (bl false)))] = some ([.t (bl false)], [], [BinIs Tryz.prog .geq 3 (.tmp 7) (.tmp 8) (.int .i64 n) (.int .i64 lo) (.bool false)]) := by kernel_rfl
    rw [h1, Bool.false_and]
    refine sndL 10 _ _ _ _ _ _ e (.cons ?_ .nil)
    have : BinIs Tryz.prog .geq 3 (.tmp 7) (.tmp 8) (.int .i64 n) (.int .i64 lo) (.bool (decide (n ≥ lo))) := by unfold BinIs; kernel_rfl
    rwa [show decide (n ≥ lo) = false from h1] at this
theorem check_ok {t c b : Int} (h : LV t c b) : HoldsL 6 [lay t c b] [.t (i64 0)] := by
  have e : runX Tryz.prog gG noF 10 6 [lay t c b] [((6, 6), .call [.t (bl true)]), ((6, 10), .call [.t (bl true)]), ((6, 14), .call [.t (bl true)]), ((6, 18), .call [.t (i64 (fromF t c b 7))]), ((6, 19), .res (.t (bl false)))] =
    some ([.t (i64 0)], [], [HoldsL 19 [i64 t, i64 1, i64 8] [.t (bl true)], HoldsL 19 [i64 c, i64 1, i64 2048] [.t (bl true)], HoldsL 19 [i64 b, i64 0, i64 64] [.t (bl true)], HoldsL 20 [lay t c b, i64 7] [.t (i64 (fromF t c b 7))],
      BinIs Tryz.prog .gtr 3 (.tmp 18) (.const (.int .i64 4096)) (.int .i64 (fromF t c b 7)) (.int .i64 4096) (.bool false)]) := by kernel_rfl
  have hs := size_le h
  have b1 := between_holds t 1 8
  have b2 := between_holds c 1 2048
  have b3 := between_holds b 0 64
  rw [show (decide (1 ≤ t) && decide (t ≤ 8)) = true by have := h.t1; have := h.t8; simp; omega] at b1
  rw [show (decide (1 ≤ c) && decide (c ≤ 2048)) = true by have := h.c1; have := h.c2; simp; omega] at b2
  rw [show (decide (0 ≤ b) && decide (b ≤ 64)) = true by have := h.b0; have := h.b64; simp; omega] at b3
  refine sndL 10 _ _ _ _ _ _ e (.cons b1 (.cons b2 (.cons b3 (.cons (from_7 h) (.cons ?_ .nil)))))
  have : BinIs Tryz.prog .gtr 3 (.tmp 18) (.const (.int .i64 4096)) (.int .i64 (fromF t c b 7)) (.int .i64 4096) (.bool (decide (fromF t c b 7 > 4096))) := by unfold BinIs; kernel_rfl
  rwa [show decide (fromF t c b 7 > 4096) = false by apply decide_eq_false; omega] at this
/-- A layout that is out of range. -/
def LW (t c b : Int) : Prop := ¬ (1 ≤ t ∧ t ≤ 8) ∨ ¬ (1 ≤ c ∧ c ≤ 2048) ∨ ¬ (0 ≤ b ∧ b ≤ 64)
theorem check_bad {t c b : Int} (h : LW t c b) : HoldsL 6 [lay t c b] [.t (i64 3)] := by
  have b1 := between_holds t 1 8
  have b2 := between_holds c 1 2048
  have b3 := between_holds b 0 64
  rcases Bool.eq_false_or_eq_true (decide (1 ≤ t) && decide (t ≤ 8)) with h1 | h1
  · rcases Bool.eq_false_or_eq_true (decide (1 ≤ c) && decide (c ≤ 2048)) with h2 | h2
    · have h3 : (decide (0 ≤ b) && decide (b ≤ 64)) = false := by
        simp only [Bool.and_eq_true, decide_eq_true_eq] at h1 h2
        rcases h with h | h | h
        · exact absurd h1 h
        · exact absurd h2 h
        · rcases Bool.eq_false_or_eq_true (decide (0 ≤ b) && decide (b ≤ 64)) with h3 | h3
          · simp only [Bool.and_eq_true, decide_eq_true_eq] at h3
            exact absurd h3 h
          · exact h3
      rw [h1] at b1
      rw [h2] at b2
      rw [h3] at b3
      have e : runX Tryz.prog gG noF 10 6 [lay t c b] [((6, 6), .call [.t (bl true)]), ((6, 10), .call [.t (bl true)]), ((6, 14), .call [.t (bl false)])] = some ([.t (i64 3)], [], [HoldsL 19 [i64 t, i64 1, i64 8] [.t (bl true)], HoldsL 19 [i64 c, i64 1, i64 2048] [.t (bl true)], HoldsL 19 [i64 b, i64 0, i64 64] [.t (bl false)]]) := by kernel_rfl
      exact sndL 10 _ _ _ _ _ _ e (.cons b1 (.cons b2 (.cons b3 .nil)))
    · rw [h1] at b1
      rw [h2] at b2
      have e : runX Tryz.prog gG noF 10 6 [lay t c b] [((6, 6), .call [.t (bl true)]), ((6, 10), .call [.t (bl false)])] = some ([.t (i64 3)], [], [HoldsL 19 [i64 t, i64 1, i64 8] [.t (bl true)], HoldsL 19 [i64 c, i64 1, i64 2048] [.t (bl false)]]) := by kernel_rfl
      exact sndL 10 _ _ _ _ _ _ e (.cons b1 (.cons b2 .nil))
  · rw [h1] at b1
    have e : runX Tryz.prog gG noF 10 6 [lay t c b] [((6, 6), .call [.t (bl false)])] = some ([.t (i64 3)], [], [HoldsL 19 [i64 t, i64 1, i64 8] [.t (bl false)]]) := by kernel_rfl
    exact sndL 10 _ _ _ _ _ _ e (.cons b1 .nil)
theorem right_ok {t c b : Int} (h : LV t c b) : HoldsL 14 [lay t c b] [.t (bl true)] := by
  have e : runX Tryz.prog gG noF 10 14 [lay t c b] [((14, 4), .call [.t (i64 0)])] = some ([.t (bl true)], [], [HoldsL 6 [lay t c b] [.t (i64 0)]]) := by kernel_rfl
  exact sndL 10 _ _ _ _ _ _ e (.cons (check_ok h) .nil)
theorem right_bad {t c b : Int} (h : LW t c b) : HoldsL 14 [lay t c b] [.t (bl false)] := by
  have e : runX Tryz.prog gG noF 10 14 [lay t c b] [((14, 4), .call [.t (i64 3)])] = some ([.t (bl false)], [], [HoldsL 6 [lay t c b] [.t (i64 3)]]) := by kernel_rfl
  exact sndL 10 _ _ _ _ _ _ e (.cons (check_bad h) .nil)
end Go.Proofs.YtaomebcmmjhplaaGreatDoor
