/- The law ReviveNone, its example apart. -/
import Derived.Test.YtaomebcmmjhplaaGreatDoorLy13
namespace Go.Proofs.YtaomebcmmjhplaaGreatDoor
open Go Go.RowKit Go.Va
set_option maxRecDepth 100000
set_option maxHeartbeats 400000
theorem upd_ne (g : Nat → Int) (i j : Nat) (v : Int) (h : j ≠ i) : upd g i v j = g j := if_neg h
theorem upd_eq (g : Nat → Int) (i : Nat) (v : Int) : upd g i v i = v := if_pos rfl
theorem gS_no (t c b : Int) (j : Nat) : ∀ i : Nat, (∀ k : Nat, k < i → j ≠ (slotF t c b (k + 1)).toNat) → gS t c b i j = upd (fun _ => 0) 1 1 j
  | 0, _ => rfl
  | i + 1, h => by
    show upd (gS t c b i) _ 2 j = _
    rw [upd_ne _ _ _ _ (h i (by omega))]
    exact gS_no t c b j i fun k hk => h k (by omega)
theorem gS_yes (t c b : Int) (j : Nat) : ∀ i : Nat, (∃ k : Nat, k < i ∧ j = (slotF t c b (k + 1)).toNat) → gS t c b i j = 2
  | 0, ⟨k, hk, _⟩ => by omega
  | i + 1, ⟨k, hk, hj⟩ => by
    show upd (gS t c b i) _ 2 j = _
    by_cases h : j = (slotF t c b (i + 1)).toNat
    · rw [← h, upd_eq]
    · rw [upd_ne _ _ _ _ h]
      refine gS_yes t c b j i ⟨k, ?_, hj⟩
      by_cases hki : k = i
      · subst hki; exact absurd hj h
      · omega
theorem gB_no (t c b : Int) (tn : Nat) (j : Nat) : ∀ i : Nat, (∀ k : Nat, k < i → j ≠ (blockF t c b k).toNat) → gB t c b tn i j = gS t c b tn j
  | 0, _ => rfl
  | i + 1, h => by
    show upd (gB t c b tn i) _ 2 j = _
    rw [upd_ne _ _ _ _ (h i (by omega))]
    exact gB_no t c b tn j i fun k hk => h k (by omega)
theorem gB_yes (t c b : Int) (tn : Nat) (j : Nat) : ∀ i : Nat, (gS t c b tn j = 2 ∨ ∃ k : Nat, k < i ∧ j = (blockF t c b k).toNat) → gB t c b tn i j = 2
  | 0, h => by
    rcases h with h | ⟨k, hk, _⟩
    · exact h
    · omega
  | i + 1, h => by
    show upd (gB t c b tn i) _ 2 j = _
    by_cases hj : j = (blockF t c b i).toNat
    · rw [← hj, upd_eq]
    · rw [upd_ne _ _ _ _ hj]
      refine gB_yes t c b tn j i ?_
      rcases h with h | ⟨k, hk, hk2⟩
      · exact .inl h
      · refine .inr ⟨k, ?_, hk2⟩
        by_cases hki : k = i
        · subst hki; exact absurd hk2 hj
        · omega
/-- A place below the slots. -/
theorem g_low {t c b : Int} (h : LV t c b) (tn bn : Nat) (ht : t = tn) (hb : b = bn) (j : Nat) (hj : (j : Int) < fromF t c b 4) : gB t c b tn bn j = upd (fun _ => 0) 1 1 j := by
  obtain ⟨g1, g2, g3, g4, g5, g6⟩ := h
  have := long3_le c g3 g4
  have := long5_le b
  simp only [fromF] at hj
  rw [gB_no, gS_no]
  · intro k hk
    simp only [slotF, fromF]
    omega
  · intro k hk
    simp only [blockF, fromF]
    omega
theorem gAll {c : Int} {t b : Nat} (h : LV3 c t b) : GAll t c b t b (gB t c b t b) := by
  have hv := h.lv
  obtain ⟨g1, g2, g3, g4, g5, g6⟩ := h.lv
  have l3 := long3_le c g3 g4
  have l5 := long5_le b
  refine ⟨⟨fun x hx => ?_, fun x hx => ?_⟩, fun i k h0 h1 k0 k3 => ?_, ?_, ?_, fun hb => ?_⟩
  · unfold stL at hx
    rcases List.mem_append.1 hx with hx | hx
    · obtain ⟨i, hi, rfl⟩ := List.mem_map.1 hx
      rw [List.mem_range] at hi
      exact gB_yes _ _ _ _ _ _ (.inl (gS_yes _ _ _ _ _ ⟨i, hi, rfl⟩))
    · obtain ⟨i, hi, rfl⟩ := List.mem_map.1 hx
      rw [List.mem_range] at hi
      exact gB_yes _ _ _ _ _ _ (.inr ⟨i, hi, rfl⟩)
  · unfold ownL at hx
    obtain ⟨i, hi, hx⟩ := List.mem_flatMap.1 hx
    rw [List.mem_range] at hi
    simp only [List.mem_cons, List.not_mem_nil, or_false, announceF, hazardF, fromF] at hx
    rw [g_low hv t b rfl rfl _ (by simp only [fromF]; omega), upd_ne _ _ _ _ (by omega)]
  · have hm := record_may hv i k h0 h1 k0 k3
    have e : recordF t c b i + k = 8 + 8 * t + (i - 1) * 8 + k := by simp only [recordF, fromF]; omega
    rw [e]
    rw [g_low hv t b rfl rfl _ (by simp only [fromF]; omega), upd_ne _ _ _ _ (by omega)]
  · rw [g_low hv t b rfl rfl _ (by simp only [fromF]; omega), upd_ne _ _ _ _ (by omega)]
  · rw [g_low hv t b rfl rfl _ (by simp only [fromF]; omega), upd_eq]
  · have hl5 : long5 b = 8 := if_pos hb
    rw [gB_no, gS_no, upd_ne]
    · simp only [fromF]; omega
    · intro k hk
      simp only [slotF, fromF]
      omega
    · intro k hk
      simp only [blockF, fromF]
      omega
def u8 (n : Int) : T := .lit (.int .u8 n)
theorem rem30 (x y : Operand) (n : Int) : BinIs Tryz.prog .rem 5 x y (.int .u8 n) (.int .u8 30) (.int .u8 (Int.tmod n 30)) := by unfold BinIs; kernel_rfl
theorem slice_m (g : Nat → Int) (n m : Nat) (hm : m < n) : sliceC Tryz.prog (fun _ => none) 44 (.t (.sl (wordsL g n) n false)) none (some m) none = some ⟨.t (.sl ((wordsL g n).take (m * 3)) m false), [], []⟩ := by
  obtain ⟨ii, hi, hs⟩ : ∃ ii, Tryz.prog.info? 44 = some ii ∧ ii.size = 3 := ⟨_, rfl, by kernel_rfl⟩
  unfold sliceC
  simp only [hi, hs]
  have hb : bounds3 n none (some (m : Int)) none = some (0, m, none) := by
    simp [bounds3]
    omega
  rw [hb]
  simp [clipOf]
theorem none_run (c few : Int) (t b : Nat) (ht : t = 1 ∨ t = 2 ∨ t = 3) (g : Nat → Int) (n m : Nat) : runX Tryz.prog gG noF 10 3 [lay t c b, u8 few] [((3, 22), .res (.t (bl false))), ((3, 27), .res (.t (bl false))), ((3, 36), .call [.t (wRow g n false)]), ((3, 38), .call [.t (i64 0)]), ((3, 42), .res (.t (bl false))),
      ((3, 46), .call [.t (.lit (.slice none 0 0))]), ((3, 53), .call [.osl (List.replicate t (i64 1)) t 1]), ((3, 62), .res (.t (i64 (n - 1)))), ((3, 64), .res (.t (u8 (Int.tmod few 30)))), ((3, 66), .res (.t (i64 m))), ((3, 67), .res (.t (.sl ((wordsL g n).take (m * 3)) m false))),
      ((3, 71), .call [.t (.lit (.slice none 0 0)), .t (.lit (.slice none 0 0)), .t (i64 1)]), ((3, 78), .call [.t (.lit (.slice none 0 0)), .t (i64 1)]), ((3, 81), .call [.t (bl true)]), ((3, 93), .call [.osl [i64 1, i64 2, i64 3, i64 4, i64 5] 5 1]), ((3, 100), .call [.t (.lit (.slice none 0 0))])] =
    some ([.t (bl true)], [], [BinIs Tryz.prog .gtr 3 (.tmp 21) (.const (.int .i64 40)) (.int .i64 c) (.int .i64 40) (.bool false), BinIs Tryz.prog .gtr 3 (.tmp 26) (.const (.int .i64 8)) (.int .i64 b) (.int .i64 8) (.bool false), HoldsL 5 [lay t c b] [.t (wRow g n false)], HoldsL 6 [lay t c b] [.t (i64 0)],
      BinIs Tryz.prog .lss 3 (.tmp 41) (.const (.int .i64 40)) (.int .i64 n) (.int .i64 40) (.bool false), HoldsL 7 [lay t c b, wRow g n false] [.t (.lit (.slice none 0 0))], HoldsL 8 [lay t c b, wRow g n false] [.osl (List.replicate t (i64 1)) t 1],
      BinIs Tryz.prog .sub 3 (.tmp 61) (.const (.int .i64 1)) (.int .i64 n) (.int .i64 1) (.int .i64 (n - 1)), BinIs Tryz.prog .rem 5 (.tmp 63) (.const (.int .u8 30)) (.int .u8 few) (.int .u8 30) (.int .u8 (Int.tmod few 30)),
      BinIs Tryz.prog .sub 3 (.tmp 62) (.tmp 65) (.int .i64 (n - 1)) (.int .i64 (w64 (Int.tmod few 30))) (.int .i64 m), sliceC Tryz.prog (fun _ => none) 44 (.t (.sl (wordsL g n) n false)) none (some m) none = some ⟨.t (.sl ((wordsL g n).take (m * 3)) m false), [], []⟩,
      HoldsL 9 [lay t c b, .sl ((wordsL g n).take (m * 3)) m false] [.t (.lit (.slice none 0 0)), .t (.lit (.slice none 0 0)), .t (i64 1)], HoldsL 10 [lay t c b, .sl ((wordsL g n).take (m * 3)) m false, i64 3] [.t (.lit (.slice none 0 0)), .t (i64 1)], HoldsL 4 [] [.t (bl true)],
      HoldsL 7 [lay t c b, .sl ((wordsL g n).take (m * 3)) m false] [.osl [i64 1, i64 2, i64 3, i64 4, i64 5] 5 1], HoldsL 8 [lay t c b, .sl ((wordsL g n).take (m * 3)) m false] [.t (.lit (.slice none 0 0))]]) := by
  rcases ht with rfl | rfl | rfl <;> kernel_rfl
theorem none_valid (ha : HoldsL 4 [] [.t (bl true)]) {c few : Int} {t b : Nat} (h : LV3 c t b) (f0 : 0 ≤ few) : HoldsL 3 [lay t c b, u8 few] [.t (bl true)] := by
  have hs := size_le h.lv
  obtain ⟨n, hn⟩ : ∃ n : Nat, fromF t c b 7 = n := ⟨(fromF t c b 7).toNat, by omega⟩
  have hg := gAll h
  have hr0 : 0 ≤ Int.tmod few 30 := Int.tmod_nonneg 30 f0
  have hr1 : Int.tmod few 30 < 30 := Int.tmod_lt_of_pos few (by omega)
  obtain ⟨m, hm⟩ : ∃ m : Nat, (n : Int) - 1 - Int.tmod few 30 = m := ⟨((n : Int) - 1 - Int.tmod few 30).toNat, by omega⟩
  have hmn : m < n := by omega
  have hfew : Few t c b (.sl ((wordsL (gB t c b t b) n).take (m * 3)) m false) := .less h.lv n hn _ m false hmn
  have hb8 := h.b8
  have hc2 := h.c2
  have hw : w64 (Int.tmod few 30) = Int.tmod few 30 := w64_id _ (by omega) (by omega)
  exact sndL 10 _ _ _ _ _ _ (none_run c few t b (by have := h.t1; have := h.t3; omega) (gB t c b t b) n m) (.cons (bGtr _ _ _ _ _ (decide_eq_false (by omega))) (.cons (bGtr _ _ _ _ _ (decide_eq_false (by omega))) (.cons (first_ok h.lv t b n rfl rfl hn) (.cons (check_ok h.lv) (.cons (bLss _ _ _ _ _ (decide_eq_false (by omega)))
    (.cons (vcheck_ok h n hn hg) (.cons (seqs_ok h n hn _) (.cons (bSub _ _ _ _ _ rfl (by omega) (by omega)) (.cons (rem30 _ _ _) (.cons (bSub _ _ _ _ _ (by rw [hw]; omega) (by omega) (by omega)) (.cons (slice_m _ n m hmn) (.cons (image_few hfew) (.cons (again_less h n hn _ m false hmn) (.cons ha (.cons (vcheck_few hfew) (.cons (seqs_few hfew) .nil))))))))))))))))

theorem early_1 (ha : HoldsL 4 [] [.t (bl true)]) (t c b few : Int) (h : 3 < t ∧ t ≤ 8) : HoldsL 3 [lay t c b, u8 few] [.t (bl true)] := by
  have e : runX Tryz.prog gG noF 10 3 [lay t c b, u8 few] [((3, 13), .res (.t (bl true))), ((3, 17), .res (.t (bl true))), ((3, 34), .call [.t (bl true)])] = some ([.t (bl true)], [], [BinIs Tryz.prog .gtr 3 (.tmp 12) (.const (.int .i64 3)) (.int .i64 t) (.int .i64 3) (.bool true), BinIs Tryz.prog .leq 3 (.tmp 16) (.const (.int .i64 8)) (.int .i64 t) (.int .i64 8) (.bool true), HoldsL 4 [] [.t (bl true)]]) := by kernel_rfl
  exact sndL 10 _ _ _ _ _ _ e (.cons (bGtr _ _ _ _ _ (decide_eq_true (by omega))) (.cons (bLeq _ _ _ _ _ (decide_eq_true (by omega))) (.cons (ha) .nil)))
theorem early_2 (ha : HoldsL 4 [] [.t (bl true)]) (t c b few : Int) (h : t ≤ 3 ∧ 40 < c) : HoldsL 3 [lay t c b, u8 few] [.t (bl true)] := by
  have e : runX Tryz.prog gG noF 10 3 [lay t c b, u8 few] [((3, 13), .res (.t (bl false))), ((3, 22), .res (.t (bl true))), ((3, 34), .call [.t (bl true)])] = some ([.t (bl true)], [], [BinIs Tryz.prog .gtr 3 (.tmp 12) (.const (.int .i64 3)) (.int .i64 t) (.int .i64 3) (.bool false), BinIs Tryz.prog .gtr 3 (.tmp 21) (.const (.int .i64 40)) (.int .i64 c) (.int .i64 40) (.bool true), HoldsL 4 [] [.t (bl true)]]) := by kernel_rfl
  exact sndL 10 _ _ _ _ _ _ e (.cons (bGtr _ _ _ _ _ (decide_eq_false (by omega))) (.cons (bGtr _ _ _ _ _ (decide_eq_true (by omega))) (.cons (ha) .nil)))
theorem early_3 (ha : HoldsL 4 [] [.t (bl true)]) (t c b few : Int) (h : t ≤ 3 ∧ c ≤ 40 ∧ 8 < b ∧ b ≤ 64) : HoldsL 3 [lay t c b, u8 few] [.t (bl true)] := by
  have e : runX Tryz.prog gG noF 10 3 [lay t c b, u8 few] [((3, 13), .res (.t (bl false))), ((3, 22), .res (.t (bl false))), ((3, 27), .res (.t (bl true))), ((3, 31), .res (.t (bl true))), ((3, 34), .call [.t (bl true)])] = some ([.t (bl true)], [], [BinIs Tryz.prog .gtr 3 (.tmp 12) (.const (.int .i64 3)) (.int .i64 t) (.int .i64 3) (.bool false), BinIs Tryz.prog .gtr 3 (.tmp 21) (.const (.int .i64 40)) (.int .i64 c) (.int .i64 40) (.bool false), BinIs Tryz.prog .gtr 3 (.tmp 26) (.const (.int .i64 8)) (.int .i64 b) (.int .i64 8) (.bool true), BinIs Tryz.prog .leq 3 (.tmp 30) (.const (.int .i64 64)) (.int .i64 b) (.int .i64 64) (.bool true), HoldsL 4 [] [.t (bl true)]]) := by kernel_rfl
  exact sndL 10 _ _ _ _ _ _ e (.cons (bGtr _ _ _ _ _ (decide_eq_false (by omega))) (.cons (bGtr _ _ _ _ _ (decide_eq_false (by omega))) (.cons (bGtr _ _ _ _ _ (decide_eq_true (by omega))) (.cons (bLeq _ _ _ _ _ (decide_eq_true (by omega))) (.cons (ha) .nil)))))
theorem early_4 (ha : HoldsL 4 [] [.t (bl true)]) (t c b few : Int) (h : 3 < t ∧ 8 < t ∧ 40 < c) : HoldsL 3 [lay t c b, u8 few] [.t (bl true)] := by
  have e : runX Tryz.prog gG noF 10 3 [lay t c b, u8 few] [((3, 13), .res (.t (bl true))), ((3, 17), .res (.t (bl false))), ((3, 22), .res (.t (bl true))), ((3, 34), .call [.t (bl true)])] = some ([.t (bl true)], [], [BinIs Tryz.prog .gtr 3 (.tmp 12) (.const (.int .i64 3)) (.int .i64 t) (.int .i64 3) (.bool true), BinIs Tryz.prog .leq 3 (.tmp 16) (.const (.int .i64 8)) (.int .i64 t) (.int .i64 8) (.bool false), BinIs Tryz.prog .gtr 3 (.tmp 21) (.const (.int .i64 40)) (.int .i64 c) (.int .i64 40) (.bool true), HoldsL 4 [] [.t (bl true)]]) := by kernel_rfl
  exact sndL 10 _ _ _ _ _ _ e (.cons (bGtr _ _ _ _ _ (decide_eq_true (by omega))) (.cons (bLeq _ _ _ _ _ (decide_eq_false (by omega))) (.cons (bGtr _ _ _ _ _ (decide_eq_true (by omega))) (.cons (ha) .nil))))
theorem early_5 (ha : HoldsL 4 [] [.t (bl true)]) (t c b few : Int) (h : 3 < t ∧ 8 < t ∧ c ≤ 40 ∧ 8 < b ∧ b ≤ 64) : HoldsL 3 [lay t c b, u8 few] [.t (bl true)] := by
  have e : runX Tryz.prog gG noF 10 3 [lay t c b, u8 few] [((3, 13), .res (.t (bl true))), ((3, 17), .res (.t (bl false))), ((3, 22), .res (.t (bl false))), ((3, 27), .res (.t (bl true))), ((3, 31), .res (.t (bl true))), ((3, 34), .call [.t (bl true)])] = some ([.t (bl true)], [], [BinIs Tryz.prog .gtr 3 (.tmp 12) (.const (.int .i64 3)) (.int .i64 t) (.int .i64 3) (.bool true), BinIs Tryz.prog .leq 3 (.tmp 16) (.const (.int .i64 8)) (.int .i64 t) (.int .i64 8) (.bool false), BinIs Tryz.prog .gtr 3 (.tmp 21) (.const (.int .i64 40)) (.int .i64 c) (.int .i64 40) (.bool false), BinIs Tryz.prog .gtr 3 (.tmp 26) (.const (.int .i64 8)) (.int .i64 b) (.int .i64 8) (.bool true), BinIs Tryz.prog .leq 3 (.tmp 30) (.const (.int .i64 64)) (.int .i64 b) (.int .i64 64) (.bool true), HoldsL 4 [] [.t (bl true)]]) := by kernel_rfl
  exact sndL 10 _ _ _ _ _ _ e (.cons (bGtr _ _ _ _ _ (decide_eq_true (by omega))) (.cons (bLeq _ _ _ _ _ (decide_eq_false (by omega))) (.cons (bGtr _ _ _ _ _ (decide_eq_false (by omega))) (.cons (bGtr _ _ _ _ _ (decide_eq_true (by omega))) (.cons (bLeq _ _ _ _ _ (decide_eq_true (by omega))) (.cons (ha) .nil))))))
theorem bad_1 (ha : HoldsL 4 [] [.t (bl true)]) (t c b few : Int) (hw : LW t c b) (h : t ≤ 3 ∧ c ≤ 40 ∧ b ≤ 8) : HoldsL 3 [lay t c b, u8 few] [.t (bl true)] := by
  have e : runX Tryz.prog gG noF 10 3 [lay t c b, u8 few] [((3, 13), .res (.t (bl false))), ((3, 22), .res (.t (bl false))), ((3, 27), .res (.t (bl false))), ((3, 36), .call [.t (.lit (.slice none 0 0))]), ((3, 38), .call [.t (i64 3)]), ((3, 71), .call [.t (.lit (.slice none 0 0)), .t (.lit (.slice none 0 0)), .t (i64 1)]), ((3, 78), .call [.t (.lit (.slice none 0 0)), .t (i64 1)]), ((3, 81), .call [.t (bl true)]), ((3, 93), .call [.osl [i64 1, i64 2, i64 3, i64 4, i64 5] 5 1]), ((3, 100), .call [.t (.lit (.slice none 0 0))])] =
    some ([.t (bl true)], [], [BinIs Tryz.prog .gtr 3 (.tmp 12) (.const (.int .i64 3)) (.int .i64 t) (.int .i64 3) (.bool false), BinIs Tryz.prog .gtr 3 (.tmp 21) (.const (.int .i64 40)) (.int .i64 c) (.int .i64 40) (.bool false), BinIs Tryz.prog .gtr 3 (.tmp 26) (.const (.int .i64 8)) (.int .i64 b) (.int .i64 8) (.bool false), HoldsL 5 [lay t c b] [.t (.lit (.slice none 0 0))], HoldsL 6 [lay t c b] [.t (i64 3)], HoldsL 9 [lay t c b, .lit (.slice none 0 0)] [.t (.lit (.slice none 0 0)), .t (.lit (.slice none 0 0)), .t (i64 1)], HoldsL 10 [lay t c b, .lit (.slice none 0 0), i64 3] [.t (.lit (.slice none 0 0)), .t (i64 1)], HoldsL 4 [] [.t (bl true)],
      HoldsL 7 [lay t c b, .lit (.slice none 0 0)] [.osl [i64 1, i64 2, i64 3, i64 4, i64 5] 5 1], HoldsL 8 [lay t c b, .lit (.slice none 0 0)] [.t (.lit (.slice none 0 0))]]) := by kernel_rfl
  exact sndL 10 _ _ _ _ _ _ e (.cons (bGtr _ _ _ _ _ (decide_eq_false (by omega))) (.cons (bGtr _ _ _ _ _ (decide_eq_false (by omega))) (.cons (bGtr _ _ _ _ _ (decide_eq_false (by omega))) (.cons (first_bad hw) (.cons (check_bad hw) (.cons (image_few (.none hw)) (.cons (again_none hw) (.cons (ha) (.cons (vcheck_few (.none hw)) (.cons (seqs_few (.none hw)) .nil))))))))))
theorem bad_2 (ha : HoldsL 4 [] [.t (bl true)]) (t c b few : Int) (hw : LW t c b) (h : t ≤ 3 ∧ c ≤ 40 ∧ 8 < b ∧ 64 < b) : HoldsL 3 [lay t c b, u8 few] [.t (bl true)] := by
  have e : runX Tryz.prog gG noF 10 3 [lay t c b, u8 few] [((3, 13), .res (.t (bl false))), ((3, 22), .res (.t (bl false))), ((3, 27), .res (.t (bl true))), ((3, 31), .res (.t (bl false))), ((3, 36), .call [.t (.lit (.slice none 0 0))]), ((3, 38), .call [.t (i64 3)]), ((3, 71), .call [.t (.lit (.slice none 0 0)), .t (.lit (.slice none 0 0)), .t (i64 1)]), ((3, 78), .call [.t (.lit (.slice none 0 0)), .t (i64 1)]), ((3, 81), .call [.t (bl true)]), ((3, 93), .call [.osl [i64 1, i64 2, i64 3, i64 4, i64 5] 5 1]), ((3, 100), .call [.t (.lit (.slice none 0 0))])] =
    some ([.t (bl true)], [], [BinIs Tryz.prog .gtr 3 (.tmp 12) (.const (.int .i64 3)) (.int .i64 t) (.int .i64 3) (.bool false), BinIs Tryz.prog .gtr 3 (.tmp 21) (.const (.int .i64 40)) (.int .i64 c) (.int .i64 40) (.bool false), BinIs Tryz.prog .gtr 3 (.tmp 26) (.const (.int .i64 8)) (.int .i64 b) (.int .i64 8) (.bool true), BinIs Tryz.prog .leq 3 (.tmp 30) (.const (.int .i64 64)) (.int .i64 b) (.int .i64 64) (.bool false), HoldsL 5 [lay t c b] [.t (.lit (.slice none 0 0))], HoldsL 6 [lay t c b] [.t (i64 3)], HoldsL 9 [lay t c b, .lit (.slice none 0 0)] [.t (.lit (.slice none 0 0)), .t (.lit (.slice none 0 0)), .t (i64 1)], HoldsL 10 [lay t c b, .lit (.slice none 0 0), i64 3] [.t (.lit (.slice none 0 0)), .t (i64 1)], HoldsL 4 [] [.t (bl true)],
      HoldsL 7 [lay t c b, .lit (.slice none 0 0)] [.osl [i64 1, i64 2, i64 3, i64 4, i64 5] 5 1], HoldsL 8 [lay t c b, .lit (.slice none 0 0)] [.t (.lit (.slice none 0 0))]]) := by kernel_rfl
  exact sndL 10 _ _ _ _ _ _ e (.cons (bGtr _ _ _ _ _ (decide_eq_false (by omega))) (.cons (bGtr _ _ _ _ _ (decide_eq_false (by omega))) (.cons (bGtr _ _ _ _ _ (decide_eq_true (by omega))) (.cons (bLeq _ _ _ _ _ (decide_eq_false (by omega))) (.cons (first_bad hw) (.cons (check_bad hw) (.cons (image_few (.none hw)) (.cons (again_none hw) (.cons (ha) (.cons (vcheck_few (.none hw)) (.cons (seqs_few (.none hw)) .nil)))))))))))
theorem bad_3 (ha : HoldsL 4 [] [.t (bl true)]) (t c b few : Int) (hw : LW t c b) (h : 3 < t ∧ 8 < t ∧ c ≤ 40 ∧ b ≤ 8) : HoldsL 3 [lay t c b, u8 few] [.t (bl true)] := by
  have e : runX Tryz.prog gG noF 10 3 [lay t c b, u8 few] [((3, 13), .res (.t (bl true))), ((3, 17), .res (.t (bl false))), ((3, 22), .res (.t (bl false))), ((3, 27), .res (.t (bl false))), ((3, 36), .call [.t (.lit (.slice none 0 0))]), ((3, 38), .call [.t (i64 3)]), ((3, 71), .call [.t (.lit (.slice none 0 0)), .t (.lit (.slice none 0 0)), .t (i64 1)]), ((3, 78), .call [.t (.lit (.slice none 0 0)), .t (i64 1)]), ((3, 81), .call [.t (bl true)]), ((3, 93), .call [.osl [i64 1, i64 2, i64 3, i64 4, i64 5] 5 1]), ((3, 100), .call [.t (.lit (.slice none 0 0))])] =
    some ([.t (bl true)], [], [BinIs Tryz.prog .gtr 3 (.tmp 12) (.const (.int .i64 3)) (.int .i64 t) (.int .i64 3) (.bool true), BinIs Tryz.prog .leq 3 (.tmp 16) (.const (.int .i64 8)) (.int .i64 t) (.int .i64 8) (.bool false), BinIs Tryz.prog .gtr 3 (.tmp 21) (.const (.int .i64 40)) (.int .i64 c) (.int .i64 40) (.bool false), BinIs Tryz.prog .gtr 3 (.tmp 26) (.const (.int .i64 8)) (.int .i64 b) (.int .i64 8) (.bool false), HoldsL 5 [lay t c b] [.t (.lit (.slice none 0 0))], HoldsL 6 [lay t c b] [.t (i64 3)], HoldsL 9 [lay t c b, .lit (.slice none 0 0)] [.t (.lit (.slice none 0 0)), .t (.lit (.slice none 0 0)), .t (i64 1)], HoldsL 10 [lay t c b, .lit (.slice none 0 0), i64 3] [.t (.lit (.slice none 0 0)), .t (i64 1)], HoldsL 4 [] [.t (bl true)],
      HoldsL 7 [lay t c b, .lit (.slice none 0 0)] [.osl [i64 1, i64 2, i64 3, i64 4, i64 5] 5 1], HoldsL 8 [lay t c b, .lit (.slice none 0 0)] [.t (.lit (.slice none 0 0))]]) := by kernel_rfl
  exact sndL 10 _ _ _ _ _ _ e (.cons (bGtr _ _ _ _ _ (decide_eq_true (by omega))) (.cons (bLeq _ _ _ _ _ (decide_eq_false (by omega))) (.cons (bGtr _ _ _ _ _ (decide_eq_false (by omega))) (.cons (bGtr _ _ _ _ _ (decide_eq_false (by omega))) (.cons (first_bad hw) (.cons (check_bad hw) (.cons (image_few (.none hw)) (.cons (again_none hw) (.cons (ha) (.cons (vcheck_few (.none hw)) (.cons (seqs_few (.none hw)) .nil)))))))))))
theorem bad_4 (ha : HoldsL 4 [] [.t (bl true)]) (t c b few : Int) (hw : LW t c b) (h : 3 < t ∧ 8 < t ∧ c ≤ 40 ∧ 8 < b ∧ 64 < b) : HoldsL 3 [lay t c b, u8 few] [.t (bl true)] := by
  have e : runX Tryz.prog gG noF 10 3 [lay t c b, u8 few] [((3, 13), .res (.t (bl true))), ((3, 17), .res (.t (bl false))), ((3, 22), .res (.t (bl false))), ((3, 27), .res (.t (bl true))), ((3, 31), .res (.t (bl false))), ((3, 36), .call [.t (.lit (.slice none 0 0))]), ((3, 38), .call [.t (i64 3)]), ((3, 71), .call [.t (.lit (.slice none 0 0)), .t (.lit (.slice none 0 0)), .t (i64 1)]), ((3, 78), .call [.t (.lit (.slice none 0 0)), .t (i64 1)]), ((3, 81), .call [.t (bl true)]), ((3, 93), .call [.osl [i64 1, i64 2, i64 3, i64 4, i64 5] 5 1]), ((3, 100), .call [.t (.lit (.slice none 0 0))])] =
    some ([.t (bl true)], [], [BinIs Tryz.prog .gtr 3 (.tmp 12) (.const (.int .i64 3)) (.int .i64 t) (.int .i64 3) (.bool true), BinIs Tryz.prog .leq 3 (.tmp 16) (.const (.int .i64 8)) (.int .i64 t) (.int .i64 8) (.bool false), BinIs Tryz.prog .gtr 3 (.tmp 21) (.const (.int .i64 40)) (.int .i64 c) (.int .i64 40) (.bool false), BinIs Tryz.prog .gtr 3 (.tmp 26) (.const (.int .i64 8)) (.int .i64 b) (.int .i64 8) (.bool true), BinIs Tryz.prog .leq 3 (.tmp 30) (.const (.int .i64 64)) (.int .i64 b) (.int .i64 64) (.bool false), HoldsL 5 [lay t c b] [.t (.lit (.slice none 0 0))], HoldsL 6 [lay t c b] [.t (i64 3)], HoldsL 9 [lay t c b, .lit (.slice none 0 0)] [.t (.lit (.slice none 0 0)), .t (.lit (.slice none 0 0)), .t (i64 1)], HoldsL 10 [lay t c b, .lit (.slice none 0 0), i64 3] [.t (.lit (.slice none 0 0)), .t (i64 1)], HoldsL 4 [] [.t (bl true)],
      HoldsL 7 [lay t c b, .lit (.slice none 0 0)] [.osl [i64 1, i64 2, i64 3, i64 4, i64 5] 5 1], HoldsL 8 [lay t c b, .lit (.slice none 0 0)] [.t (.lit (.slice none 0 0))]]) := by kernel_rfl
  exact sndL 10 _ _ _ _ _ _ e (.cons (bGtr _ _ _ _ _ (decide_eq_true (by omega))) (.cons (bLeq _ _ _ _ _ (decide_eq_false (by omega))) (.cons (bGtr _ _ _ _ _ (decide_eq_false (by omega))) (.cons (bGtr _ _ _ _ _ (decide_eq_true (by omega))) (.cons (bLeq _ _ _ _ _ (decide_eq_false (by omega))) (.cons (first_bad hw) (.cons (check_bad hw) (.cons (image_few (.none hw)) (.cons (again_none hw) (.cons (ha) (.cons (vcheck_few (.none hw)) (.cons (seqs_few (.none hw)) .nil))))))))))))
theorem none_true (ha : HoldsL 4 [] [.t (bl true)]) (t c b few : Int) (f0 : 0 ≤ few) : HoldsL 3 [lay t c b, u8 few] [.t (bl true)] := by
  by_cases h1 : 3 < t ∧ t ≤ 8
  · exact early_1 ha t c b few h1
  by_cases h2 : 40 < c
  · by_cases h3 : t ≤ 3
    · exact early_2 ha t c b few ⟨h3, h2⟩
    · exact early_4 ha t c b few (by omega)
  by_cases h4 : 8 < b ∧ b ≤ 64
  · by_cases h3 : t ≤ 3
    · exact early_3 ha t c b few (by omega)
    · exact early_5 ha t c b few (by omega)
  by_cases hw : LW t c b
  · by_cases h3 : t ≤ 3
    · by_cases h5 : b ≤ 8
      · exact bad_1 ha t c b few hw (by omega)
      · exact bad_2 ha t c b few hw (by omega)
    · by_cases h5 : b ≤ 8
      · exact bad_3 ha t c b few hw (by omega)
      · exact bad_4 ha t c b few hw (by omega)
  · unfold LW at hw
    have hv : LV3 c t.toNat b.toNat := ⟨by omega, by omega, by omega, by omega, by omega⟩
    have := none_valid ha hv f0
    rwa [show ((t.toNat : Nat) : Int) = t by omega, show ((b.toNat : Nat) : Int) = b by omega] at this
end Go.Proofs.YtaomebcmmjhplaaGreatDoor
