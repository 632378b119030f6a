/- The invariants of the first words. -/
import Derived.Test.YtaomebcmmjhplaaGreatDoorLy10
namespace Go.Proofs.YtaomebcmmjhplaaGreatDoor
open Go Go.RowKit Go.Va
set_option maxRecDepth 100000
set_option maxHeartbeats 400000
def ixP (g : Nat → Int) (n : Nat) (cl : Bool) (x : Int) (i : Nat) : Prop := indexAddrC Tryz.prog 25 (.t (wRow g n cl)) x = some ⟨.t (.ptr (wordsL g n) (i * 3)), [], []⟩
def paP (g : Nat → Int) (n : Nat) (i : Nat) (v : Int) : Prop := partC Tryz.prog 44 ((wordsL g n).map .t) (i * 3) = some (.agg [.t (i64 v), .t (u32 0), .t (u32 0)])
theorem paP_is (g : Nat → Int) (n i : Nat) (h : i < n) (v : Int) (hv : g i = v) : paP g n i v := by
  unfold paP
  rw [← hv]
  exact part_w g n i h
theorem ats_ok {t c b : Int} (h : LV t c b) (i : Int) (h0 : 1 ≤ i) (h1 : i ≤ t) : HoldsL 54 [lay t c b, i64 i] [.osl [i64 (recordF t c b i), i64 (recordF t c b i + 1), i64 (recordF t c b i + 2)] 3 1] := by
  have e : runX Tryz.prog gG noF 10 54 [lay t c b, i64 i] [((54, 8), .call [.t (i64 (recordF t c b i))]), ((54, 10), .res (.t (bl false))), ((54, 12), .res (.t (i64 (recordF t c b i)))), ((54, 14), .res (.t (i64 (recordF t c b i + 1)))), ((54, 16), .res (.t (i64 (recordF t c b i + 2))))] =
    some ([.osl [i64 (recordF t c b i), i64 (recordF t c b i + 1), i64 (recordF t c b i + 2)] 3 1], [], [HoldsL 37 [lay t c b, i64 i] [.t (i64 (recordF t c b i))], BinIs Tryz.prog .lss 61 (.tmp 9) (.const (.int .i64 0)) (.int .i64 (recordF t c b i)) (.int .i64 0) (.bool false),
      BinIs Tryz.prog .add 61 (.tmp 11) (.const (.int .i64 0)) (.int .i64 (recordF t c b i)) (.int .i64 0) (.int .i64 (recordF t c b i)), BinIs Tryz.prog .add 61 (.tmp 13) (.const (.int .i64 1)) (.int .i64 (recordF t c b i)) (.int .i64 1) (.int .i64 (recordF t c b i + 1)), BinIs Tryz.prog .add 61 (.tmp 15) (.const (.int .i64 2)) (.int .i64 (recordF t c b i)) (.int .i64 2) (.int .i64 (recordF t c b i + 2))]) := by kernel_rfl
  have hf := fromF_range h 2
  have ht := h.t8
  have hr : 0 ≤ recordF t c b i ∧ recordF t c b i ≤ 2000 := by unfold recordF; omega
  exact sndL 10 _ _ _ _ _ _ e (.cons (record_ok h i h0 h1) (.cons (bLss61 _ _ _ _ _ (decide_eq_false (by omega))) (.cons (bAdd61 _ _ _ _ _ (by omega) (by omega) (by omega)) (.cons (bAdd61 _ _ _ _ _ rfl (by omega) (by omega)) (.cons (bAdd61 _ _ _ _ _ rfl (by omega) (by omega)) .nil)))))
theorem record_may {t c b : Int} (h : LV t c b) (i k : Int) (h0 : 1 ≤ i) (h1 : i ≤ t) (k0 : 0 ≤ k) (k3 : k < 3) : mayF t c b (recordF t c b i + k) = true ∧ 0 ≤ recordF t c b i + k ∧ recordF t c b i + k < fromF t c b 7 := by
  obtain ⟨g1, g2, g3, g4, g5, g6⟩ := h
  have := long3_le c g3 g4
  have := long5_le b
  have hm : Int.tmod (recordF t c b i + k) 8 = k := by
    rw [Int.tmod_eq_emod_of_nonneg (by simp only [recordF, fromF]; omega)]
    simp only [recordF, fromF]
    omega
  unfold mayF
  rw [hm]
  simp only [recordF, fromF, Bool.or_eq_true, Bool.and_eq_true, decide_eq_true_eq]
  omega
/-- What the invariants ask of the first words. -/
structure GAll (t c b : Int) (tn bn : Nat) (g : Nat → Int) : Prop extends GClean t c b tn bn g where
  recs : ∀ i k : Int, 1 ≤ i → i ≤ t → 0 ≤ k → k < 3 → g (recordF t c b i + k).toNat = 0
  clock : g 0 = 0
  era : g 1 = 1
  bits : 0 < b → g (fromF t c b 5).toNat = 0
theorem slice_w (g : Nat → Int) (n : Nat) : sliceC Tryz.prog (fun _ => none) 44 (.t (.sl (wordsL g n) n false)) none (some n) none = some ⟨.t (wRow g n false), [], []⟩ := by
  obtain ⟨ii, hi, hs⟩ : ∃ ii, Tryz.prog.info? 44 = some ii ∧ ii.size = 3 := ⟨_, rfl, by kernel_rfl⟩
  unfold sliceC
  simp only [hi, hs]
  have hb : bounds3 n none (some (n : Int)) none = some (0, n, none) := by simp [bounds3]
  rw [hb]
  simp [clipOf, wRow, List.take_of_length_le, wordsL_len]
def lgT : List R := [.t (.agg [i64 0, u32 0, u32 0]), .t (i64 0)]
theorem asked_ok {t c b : Int} (h : LV t c b) (n : Nat) (hn : fromF t c b 7 = n) {tn bn : Nat} {g : Nat → Int} (hg : GAll t c b tn bn g) (i : Int) (h0 : 1 ≤ i) (h1 : i ≤ t) :
    HoldsL 28 [lay t c b, wRow g n false, i64 i] [.t (i64 0), .t (.agg [i64 0, i64 0]), .t (i64 0)] := by
  have hs := size_le h
  have hsz := size_ok h
  rw [hn] at hsz
  have e : ∀ r0 r1 r2 : Int, runX Tryz.prog gG noF 20 28 [lay t c b, wRow g n false, i64 i] [((28, 17), .call [.osl [i64 r0, i64 r1, i64 r2] 3 1]), ((28, 20), .call [.t (i64 0)]), ((28, 26), .call [.t (i64 n)]), ((28, 27), .res (.t (bl false))),
      ((28, 45), .call [.t (i64 n)]), ((28, 46), .res (.t (wRow g n false))), ((28, 48), .call lgT), ((28, 45), .call [.t (i64 n)]), ((28, 46), .res (.t (wRow g n false))), ((28, 48), .call lgT), ((28, 45), .call [.t (i64 n)]), ((28, 46), .res (.t (wRow g n false))), ((28, 48), .call lgT)] =
    some ([.t (i64 0), .t (.agg [i64 0, i64 0]), .t (i64 0)], [], [HoldsL 54 [lay t c b, i64 i] [.osl [i64 r0, i64 r1, i64 r2] 3 1], HoldsL 6 [lay t c b] [.t (i64 0)], HoldsL 15 [lay t c b] [.t (i64 n)], BinIs Tryz.prog .lss 3 (.tmp 24) (.tmp 26) (.int .i64 n) (.int .i64 n) (.bool false),
      HoldsL 15 [lay t c b] [.t (i64 n)], sliceC Tryz.prog (fun _ => none) 44 (.t (.sl (wordsL g n) n false)) none (some n) none = some ⟨.t (wRow g n false), [], []⟩, HoldsL 52 [lay t c b, wRow g n false, i64 r0] lgT,
      HoldsL 15 [lay t c b] [.t (i64 n)], sliceC Tryz.prog (fun _ => none) 44 (.t (.sl (wordsL g n) n false)) none (some n) none = some ⟨.t (wRow g n false), [], []⟩, HoldsL 52 [lay t c b, wRow g n false, i64 r1] lgT,
      HoldsL 15 [lay t c b] [.t (i64 n)], sliceC Tryz.prog (fun _ => none) 44 (.t (.sl (wordsL g n) n false)) none (some n) none = some ⟨.t (wRow g n false), [], []⟩, HoldsL 52 [lay t c b, wRow g n false, i64 r2] lgT]) := by
    intro r0 r1 r2
    kernel_rfl
  have hlo : ∀ k : Int, 0 ≤ k → k < 3 → HoldsL 52 [lay t c b, wRow g n false, i64 (recordF t c b i + k)] lgT := by
    intro k k0 k3
    obtain ⟨m1, m2, m3⟩ := record_may h i k h0 h1 k0 k3
    have := logical_ok h n hn g false (recordF t c b i + k).toNat (recordF t c b i + k) (by omega) (by omega) m1
    rw [hg.recs i k h0 h1 k0 k3] at this
    exact this
  have hl0 := hlo 0 (by omega) (by omega)
  rw [Int.add_zero] at hl0
  exact sndL 20 _ _ _ _ _ _ (e _ _ _) (.cons (ats_ok h i h0 h1) (.cons (check_ok h) (.cons hsz (.cons (bLss _ _ _ _ _ (decide_eq_false (by omega))) (.cons hsz (.cons (slice_w g n) (.cons hl0 (.cons hsz (.cons (slice_w g n) (.cons (hlo 1 (by omega) (by omega)) (.cons hsz (.cons (slice_w g n) (.cons (hlo 2 (by omega) (by omega)) .nil)))))))))))))
theorem records_run (c b : Int) (t : Nat) (ht : t = 1 ∨ t = 2 ∨ t = 3) (g : Nat → Int) (n : Nat) : runX Tryz.prog gG noF 20 23 [lay t c b, wRow g n false] ((List.range t).map fun (_ : Nat) => ((23, 19), D.call [.t (i64 0), .t (.agg [i64 0, i64 0]), .t (i64 0)])) =
    some ([.t (bl true)], [], (List.range t).map fun (i : Nat) => HoldsL 28 [lay t c b, wRow g n false, i64 (i + 1)] [.t (i64 0), .t (.agg [i64 0, i64 0]), .t (i64 0)]) := by
  rcases ht with rfl | rfl | rfl <;> kernel_rfl
theorem records_ok {c : Int} {t b : Nat} (h : LV3 c t b) (n : Nat) (hn : fromF t c b 7 = n) {g : Nat → Int} (hg : GAll t c b t b g) : HoldsL 23 [lay t c b, wRow g n false] [.t (bl true)] := by
  refine sndL 20 _ _ _ _ _ _ (records_run c b t (by have := h.t1; have := h.t3; omega) g n) ?_
  intro p hp
  obtain ⟨i, hi, rfl⟩ := List.mem_map.1 hp
  rw [List.mem_range] at hi
  exact asked_ok h.lv n hn hg _ (by omega) (by omega)
theorem swaps_run (c : Int) (t b : Nat) (ht : t = 1 ∨ t = 2 ∨ t = 3) (hb : b = 0 ∨ b = 1 ∨ b = 2 ∨ b = 3 ∨ b = 4 ∨ b = 5 ∨ b = 6 ∨ b = 7 ∨ b = 8) (g : Nat → Int) (n : Nat) (xs ys : Nat → Int) (is js : Nat → Nat) :
    runX Tryz.prog gG noF 20 24 [lay t c b, wRow g n false] (((List.range t).flatMap fun (i : Nat) => [((24, 16), D.call [.t (i64 (xs i))]), ((24, 17), .res (.t (.ptr (wordsL g n) (is i * 3)))), ((24, 18), .res (.agg [.t (i64 2), .t (u32 0), .t (u32 0)]))]) ++
      (List.range b).flatMap fun (i : Nat) => [((24, 29), D.call [.t (i64 (ys i))]), ((24, 30), .res (.t (.ptr (wordsL g n) (js i * 3)))), ((24, 31), .res (.agg [.t (i64 2), .t (u32 0), .t (u32 0)]))]) =
    some ([.t (bl true)], [], ((List.range t).flatMap fun (i : Nat) => [HoldsL 17 [lay t c b, i64 (i + 1)] [.t (i64 (xs i))], ixP g n false (xs i) (is i), paP g n (is i) 2]) ++
      (List.range b).flatMap fun (i : Nat) => [HoldsL 18 [lay t c b, i64 i] [.t (i64 (ys i))], ixP g n false (ys i) (js i), paP g n (js i) 2]) := by
  rcases ht with rfl | rfl | rfl <;> rcases hb with rfl | rfl | rfl | rfl | rfl | rfl | rfl | rfl | rfl <;> kernel_rfl
theorem swaps_ok {c : Int} {t b : Nat} (h : LV3 c t b) (n : Nat) (hn : fromF t c b 7 = n) {g : Nat → Int} (hg : GAll t c b t b g) : HoldsL 24 [lay t c b, wRow g n false] [.t (bl true)] := by
  refine sndL 20 _ _ _ _ _ _ (swaps_run c t b (by have := h.t1; have := h.t3; omega) (by have := h.b8; omega) g n (fun i => slotF t c b (i + 1)) (fun i => blockF t c b i) (fun i => (slotF t c b (i + 1)).toNat) (fun i => (blockF t c b i).toNat)) ?_
  intro p hp
  rcases List.mem_append.1 hp with hp | hp
  · obtain ⟨i, hi, hp⟩ := List.mem_flatMap.1 hp
    rw [List.mem_range] at hi
    have hr := slotF_range h.lv (i + 1) (by omega) (by omega)
    simp only [List.mem_cons, List.not_mem_nil, or_false] at hp
    rcases hp with rfl | rfl | rfl
    · exact slot_ok h.lv _ (by omega) (by omega)
    · exact index_w g n false _ _ (by omega) (by omega)
    · exact paP_is g n _ (by omega) _ (hg.st _ (List.mem_append.2 (.inl (List.mem_map.2 ⟨i, List.mem_range.2 hi, rfl⟩))))
  · obtain ⟨i, hi, hp⟩ := List.mem_flatMap.1 hp
    rw [List.mem_range] at hi
    have hr := blockF_range h.lv i (by omega) (by omega)
    simp only [List.mem_cons, List.not_mem_nil, or_false] at hp
    rcases hp with rfl | rfl | rfl
    · exact block_ok h.lv _ (by omega) (by omega)
    · exact index_w g n false _ _ (by omega) (by omega)
    · exact paP_is g n _ (by omega) _ (hg.st _ (List.mem_append.2 (.inr (List.mem_map.2 ⟨i, List.mem_range.2 hi, rfl⟩))))
theorem clocks_ok {t c b : Int} (h : LV t c b) (n : Nat) (hn : fromF t c b 7 = n) {tn bn : Nat} {g : Nat → Int} (hg : GAll t c b tn bn g) : HoldsL 26 [lay t c b, wRow g n false] [.t (bl true)] := by
  have hs := size_le h
  have e : runX Tryz.prog gG noF 10 26 [lay t c b, wRow g n false] [((26, 9), .call [.t (i64 0)]), ((26, 10), .res (.t (.ptr (wordsL g n) (0 * 3)))), ((26, 11), .res (.agg [.t (i64 0), .t (u32 0), .t (u32 0)])), ((26, 14), .call [.t (i64 1)]), ((26, 15), .res (.t (.ptr (wordsL g n) (1 * 3)))), ((26, 16), .res (.agg [.t (i64 1), .t (u32 0), .t (u32 0)]))] =
    some ([.t (bl true)], [], [HoldsL 50 [lay t c b] [.t (i64 0)], ixP g n false 0 0, paP g n 0 0, HoldsL 16 [lay t c b] [.t (i64 1)], ixP g n false 1 1, paP g n 1 1]) := by kernel_rfl
  exact sndL 10 _ _ _ _ _ _ e (.cons (clock_ok h) (.cons (index_w g n false 0 0 rfl (by omega)) (.cons (paP_is g n 0 (by omega) _ hg.clock) (.cons (era_ok h) (.cons (index_w g n false 1 1 rfl (by omega)) (.cons (paP_is g n 1 (by omega) _ hg.era) .nil))))))
end Go.Proofs.YtaomebcmmjhplaaGreatDoor
