/- Clean words; the word of a place, the record of a thread. -/
import Derived.Test.YtaomebcmmjhplaaGreatDoorLy9
namespace Go.Proofs.YtaomebcmmjhplaaGreatDoor
open Go Go.RowKit Go.Va
set_option maxRecDepth 100000
set_option maxHeartbeats 400000
theorem clean1 (g : Nat → Int) (n : Nat) (cl : Bool) (i : Nat) (x : Int) (hx : x = i) (h : i < n) : HoldsL 42 [i64 x, .ptr [wRow g n cl] 0] [.t (bl false)] := by
  have e : runX Tryz.prog gG noF 10 42 [i64 x, .ptr [wRow g n cl] 0] [((42, 6), .res (.t (.ptr (wordsL g n) (i * 3)))), ((42, 8), .res (.t (u32 0)))] = some ([.t (bl false)], [], [indexAddrC Tryz.prog 25 (.t (wRow g n cl)) x = some ⟨.t (.ptr (wordsL g n) (i * 3)), [], []⟩, partC Tryz.prog 42 ((wordsL g n).map .t) (i * 3 + 2) = some (.t (u32 0))]) := by kernel_rfl
  exact sndL 10 _ _ _ _ _ _ e (.cons (index_w g n cl i x hx h) (.cons (part_wk g n i 2 h (.inr rfl)) .nil))
theorem clean2 (g : Nat → Int) (n : Nat) (cl : Bool) (i : Nat) (x : Int) (hx : x = i) (h : i < n) (hg : g i = 2) : HoldsL 44 [i64 x, .ptr [wRow g n cl] 0] [.t (bl false)] := by
  have e : runX Tryz.prog gG noF 10 44 [i64 x, .ptr [wRow g n cl] 0] [((44, 6), .res (.t (.ptr (wordsL g n) (i * 3)))), ((44, 7), .res (.agg [.t (i64 2), .t (u32 0), .t (u32 0)]))] = some ([.t (bl false)], [], [indexAddrC Tryz.prog 25 (.t (wRow g n cl)) x = some ⟨.t (.ptr (wordsL g n) (i * 3)), [], []⟩, partC Tryz.prog 44 ((wordsL g n).map .t) (i * 3) = some (.agg [.t (i64 2), .t (u32 0), .t (u32 0)])]) := by kernel_rfl
  have hp := part_w g n i h
  rw [hg] at hp
  exact sndL 10 _ _ _ _ _ _ e (.cons (index_w g n cl i x hx h) (.cons hp .nil))
theorem clean3 (g : Nat → Int) (n : Nat) (cl : Bool) (i : Nat) (x : Int) (hx : x = i) (h : i < n) (hg : g i = 0) : HoldsL 47 [i64 x, .ptr [wRow g n cl] 0] [.t (bl false)] := by
  have e : runX Tryz.prog gG noF 10 47 [i64 x, .ptr [wRow g n cl] 0] [((47, 6), .res (.t (.ptr (wordsL g n) (i * 3)))), ((47, 7), .res (.agg [.t (i64 0), .t (u32 0), .t (u32 0)]))] = some ([.t (bl false)], [], [indexAddrC Tryz.prog 25 (.t (wRow g n cl)) x = some ⟨.t (.ptr (wordsL g n) (i * 3)), [], []⟩, partC Tryz.prog 44 ((wordsL g n).map .t) (i * 3) = some (.agg [.t (i64 0), .t (u32 0), .t (u32 0)])]) := by kernel_rfl
  have hp := part_w g n i h
  rw [hg] at hp
  exact sndL 10 _ _ _ _ _ _ e (.cons (index_w g n cl i x hx h) (.cons hp .nil))
/-- Words of a layout: what redo.Clean asks of them. -/
structure GClean (t c b : Int) (tn bn : Nat) (g : Nat → Int) : Prop where
  st : ∀ x, x ∈ stL t c b tn bn → g x.toNat = 2
  own : ∀ x, x ∈ ownL t c b tn → g x.toNat = 0
theorem ownL_len (t c b : Int) : ∀ tn, (ownL t c b tn).length = tn * 2
  | 0 => rfl
  | tn + 1 => by
    have := ownL_len t c b tn
    unfold ownL at *
    rw [List.range_succ, List.flatMap_append, List.length_append, this]
    simp; omega
theorem stL_range {c : Int} {t b : Nat} (h : LV3 c t b) : ∀ x, x ∈ stL t c b t b → 0 ≤ x ∧ x < fromF t c b 7 := by
  intro x hx
  unfold stL at hx
  rcases List.mem_append.1 hx with hx | hx
  · obtain ⟨i, hi, rfl⟩ := List.mem_map.1 hx
    rw [List.mem_range] at hi
    exact slotF_range h.lv _ (by omega) (by omega)
  · obtain ⟨i, hi, rfl⟩ := List.mem_map.1 hx
    rw [List.mem_range] at hi
    exact blockF_range h.lv _ (by omega) (by omega)
theorem ownL_range {c : Int} {t b : Nat} (h : LV3 c t b) : ∀ x, x ∈ ownL t c b t → 0 ≤ x ∧ x < fromF t c b 7 := by
  intro x hx
  unfold ownL at hx
  obtain ⟨i, hi, hx⟩ := List.mem_flatMap.1 hx
  rw [List.mem_range] at hi
  have hv := h.lv
  obtain ⟨g1, g2, g3, g4, g5, g6⟩ := hv
  have := long3_le c g3 g4
  have := long5_le b
  simp only [List.mem_cons, List.not_mem_nil, or_false, announceF, hazardF, fromF] at hx ⊢
  omega
theorem clean_ok {c : Int} {t b : Nat} (h : LV3 c t b) (n : Nat) (hn : fromF t c b 7 = n) (g : Nat → Int) (cl : Bool) (hg : GClean t c b t b g) : HoldsL 22 [lay t c b, wRow g n cl] [.t (bl true)] := by
  have hs := size_le h.lv
  have hsz := size_ok h.lv
  rw [hn] at hsz
  have e : runX Tryz.prog gG noF 10 22 [lay t c b, wRow g n cl] [((22, 6), .call [.t (i64 0)]), ((22, 12), .call [.t (i64 n)]), ((22, 13), .res (.t (bl false))), ((22, 16), .call [.t (.sl ((mayL t c b n).map i64) (mayL t c b n).length false)]), ((22, 18), .call [.t (bl false)]),
      ((22, 22), .call [.t (.sl ((stL t c b t b).map i64) (stL t c b t b).length false)]), ((22, 24), .call [.t (bl false)]), ((22, 29), .call [.t (.sl ((ownL t c b t).map i64) (ownL t c b t).length false)]), ((22, 31), .call [.t (bl false)])] =
    some ([.t (bl true)], [], [HoldsL 6 [lay t c b] [.t (i64 0)], HoldsL 15 [lay t c b] [.t (i64 n)], BinIs Tryz.prog .lss 3 (.tmp 10) (.tmp 12) (.int .i64 n) (.int .i64 n) (.bool false),
      HoldsL 41 [lay t c b] [.t (.sl ((mayL t c b n).map i64) (mayL t c b n).length false)], HoldsL 40 [.sl ((mayL t c b n).map i64) (mayL t c b n).length false, .fn (.func 42) [] [.ptr [wRow g n cl] 0]] [.t (bl false)],
      HoldsL 43 [lay t c b] [.t (.sl ((stL t c b t b).map i64) (stL t c b t b).length false)], HoldsL 40 [.sl ((stL t c b t b).map i64) (stL t c b t b).length false, .fn (.func 44) [] [.ptr [wRow g n cl] 0]] [.t (bl false)],
      HoldsL 46 [lay t c b] [.t (.sl ((ownL t c b t).map i64) (ownL t c b t).length false)], HoldsL 40 [.sl ((ownL t c b t).map i64) (ownL t c b t).length false, .fn (.func 47) [] [.ptr [wRow g n cl] 0]] [.t (bl false)]]) := by kernel_rfl
  have hst := statuses_holds h
  have how := own_holds h
  have hstl : (stL t c b t b).length = t + b := by simp [stL]
  rw [← hstl] at hst
  rw [← ownL_len t c b t] at how
  have t3 := h.t3
  have b8 := h.b8
  have hml := mayL_le t c b n
  have hol := ownL_len t c b t
  refine sndL 10 _ _ _ _ _ _ e (.cons (check_ok h.lv) (.cons hsz (.cons (bLss _ _ _ _ _ (decide_eq_false (by omega))) (.cons (may_holds h.lv n hn) (.cons (contains1 _ _ (by omega) fun x hx => ?_) (.cons hst (.cons (contains2 _ _ (by omega) fun x hx => ?_) (.cons how (.cons (contains3 _ _ (by omega) fun x hx => ?_) .nil)))))))))
  · obtain ⟨a, h1, h2, _⟩ := (mayL_mem t c b n x).1 hx
    exact clean1 g n cl a x h2 h1
  · have hr := stL_range h x hx
    exact clean2 g n cl x.toNat x (by omega) (by omega) (hg.st x hx)
  · have hr := ownL_range h x hx
    exact clean3 g n cl x.toNat x (by omega) (by omega) (hg.own x hx)
/-- The word of a place that no swap holds. -/
theorem logical_ok {t c b : Int} (h : LV t c b) (n : Nat) (hn : fromF t c b 7 = n) (g : Nat → Int) (cl : Bool) (i : Nat) (x : Int) (hx : x = i) (hi : i < n) (hm : mayF t c b x = true) : HoldsL 52 [lay t c b, wRow g n cl, i64 x] [.t (.agg [i64 (g i), u32 0, u32 0]), .t (i64 0)] := by
  have hs := size_le h
  have hsz := size_ok h
  rw [hn] at hsz
  have e : ∀ v, runX Tryz.prog gG noF 10 52 [lay t c b, wRow g n cl, i64 x] [((52, 18), .call [.t (i64 0)]), ((52, 24), .call [.t (i64 n)]), ((52, 25), .res (.t (bl false))), ((52, 31), .call [.t (bl true)]), ((52, 36), .res (.t (.ptr (wordsL g n) (i * 3)))), ((52, 37), .res (.agg [.t (i64 v), .t (u32 0), .t (u32 0)]))] =
    some ([.t (.agg [i64 v, u32 0, u32 0]), .t (i64 0)], [], [HoldsL 6 [lay t c b] [.t (i64 0)], HoldsL 15 [lay t c b] [.t (i64 n)], BinIs Tryz.prog .lss 3 (.tmp 22) (.tmp 24) (.int .i64 n) (.int .i64 n) (.bool false), HoldsL 68 [lay t c b, i64 x] [.t (bl true)], indexAddrC Tryz.prog 25 (.t (wRow g n cl)) x = some ⟨.t (.ptr (wordsL g n) (i * 3)), [], []⟩, partC Tryz.prog 44 ((wordsL g n).map .t) (i * 3) = some (.agg [.t (i64 v), .t (u32 0), .t (u32 0)])]) := by
    intro v
    kernel_rfl
  have hmay := may_ok h x (by omega) (by omega)
  rw [hm] at hmay
  exact sndL 10 _ _ _ _ _ _ (e _) (.cons (check_ok h) (.cons hsz (.cons (bLss _ _ _ _ _ (decide_eq_false (by omega))) (.cons hmay (.cons (index_w g n cl i x hx hi) (.cons (part_w g n i hi) .nil))))))
end Go.Proofs.YtaomebcmmjhplaaGreatDoor
