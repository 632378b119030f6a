/- The lines; what the machine does at an act. What the machine does at an act. -/
import Derived.Test.YtiegfchaepbnbaaGreatDoorP14
namespace Go.Proofs.YtiegfchaepbnbaaGreatDoor
open Go Go.RowKit Go.Va
set_option maxRecDepth 100000
set_option maxHeartbeats 400000
/-- A row that may be nil. -/
def sT {α : Type} (f : α → List T) : List α → T
  | [] => nilS
  | x :: r => .sl (rows f (x :: r)) (x :: r).length false
def bsT {α : Type} (f : α → List T) (l : List α) : T := .box (sT f l)
theorem sT_sl {α : Type} {f : α → List T} {l : List α} (h : l ≠ []) : sT f l = .sl (rows f l) l.length false := by
  cases l with
  | nil => exact (h rfl).elim
  | cons x l => rfl
theorem bs_out {α : Type} (f : α → List T) (l : List α) : TLe (sT f l) (bsT f l) := tle_box fun h I u hr => by
  cases l with
  | nil => simp only [sT, RT] at hr; rw [hr.1]; rfl
  | cons p l => simp only [sT, RT] at hr; obtain ⟨b, lo, cap, c, e, fr, rfl, _⟩ := hr; rfl
theorem bs_in {α : Type} (f : α → List T) (l : List α) : TLe (bsT f l) (sT f l) := tle_unbox _
theorem bs_sl {α : Type} (f : α → List T) (l : List α) (x : α) (n : Nat) (hn : n = (l ++ [x]).length) : TLe (.sl (rows f (l ++ [x])) n false) (bsT f (l ++ [x])) := by
  subst hn
  rw [← sT_sl (by simp)]
  exact bs_out _ _
/-- A line's log. -/
structure Lg where
  st : List (Nat × Wd)
  kept : Int
def stL (s : Nat × Wd) : List T := [i64 s.1, i64 s.2.v, u32 s.2.a, u32 s.2.r]
def lgL (g : Lg) : List T := [bsT stL g.st, i64 g.kept]
def i1L (n : Int) : List T := [i64 n]
theorem stL_len : ∀ s, (stL s).length = 4 := fun _ => rfl
theorem lgL_len : ∀ s, (lgL s).length = 2 := fun _ => rfl
theorem i1L_len : ∀ s, (i1L s).length = 1 := fun _ => rfl
structure Mach where
  mem : Mem
  first : List Wd
  logs : List Lg
  asks : T
  steps : List Int
  crashes : Int
def machT (q : Mach) : T := .agg [.sl (rows histL q.mem.places) q.mem.places.length false, .sl (rows vwL q.mem.views) q.mem.views.length false, .sl (rows wdL q.first) q.first.length false, .sl (rows lgL q.logs) q.logs.length false, .box q.asks,
  .sl (rows i1L q.steps) q.steps.length false, i64 q.crashes]
theorem clipS_sl (l : List (Nat × Wd)) : HoldsL 105 [(T.sl (rows stL l) l.length false)] [(R.t (T.sl (rows stL l) l.length true))] := by
  have e : runX Tryz.prog gG noF 20 105 [(T.sl (rows stL l) l.length false)] [((105, 8), .res (.t (T.sl (rows stL l) l.length true)))] = some ([(R.t (T.sl (rows stL l) l.length true))], [], [sliceC Tryz.prog (fun _ => none) 174 (.t (T.sl (rows stL l) l.length false)) none (some ((l.length : Nat) : Int)) (some ((l.length : Nat) : Int)) = some ⟨.t (T.sl (rows stL l) l.length true), [], []⟩]) := by kernel_rfl
  exact sndL 20 _ _ _ _ _ _ e (.cons (clipRows (by kernel_rfl) stL_len l false) .nil)
theorem clipS_nil  : HoldsL 105 [nilS] [(R.t nilS)] := by
  have e : runX Tryz.prog gG noF 20 105 [nilS] [] = some ([(R.t nilS)], [], []) := by kernel_rfl
  exact sndL 20 _ _ _ _ _ _ e (.nil)
theorem clipS1 (l : List (Nat × Wd)) (h : l ≠ []) : HoldsL 105 [bsT stL l] [.t (.sl (rows stL l) l.length true)] :=
  holds_args (.cons (bs_in _ _) .nil) (sT_sl (f := stL) h ▸ clipS_sl l)
theorem clipS0 : HoldsL 105 [bsT stL []] [.t nilS] := holds_args (.cons (bs_in _ _) .nil) clipS_nil
theorem cloneG (l : List Lg) (hne : 0 < l.length) (hle : l.length ≤ 100000) : HoldsL 94 [(T.sl (rows lgL l) l.length false)] [(R.osl (rows lgL l) l.length 2)] := by
  have e : runX Tryz.prog gG noF 20 94 [(T.sl (rows lgL l) l.length false)] [((94, 7), .ax l.length (List.map C.t (rows lgL l))), ((94, 0), .ro [(1, (rows lgL l))])] = some ([(R.osl (rows lgL l) l.length 2)], [], [List.length (List.map C.t (rows lgL l)) = l.length * 2,
      l.length ≠ 0,
      0 + l.length = l.length,
      List.length ([] : List C) = 0 * 2,
      roomB (0 + l.length) 32 = true,
      ([] : List C) ++ (List.map C.t (rows lgL l)) = (List.map C.t (rows lgL l)),
      (List.map C.t (rows lgL l)) = List.map C.t (rows lgL l),
      List.length (rows lgL l) = l.length * 2]) := by kernel_rfl
  exact sndL 20 _ _ _ _ _ _ e (.cons (by simp [rows_len lgL_len] <;> omega) (.cons (by omega) (.cons (by first | rfl | omega) (.cons rfl (.cons (roomOk (by omega)) (.cons (List.nil_append _) (.cons (by first | rfl | simp) (.cons (by simp [rows_len lgL_len] <;> omega) .nil))))))))
theorem cloneI (l : List Int) (hne : 0 < l.length) (hle : l.length ≤ 100000) : HoldsL 41 [(T.sl (rows i1L l) l.length false)] [(R.osl (rows i1L l) l.length 1)] := by
  have e : runX Tryz.prog gG noF 20 41 [(T.sl (rows i1L l) l.length false)] [((41, 7), .ax l.length (List.map C.t (rows i1L l))), ((41, 0), .ro [(1, (rows i1L l))])] = some ([(R.osl (rows i1L l) l.length 1)], [], [List.length (List.map C.t (rows i1L l)) = l.length * 1,
      l.length ≠ 0,
      0 + l.length = l.length,
      List.length ([] : List C) = 0 * 1,
      roomB (0 + l.length) 8 = true,
      ([] : List C) ++ (List.map C.t (rows i1L l)) = (List.map C.t (rows i1L l)),
      (List.map C.t (rows i1L l)) = List.map C.t (rows i1L l),
      List.length (rows i1L l) = l.length * 1]) := by kernel_rfl
  exact sndL 20 _ _ _ _ _ _ e (.cons (by simp [rows_len i1L_len] <;> omega) (.cons (by omega) (.cons (by first | rfl | omega) (.cons rfl (.cons (roomOk (by omega)) (.cons (List.nil_append _) (.cons (by first | rfl | simp) (.cons (by simp [rows_len i1L_len] <;> omega) .nil))))))))
theorem line_store0 (q : Mach) (ad : Nat) (w : Wd) (g : Lg) (hl : q.logs[ad / 8]? = some g) (hfl : ad < q.first.length) (hle : q.logs.length ≤ 100000) (hgl : g.st.length ≤ 100000) (hfl2 : q.first.length ≤ 100000) (hg : g.st = []) : HoldsL 89 [(T.agg [(T.sl (rows wdL q.first) q.first.length false), (T.sl (rows lgL q.logs) q.logs.length false), (T.box q.asks)]), (i64 ((ad : Nat) : Int)), (T.agg [(i64 w.v), (u32 w.a), (u32 w.r)])] [.t (.agg [.sl (rows wdL q.first) q.first.length false, .sl (rows lgL (q.logs.set (ad / 8) ⟨g.st ++ [(ad, w)], g.kept⟩)) q.logs.length false, .box q.asks]), .t (i64 0)] := by
  have hl8 := (List.getElem?_eq_some_iff.1 hl).1
  have e : runX Tryz.prog gG noF 20 89 [(T.agg [(T.sl (rows wdL q.first) q.first.length false), (T.sl (rows lgL q.logs) q.logs.length false), (T.box q.asks)]), (i64 ((ad : Nat) : Int)), (T.agg [(i64 w.v), (u32 w.a), (u32 w.r)])] [((91, 6), .res (.t (bl true))), ((91, 12), .res (.t (bl true))), ((89, 16), .call [(R.osl (rows lgL q.logs) q.logs.length 2)]), ((89, 21), .res (.t (i64 (((ad / 8) : Nat) : Int)))), ((89, 22), .res (C.loc 7 ((ad / 8) * 2))), ((89, 27), .ld (C.t (bsT stL g.st))), ((89, 28), .call [(R.t nilS)]), ((89, 33), .axw 1 [(i64 ((ad : Nat) : Int)), (i64 w.v), (u32 w.a), (u32 w.r)] (bsT stL (g.st ++ [(ad, w)]))), ((89, 0), .st (List.map C.t (rows lgL (q.logs.set (ad / 8) ⟨(g.st ++ [(ad, w)]), g.kept⟩)))), ((89, 36), .fz [(7, (rows lgL (q.logs.set (ad / 8) ⟨(g.st ++ [(ad, w)]), g.kept⟩)))])] = some ([(R.t (T.agg [(T.sl (rows wdL q.first) q.first.length false), (T.sl (rows lgL (q.logs.set (ad / 8) ⟨(g.st ++ [(ad, w)]), g.kept⟩)) q.logs.length false), (T.box q.asks)])), (R.t (i64 0))], [], [BinIs Tryz.prog .geq 51 (.tmp 5) (.const (.int .i64 0)) (.int .i64 ((ad : Nat) : Int)) (.int .i64 0) (.bool true),
      BinIs Tryz.prog .lss 3 (.tmp 8) (.tmp 11) (.int .i64 ((ad : Nat) : Int)) (.int .i64 ((q.first.length : Nat) : Int)) (.bool true),
      HoldsL 94 [(T.sl (rows lgL q.logs) q.logs.length false)] [(R.osl (rows lgL q.logs) q.logs.length 2)],
      BinIs Tryz.prog .quo 3 (.tmp 20) (.const (.int .i64 8)) (.int .i64 ((ad : Nat) : Int)) (.int .i64 8) (.int .i64 (((ad / 8) : Nat) : Int)),
      indexAddrC Tryz.prog 31 (C.osl 7 q.logs.length 2) (((ad / 8) : Nat) : Int) = some ⟨(C.loc 7 ((ad / 8) * 2)), [], []⟩,
      partC Tryz.prog 170 (List.map C.t (rows lgL q.logs)) ((ad / 8) * 2) = some (C.t (bsT stL g.st)),
      HoldsL 105 [(bsT stL g.st)] [(R.t nilS)],
      TLe (T.sl [(i64 ((ad : Nat) : Int)), (i64 w.v), (u32 w.a), (u32 w.r)] 1 false) (bsT stL (g.st ++ [(ad, w)])),
      List.length [(C.t (i64 ((ad : Nat) : Int))), (C.t (i64 w.v)), (C.t (u32 w.a)), (C.t (u32 w.r))] = 1 * 4,
      1 ≠ 0,
      1 = 1,
      roomB 1 24 = true,
      [(C.t (i64 ((ad : Nat) : Int))), (C.t (i64 w.v)), (C.t (u32 w.a)), (C.t (u32 w.r))] = [(C.t (i64 ((ad : Nat) : Int))), (C.t (i64 w.v)), (C.t (u32 w.a)), (C.t (u32 w.r))],
      List.map C.t [(i64 ((ad : Nat) : Int)), (i64 w.v), (u32 w.a), (u32 w.r)] = List.map C.t [(i64 ((ad : Nat) : Int)), (i64 w.v), (u32 w.a), (u32 w.r)],
      List.length [(i64 ((ad : Nat) : Int)), (i64 w.v), (u32 w.a), (u32 w.r)] = 1 * 4,
      ((ad / 8) * 2) + 1 ≤ List.length (List.map C.t (rows lgL q.logs)),
      splice (List.map C.t (rows lgL q.logs)) ((ad / 8) * 2) [(C.t (bsT stL (g.st ++ [(ad, w)])))] = (List.map C.t (rows lgL (q.logs.set (ad / 8) ⟨(g.st ++ [(ad, w)]), g.kept⟩))),
      (List.map C.t (rows lgL (q.logs.set (ad / 8) ⟨(g.st ++ [(ad, w)]), g.kept⟩))) = List.map C.t (rows lgL (q.logs.set (ad / 8) ⟨(g.st ++ [(ad, w)]), g.kept⟩)),
      List.length (rows lgL (q.logs.set (ad / 8) ⟨(g.st ++ [(ad, w)]), g.kept⟩)) = q.logs.length * 2]) := by kernel_rfl
  have hh := sndL 20 _ _ _ _ _ _ e (.cons (bCmp (d := decide (((ad : Nat) : Int) ≥ 0)) (by unfold BinIs; kernel_rfl) (decide_eq_true (by omega))) (.cons (bCmp (d := decide (((ad : Nat) : Int) < ((q.first.length : Nat) : Int))) (by unfold BinIs; kernel_rfl) (decide_eq_true (by omega))) (.cons (cloneG _ (by omega) (by omega)) (.cons (bAri (r := Int.tdiv ((ad : Nat) : Int) 8) (by unfold BinIs; kernel_rfl) (by rw [Int.tdiv_eq_ediv_of_nonneg (by omega)]; omega) (by omega) (by omega)) (.cons (ixOsl (elem := 172) (k := 2) (by kernel_rfl) (by kernel_rfl) (by omega) (by omega) (by first | omega | simp)) (.cons (part1 (by kernel_rfl) (by kernel_rfl) lgL_len hl (j := 0) (by decide) rfl) (.cons (by rw [hg]; exact clipS0) (.cons (by have := bs_sl stL [] (ad, w) 1 rfl; rw [hg]; exact this) (.cons rfl (.cons (by decide) (.cons (by first | rfl | omega) (.cons (roomOk (by omega)) (.cons rfl (.cons rfl (.cons (by simp [] <;> omega) (.cons (rowsLe lgL_len hl (j := 0) (by decide)) (.cons (rowsSplice lgL_len hl (j := 0) (by simp) rfl) (.cons (by first | rfl | simp) (.cons (by simp [rows_len lgL_len] <;> omega) .nil)))))))))))))))))))
  have hr : ([(R.t (T.agg [(T.sl (rows wdL q.first) q.first.length false), (T.sl (rows lgL (q.logs.set (ad / 8) ⟨(g.st ++ [(ad, w)]), g.kept⟩)) q.logs.length false), (T.box q.asks)])), (R.t (i64 0))] : List R) = [.t (.agg [.sl (rows wdL q.first) q.first.length false, .sl (rows lgL (q.logs.set (ad / 8) ⟨g.st ++ [(ad, w)], g.kept⟩)) q.logs.length false, .box q.asks]), .t (i64 0)] := rfl
  exact hr ▸ hh
theorem line_store1 (q : Mach) (ad : Nat) (w : Wd) (g : Lg) (hl : q.logs[ad / 8]? = some g) (hfl : ad < q.first.length) (hle : q.logs.length ≤ 100000) (hgl : g.st.length ≤ 100000) (hfl2 : q.first.length ≤ 100000) (hg : g.st ≠ []) : HoldsL 89 [(T.agg [(T.sl (rows wdL q.first) q.first.length false), (T.sl (rows lgL q.logs) q.logs.length false), (T.box q.asks)]), (i64 ((ad : Nat) : Int)), (T.agg [(i64 w.v), (u32 w.a), (u32 w.r)])] [.t (.agg [.sl (rows wdL q.first) q.first.length false, .sl (rows lgL (q.logs.set (ad / 8) ⟨g.st ++ [(ad, w)], g.kept⟩)) q.logs.length false, .box q.asks]), .t (i64 0)] := by
  have hl8 := (List.getElem?_eq_some_iff.1 hl).1
  have e : runX Tryz.prog gG noF 20 89 [(T.agg [(T.sl (rows wdL q.first) q.first.length false), (T.sl (rows lgL q.logs) q.logs.length false), (T.box q.asks)]), (i64 ((ad : Nat) : Int)), (T.agg [(i64 w.v), (u32 w.a), (u32 w.r)])] [((91, 6), .res (.t (bl true))), ((91, 12), .res (.t (bl true))), ((89, 16), .call [(R.osl (rows lgL q.logs) q.logs.length 2)]), ((89, 21), .res (.t (i64 (((ad / 8) : Nat) : Int)))), ((89, 22), .res (C.loc 7 ((ad / 8) * 2))), ((89, 27), .ld (C.t (bsT stL g.st))), ((89, 28), .call [(R.t (T.sl (rows stL g.st) g.st.length true))]), ((89, 33), .axw (g.st.length + 1) (rows stL (g.st ++ [(ad, w)])) (bsT stL (g.st ++ [(ad, w)]))), ((89, 0), .st (List.map C.t (rows lgL (q.logs.set (ad / 8) ⟨(g.st ++ [(ad, w)]), g.kept⟩)))), ((89, 36), .fz [(7, (rows lgL (q.logs.set (ad / 8) ⟨(g.st ++ [(ad, w)]), g.kept⟩)))])] = some ([(R.t (T.agg [(T.sl (rows wdL q.first) q.first.length false), (T.sl (rows lgL (q.logs.set (ad / 8) ⟨(g.st ++ [(ad, w)]), g.kept⟩)) q.logs.length false), (T.box q.asks)])), (R.t (i64 0))], [], [BinIs Tryz.prog .geq 51 (.tmp 5) (.const (.int .i64 0)) (.int .i64 ((ad : Nat) : Int)) (.int .i64 0) (.bool true),
      BinIs Tryz.prog .lss 3 (.tmp 8) (.tmp 11) (.int .i64 ((ad : Nat) : Int)) (.int .i64 ((q.first.length : Nat) : Int)) (.bool true),
      HoldsL 94 [(T.sl (rows lgL q.logs) q.logs.length false)] [(R.osl (rows lgL q.logs) q.logs.length 2)],
      BinIs Tryz.prog .quo 3 (.tmp 20) (.const (.int .i64 8)) (.int .i64 ((ad : Nat) : Int)) (.int .i64 8) (.int .i64 (((ad / 8) : Nat) : Int)),
      indexAddrC Tryz.prog 31 (C.osl 7 q.logs.length 2) (((ad / 8) : Nat) : Int) = some ⟨(C.loc 7 ((ad / 8) * 2)), [], []⟩,
      partC Tryz.prog 170 (List.map C.t (rows lgL q.logs)) ((ad / 8) * 2) = some (C.t (bsT stL g.st)),
      HoldsL 105 [(bsT stL g.st)] [(R.t (T.sl (rows stL g.st) g.st.length true))],
      TLe (T.sl (rows stL (g.st ++ [(ad, w)])) (g.st.length + 1) false) (bsT stL (g.st ++ [(ad, w)])),
      List.length [(C.t (i64 ((ad : Nat) : Int))), (C.t (i64 w.v)), (C.t (u32 w.a)), (C.t (u32 w.r))] = 1 * 4,
      1 ≠ 0,
      g.st.length + 1 = (g.st.length + 1),
      true = true,
      List.length (rows stL g.st) = g.st.length * 4,
      roomB (g.st.length + 1) 24 = true,
      List.map C.t (rows stL g.st) ++ [(C.t (i64 ((ad : Nat) : Int))), (C.t (i64 w.v)), (C.t (u32 w.a)), (C.t (u32 w.r))] = (List.map C.t (rows stL (g.st ++ [(ad, w)]))),
      List.map C.t (rows stL (g.st ++ [(ad, w)])) = List.map C.t (rows stL (g.st ++ [(ad, w)])),
      List.length (rows stL (g.st ++ [(ad, w)])) = (g.st.length + 1) * 4,
      ((ad / 8) * 2) + 1 ≤ List.length (List.map C.t (rows lgL q.logs)),
      splice (List.map C.t (rows lgL q.logs)) ((ad / 8) * 2) [(C.t (bsT stL (g.st ++ [(ad, w)])))] = (List.map C.t (rows lgL (q.logs.set (ad / 8) ⟨(g.st ++ [(ad, w)]), g.kept⟩))),
      (List.map C.t (rows lgL (q.logs.set (ad / 8) ⟨(g.st ++ [(ad, w)]), g.kept⟩))) = List.map C.t (rows lgL (q.logs.set (ad / 8) ⟨(g.st ++ [(ad, w)]), g.kept⟩)),
      List.length (rows lgL (q.logs.set (ad / 8) ⟨(g.st ++ [(ad, w)]), g.kept⟩)) = q.logs.length * 2]) := by kernel_rfl
  have hh := sndL 20 _ _ _ _ _ _ e (.cons (bCmp (d := decide (((ad : Nat) : Int) ≥ 0)) (by unfold BinIs; kernel_rfl) (decide_eq_true (by omega))) (.cons (bCmp (d := decide (((ad : Nat) : Int) < ((q.first.length : Nat) : Int))) (by unfold BinIs; kernel_rfl) (decide_eq_true (by omega))) (.cons (cloneG _ (by omega) (by omega)) (.cons (bAri (r := Int.tdiv ((ad : Nat) : Int) 8) (by unfold BinIs; kernel_rfl) (by rw [Int.tdiv_eq_ediv_of_nonneg (by omega)]; omega) (by omega) (by omega)) (.cons (ixOsl (elem := 172) (k := 2) (by kernel_rfl) (by kernel_rfl) (by omega) (by omega) (by first | omega | simp)) (.cons (part1 (by kernel_rfl) (by kernel_rfl) lgL_len hl (j := 0) (by decide) rfl) (.cons (clipS1 _ hg) (.cons (bs_sl stL g.st (ad, w) _ (by simp)) (.cons rfl (.cons (by decide) (.cons (by first | rfl | omega) (.cons rfl (.cons (by simp [rows_len stL_len] <;> omega) (.cons (roomOk (by omega)) (.cons (appRows g.st (ad, w) rfl) (.cons rfl (.cons (by simp [rows_len stL_len] <;> omega) (.cons (rowsLe lgL_len hl (j := 0) (by decide)) (.cons (rowsSplice lgL_len hl (j := 0) (by simp) rfl) (.cons (by first | rfl | simp) (.cons (by simp [rows_len lgL_len] <;> omega) .nil)))))))))))))))))))))
  have hr : ([(R.t (T.agg [(T.sl (rows wdL q.first) q.first.length false), (T.sl (rows lgL (q.logs.set (ad / 8) ⟨(g.st ++ [(ad, w)]), g.kept⟩)) q.logs.length false), (T.box q.asks)])), (R.t (i64 0))] : List R) = [.t (.agg [.sl (rows wdL q.first) q.first.length false, .sl (rows lgL (q.logs.set (ad / 8) ⟨g.st ++ [(ad, w)], g.kept⟩)) q.logs.length false, .box q.asks]), .t (i64 0)] := rfl
  exact hr ▸ hh
theorem line_store (q : Mach) (ad : Nat) (w : Wd) (g : Lg) (hl : q.logs[ad / 8]? = some g) (hfl : ad < q.first.length) (hle : q.logs.length ≤ 100000) (hgl : g.st.length ≤ 100000) (hfl2 : q.first.length ≤ 100000) :
    HoldsL 89 [.agg [.sl (rows wdL q.first) q.first.length false, .sl (rows lgL q.logs) q.logs.length false, .box q.asks], i64 ad, .agg [i64 w.v, u32 w.a, u32 w.r]] [.t (.agg [.sl (rows wdL q.first) q.first.length false, .sl (rows lgL (q.logs.set (ad / 8) ⟨g.st ++ [(ad, w)], g.kept⟩)) q.logs.length false, .box q.asks]), .t (i64 0)] := by
  by_cases hg : g.st = []
  · exact line_store0 q ad w g hl hfl hle hgl hfl2 hg
  · exact line_store1 q ad w g hl hfl hle hgl hfl2 hg
end Go.Proofs.YtiegfchaepbnbaaGreatDoor
namespace Go.Proofs.YtiegfchaepbnbaaGreatDoor
open Go Go.RowKit Go.Va
set_option maxRecDepth 100000
set_option maxHeartbeats 400000
def Mach.tick (q : Mach) (t : Nat) (s : Int) (m : Mem) : Mach := { q with mem := m, steps := q.steps.set t (s + 1) }
def Mach.log (q : Mach) (ad : Nat) (w : Wd) (g : Lg) : Mach := { q with logs := q.logs.set (ad / 8) ⟨g.st ++ [(ad, w)], g.kept⟩ }
/-- An act; its result. -/
structure Ac where
  op : Int
  ad : Nat
  o : Wd
  n : Wd
  deriving DecidableEq
structure Gt where
  w : Wd
  ok : Bool
  deriving DecidableEq
def acL (a : Ac) : List T := [i64 a.op, i64 a.ad, i64 a.o.v, u32 a.o.a, u32 a.o.r, i64 a.n.v, u32 a.n.a, u32 a.n.r]
def gtL (g : Gt) : List T := [i64 g.w.v, u32 g.w.a, u32 g.w.r, bl g.ok]
theorem do_look (q : Mach) (t ad : Nat) (v : Vw) (h : List Msg) (k : Nat) (x : Msg) (s : Int) (o w : Wd) (c : Int) (hv : q.mem.views[t]? = some v) (hvl : q.mem.views.length ≤ 8) (hp : q.mem.places[ad]? = some h) (hpl : q.mem.places.length ≤ 4096) (hhl : h.length ≤ 100000) (hk : h.length = k + 1) (hx : h[k]? = some x) (hst : q.steps[t]? = some s) (hs0 : 0 ≤ s) (hs1 : s ≤ 1000000) (hsl : q.steps.length ≤ 100000)  : HoldsL 43 [(machT q), (i64 ((t + 1 : Nat) : Int)), (T.agg [(i64 5), (i64 ((ad : Nat) : Int)), (i64 o.v), (u32 o.a), (u32 o.r), (i64 w.v), (u32 w.a), (u32 w.r)]), (i64 c)] [.t (machT (q.tick t s (q.mem.put t (vjoin (vwith v ad k) x.vw)))), .t (.agg (gtL ⟨x.w, true⟩)), .t (i64 0)] := by
  have ht := (List.getElem?_eq_some_iff.1 hv).1
  have had := (List.getElem?_eq_some_iff.1 hp).1
  have hsl2 := (List.getElem?_eq_some_iff.1 hst).1
  have e : runX Tryz.prog gG noF 20 43 [(machT q), (i64 ((t + 1 : Nat) : Int)), (T.agg [(i64 5), (i64 ((ad : Nat) : Int)), (i64 o.v), (u32 o.a), (u32 o.r), (i64 w.v), (u32 w.a), (u32 w.r)]), (i64 c)] [((64, 16), .res (.t (bl false))), ((64, 20), .res (.t (bl false))), ((64, 43), .res (.t (bl false))), ((64, 48), .res (.t (bl false))), ((69, 20), .call [(R.t (memT (q.mem.put t (vjoin (vwith v ad k) x.vw)))), (R.t (T.agg [(i64 x.w.v), (u32 x.w.a), (u32 x.w.r)])), (R.t (i64 0))]), ((43, 73), .call [(R.osl (rows i1L q.steps) q.steps.length 1)]), ((43, 78), .res (.t (i64 ((t : Nat) : Int)))), ((43, 79), .res (C.loc 17 (t * 1))), ((43, 80), .ld (C.t (i64 s))), ((43, 81), .res (.t (i64 (s + 1)))), ((43, 82), .res (C.loc 17 (t * 1))), ((43, 0), .st (List.map C.t (rows i1L (q.steps.set t (s + 1))))), ((43, 83), .fz [(17, (rows i1L (q.steps.set t (s + 1))))])] = some ([(R.t (T.agg [(T.sl (rows histL (q.mem.put t (vjoin (vwith v ad k) x.vw)).places) (q.mem.put t (vjoin (vwith v ad k) x.vw)).places.length false), (T.sl (rows vwL (q.mem.put t (vjoin (vwith v ad k) x.vw)).views) (q.mem.put t (vjoin (vwith v ad k) x.vw)).views.length false), (T.sl (rows wdL q.first) q.first.length false), (T.sl (rows lgL q.logs) q.logs.length false), (T.box q.asks), (T.sl (rows i1L (q.steps.set t (s + 1))) q.steps.length false), (i64 q.crashes)])), (R.t (T.agg [(i64 x.w.v), (u32 x.w.a), (u32 x.w.r), (bl true)])), (R.t (i64 0))], [], [BinIs Tryz.prog .lss 3 (.tmp 15) (.const (.int .i64 1)) (.int .i64 ((t + 1 : Nat) : Int)) (.int .i64 1) (.bool false),
      BinIs Tryz.prog .gtr 3 (.tmp 18) (.tmp 19) (.int .i64 ((t + 1 : Nat) : Int)) (.int .i64 ((q.mem.views.length : Nat) : Int)) (.bool false),
      BinIs Tryz.prog .lss 51 (.tmp 42) (.const (.int .i64 0)) (.int .i64 ((ad : Nat) : Int)) (.int .i64 0) (.bool false),
      BinIs Tryz.prog .geq 3 (.tmp 46) (.tmp 47) (.int .i64 ((ad : Nat) : Int)) (.int .i64 ((q.mem.places.length : Nat) : Int)) (.bool false),
      HoldsL 95 [(T.agg [(T.sl (rows histL q.mem.places) q.mem.places.length false), (T.sl (rows vwL q.mem.views) q.mem.views.length false)]), (i64 ((t + 1 : Nat) : Int)), (i64 ((ad : Nat) : Int))] [(R.t (memT (q.mem.put t (vjoin (vwith v ad k) x.vw)))), (R.t (T.agg [(i64 x.w.v), (u32 x.w.a), (u32 x.w.r)])), (R.t (i64 0))],
      HoldsL 41 [(T.sl (rows i1L q.steps) q.steps.length false)] [(R.osl (rows i1L q.steps) q.steps.length 1)],
      BinIs Tryz.prog .sub 3 (.tmp 77) (.const (.int .i64 1)) (.int .i64 ((t + 1 : Nat) : Int)) (.int .i64 1) (.int .i64 ((t : Nat) : Int)),
      indexAddrC Tryz.prog 35 (C.osl 17 q.steps.length 1) ((t : Nat) : Int) = some ⟨(C.loc 17 (t * 1)), [], []⟩,
      partC Tryz.prog 3 (List.map C.t (rows i1L q.steps)) (t * 1) = some (C.t (i64 s)),
      BinIs Tryz.prog .add 3 (.tmp 80) (.const (.int .i64 1)) (.int .i64 s) (.int .i64 1) (.int .i64 (s + 1)),
      indexAddrC Tryz.prog 35 (C.osl 17 q.steps.length 1) ((t : Nat) : Int) = some ⟨(C.loc 17 (t * 1)), [], []⟩,
      (t * 1) + 1 ≤ List.length (List.map C.t (rows i1L q.steps)),
      splice (List.map C.t (rows i1L q.steps)) (t * 1) [(C.t (i64 (s + 1)))] = (List.map C.t (rows i1L (q.steps.set t (s + 1)))),
      (List.map C.t (rows i1L (q.steps.set t (s + 1)))) = List.map C.t (rows i1L (q.steps.set t (s + 1))),
      List.length (rows i1L (q.steps.set t (s + 1))) = q.steps.length * 1]) := by kernel_rfl
  have hh := sndL 20 _ _ _ _ _ _ e (.cons (bCmp (d := decide (((t + 1 : Nat) : Int) < 1)) (by unfold BinIs; kernel_rfl) (decide_eq_false (by omega))) (.cons (bCmp (d := decide (((t + 1 : Nat) : Int) > ((q.mem.views.length : Nat) : Int))) (by unfold BinIs; kernel_rfl) (decide_eq_false (by omega))) (.cons (bCmp (d := decide (((ad : Nat) : Int) < 0)) (by unfold BinIs; kernel_rfl) (decide_eq_false (by omega))) (.cons (bCmp (d := decide (((ad : Nat) : Int) ≥ ((q.mem.places.length : Nat) : Int))) (by unfold BinIs; kernel_rfl) (decide_eq_false (by omega))) (.cons (mem_look q.mem t ad v h k x hv hvl hp hpl hhl hk hx) (.cons (cloneI _ (by omega) (by omega)) (.cons (bAri (r := ((t + 1 : Nat) : Int) - 1) (by unfold BinIs; kernel_rfl) (by omega) (by omega) (by omega)) (.cons (ixOsl (elem := 3) (k := 1) (by kernel_rfl) (by kernel_rfl) (by omega) (by omega) (by first | omega | simp)) (.cons (part1 (by kernel_rfl) (by kernel_rfl) i1L_len hst (j := 0) (by decide) rfl) (.cons (bAri (r := s + 1) (by unfold BinIs; kernel_rfl) (by omega) (by omega) (by omega)) (.cons (ixOsl (elem := 3) (k := 1) (by kernel_rfl) (by kernel_rfl) (by omega) (by omega) (by first | omega | simp)) (.cons (rowsLe i1L_len hst (j := 0) (by decide)) (.cons (rowsSplice i1L_len hst (j := 0) (by simp) rfl) (.cons (by first | rfl | simp) (.cons (by simp [rows_len i1L_len] <;> omega) .nil)))))))))))))))
  have hr : ([(R.t (T.agg [(T.sl (rows histL (q.mem.put t (vjoin (vwith v ad k) x.vw)).places) (q.mem.put t (vjoin (vwith v ad k) x.vw)).places.length false), (T.sl (rows vwL (q.mem.put t (vjoin (vwith v ad k) x.vw)).views) (q.mem.put t (vjoin (vwith v ad k) x.vw)).views.length false), (T.sl (rows wdL q.first) q.first.length false), (T.sl (rows lgL q.logs) q.logs.length false), (T.box q.asks), (T.sl (rows i1L (q.steps.set t (s + 1))) q.steps.length false), (i64 q.crashes)])), (R.t (T.agg [(i64 x.w.v), (u32 x.w.a), (u32 x.w.r), (bl true)])), (R.t (i64 0))] : List R) = [.t (machT (q.tick t s (q.mem.put t (vjoin (vwith v ad k) x.vw)))), .t (.agg (gtL ⟨x.w, true⟩)), .t (i64 0)] := by simp only [machT, Mach.tick, Mach.log, gtL, List.length_set]
  exact hr ▸ hh
theorem do_release (q : Mach) (t ad : Nat) (v : Vw) (h : List Msg) (k : Nat) (x : Msg) (s : Int) (o w : Wd) (c : Int) (hv : q.mem.views[t]? = some v) (hvl : q.mem.views.length ≤ 8) (hp : q.mem.places[ad]? = some h) (hpl : q.mem.places.length ≤ 4096) (hhl : h.length ≤ 100000) (hk : h.length = k + 1) (hx : h[k]? = some x) (hst : q.steps[t]? = some s) (hs0 : 0 ≤ s) (hs1 : s ≤ 1000000) (hsl : q.steps.length ≤ 100000) (g : Lg) (hl : q.logs[ad / 8]? = some g) (hfl : ad < q.first.length) (hlgl : q.logs.length ≤ 100000) (hgl : g.st.length ≤ 100000) (hfl2 : q.first.length ≤ 100000) (hlast : ad + 1 < q.mem.places.length)  : HoldsL 43 [(machT q), (i64 ((t + 1 : Nat) : Int)), (T.agg [(i64 4), (i64 ((ad : Nat) : Int)), (i64 o.v), (u32 o.a), (u32 o.r), (i64 w.v), (u32 w.a), (u32 w.r)]), (i64 c)] [.t (machT ((q.log ad w g).tick t s ((q.mem.add ad h ⟨w, ((t + 1 : Nat) : Int), (vwith v ad h.length)⟩).put t (vwith v ad h.length)))), .t (.agg (gtL ⟨⟨0, 0, 0⟩, true⟩)), .t (i64 0)] := by
  have ht := (List.getElem?_eq_some_iff.1 hv).1
  have had := (List.getElem?_eq_some_iff.1 hp).1
  have hsl2 := (List.getElem?_eq_some_iff.1 hst).1
  have e : runX Tryz.prog gG noF 20 43 [(machT q), (i64 ((t + 1 : Nat) : Int)), (T.agg [(i64 4), (i64 ((ad : Nat) : Int)), (i64 o.v), (u32 o.a), (u32 o.r), (i64 w.v), (u32 w.a), (u32 w.r)]), (i64 c)] [((64, 16), .res (.t (bl false))), ((64, 20), .res (.t (bl false))), ((64, 43), .res (.t (bl false))), ((64, 48), .res (.t (bl false))), ((66, 42), .call [(R.t (memT ((q.mem.add ad h ⟨w, ((t + 1 : Nat) : Int), (vwith v ad h.length)⟩).put t (vwith v ad h.length)))), (R.t (i64 0))]), ((66, 55), .call [(R.t (T.agg [(T.sl (rows wdL q.first) q.first.length false), (T.sl (rows lgL (q.logs.set (ad / 8) ⟨g.st ++ [(ad, w)], g.kept⟩)) q.logs.length false), (T.box q.asks)])), (R.t (i64 0))]), ((43, 73), .call [(R.osl (rows i1L q.steps) q.steps.length 1)]), ((43, 78), .res (.t (i64 ((t : Nat) : Int)))), ((43, 79), .res (C.loc 17 (t * 1))), ((43, 80), .ld (C.t (i64 s))), ((43, 81), .res (.t (i64 (s + 1)))), ((43, 82), .res (C.loc 17 (t * 1))), ((43, 0), .st (List.map C.t (rows i1L (q.steps.set t (s + 1))))), ((43, 83), .fz [(17, (rows i1L (q.steps.set t (s + 1))))])] = some ([(R.t (T.agg [(T.sl (rows histL ((q.mem.add ad h ⟨w, ((t + 1 : Nat) : Int), (vwith v ad h.length)⟩).put t (vwith v ad h.length)).places) ((q.mem.add ad h ⟨w, ((t + 1 : Nat) : Int), (vwith v ad h.length)⟩).put t (vwith v ad h.length)).places.length false), (T.sl (rows vwL ((q.mem.add ad h ⟨w, ((t + 1 : Nat) : Int), (vwith v ad h.length)⟩).put t (vwith v ad h.length)).views) ((q.mem.add ad h ⟨w, ((t + 1 : Nat) : Int), (vwith v ad h.length)⟩).put t (vwith v ad h.length)).views.length false), (T.sl (rows wdL q.first) q.first.length false), (T.sl (rows lgL (q.logs.set (ad / 8) ⟨g.st ++ [(ad, w)], g.kept⟩)) q.logs.length false), (T.box q.asks), (T.sl (rows i1L (q.steps.set t (s + 1))) q.steps.length false), (i64 q.crashes)])), (R.t (T.agg [(i64 0), (u32 0), (u32 0), (bl true)])), (R.t (i64 0))], [], [BinIs Tryz.prog .lss 3 (.tmp 15) (.const (.int .i64 1)) (.int .i64 ((t + 1 : Nat) : Int)) (.int .i64 1) (.bool false),
      BinIs Tryz.prog .gtr 3 (.tmp 18) (.tmp 19) (.int .i64 ((t + 1 : Nat) : Int)) (.int .i64 ((q.mem.views.length : Nat) : Int)) (.bool false),
      BinIs Tryz.prog .lss 51 (.tmp 42) (.const (.int .i64 0)) (.int .i64 ((ad : Nat) : Int)) (.int .i64 0) (.bool false),
      BinIs Tryz.prog .geq 3 (.tmp 46) (.tmp 47) (.int .i64 ((ad : Nat) : Int)) (.int .i64 ((q.mem.places.length : Nat) : Int)) (.bool false),
      HoldsL 88 [(T.agg [(T.sl (rows histL q.mem.places) q.mem.places.length false), (T.sl (rows vwL q.mem.views) q.mem.views.length false)]), (i64 ((t + 1 : Nat) : Int)), (i64 ((ad : Nat) : Int)), (T.agg [(i64 w.v), (u32 w.a), (u32 w.r)]), (bl true)] [(R.t (memT ((q.mem.add ad h ⟨w, ((t + 1 : Nat) : Int), (vwith v ad h.length)⟩).put t (vwith v ad h.length)))), (R.t (i64 0))],
      HoldsL 89 [(T.agg [(T.sl (rows wdL q.first) q.first.length false), (T.sl (rows lgL q.logs) q.logs.length false), (T.box q.asks)]), (i64 ((ad : Nat) : Int)), (T.agg [(i64 w.v), (u32 w.a), (u32 w.r)])] [(R.t (T.agg [(T.sl (rows wdL q.first) q.first.length false), (T.sl (rows lgL (q.logs.set (ad / 8) ⟨g.st ++ [(ad, w)], g.kept⟩)) q.logs.length false), (T.box q.asks)])), (R.t (i64 0))],
      HoldsL 41 [(T.sl (rows i1L q.steps) q.steps.length false)] [(R.osl (rows i1L q.steps) q.steps.length 1)],
      BinIs Tryz.prog .sub 3 (.tmp 77) (.const (.int .i64 1)) (.int .i64 ((t + 1 : Nat) : Int)) (.int .i64 1) (.int .i64 ((t : Nat) : Int)),
      indexAddrC Tryz.prog 35 (C.osl 17 q.steps.length 1) ((t : Nat) : Int) = some ⟨(C.loc 17 (t * 1)), [], []⟩,
      partC Tryz.prog 3 (List.map C.t (rows i1L q.steps)) (t * 1) = some (C.t (i64 s)),
      BinIs Tryz.prog .add 3 (.tmp 80) (.const (.int .i64 1)) (.int .i64 s) (.int .i64 1) (.int .i64 (s + 1)),
      indexAddrC Tryz.prog 35 (C.osl 17 q.steps.length 1) ((t : Nat) : Int) = some ⟨(C.loc 17 (t * 1)), [], []⟩,
      (t * 1) + 1 ≤ List.length (List.map C.t (rows i1L q.steps)),
      splice (List.map C.t (rows i1L q.steps)) (t * 1) [(C.t (i64 (s + 1)))] = (List.map C.t (rows i1L (q.steps.set t (s + 1)))),
      (List.map C.t (rows i1L (q.steps.set t (s + 1)))) = List.map C.t (rows i1L (q.steps.set t (s + 1))),
      List.length (rows i1L (q.steps.set t (s + 1))) = q.steps.length * 1]) := by kernel_rfl
  have hh := sndL 20 _ _ _ _ _ _ e (.cons (bCmp (d := decide (((t + 1 : Nat) : Int) < 1)) (by unfold BinIs; kernel_rfl) (decide_eq_false (by omega))) (.cons (bCmp (d := decide (((t + 1 : Nat) : Int) > ((q.mem.views.length : Nat) : Int))) (by unfold BinIs; kernel_rfl) (decide_eq_false (by omega))) (.cons (bCmp (d := decide (((ad : Nat) : Int) < 0)) (by unfold BinIs; kernel_rfl) (decide_eq_false (by omega))) (.cons (bCmp (d := decide (((ad : Nat) : Int) ≥ ((q.mem.places.length : Nat) : Int))) (by unfold BinIs; kernel_rfl) (decide_eq_false (by omega))) (.cons (mem_store1 q.mem t ad v h w hv hvl hp hpl hhl hlast) (.cons (line_store q ad w g hl hfl hlgl hgl hfl2) (.cons (cloneI _ (by omega) (by omega)) (.cons (bAri (r := ((t + 1 : Nat) : Int) - 1) (by unfold BinIs; kernel_rfl) (by omega) (by omega) (by omega)) (.cons (ixOsl (elem := 3) (k := 1) (by kernel_rfl) (by kernel_rfl) (by omega) (by omega) (by first | omega | simp)) (.cons (part1 (by kernel_rfl) (by kernel_rfl) i1L_len hst (j := 0) (by decide) rfl) (.cons (bAri (r := s + 1) (by unfold BinIs; kernel_rfl) (by omega) (by omega) (by omega)) (.cons (ixOsl (elem := 3) (k := 1) (by kernel_rfl) (by kernel_rfl) (by omega) (by omega) (by first | omega | simp)) (.cons (rowsLe i1L_len hst (j := 0) (by decide)) (.cons (rowsSplice i1L_len hst (j := 0) (by simp) rfl) (.cons (by first | rfl | simp) (.cons (by simp [rows_len i1L_len] <;> omega) .nil))))))))))))))))
  have hr : ([(R.t (T.agg [(T.sl (rows histL ((q.mem.add ad h ⟨w, ((t + 1 : Nat) : Int), (vwith v ad h.length)⟩).put t (vwith v ad h.length)).places) ((q.mem.add ad h ⟨w, ((t + 1 : Nat) : Int), (vwith v ad h.length)⟩).put t (vwith v ad h.length)).places.length false), (T.sl (rows vwL ((q.mem.add ad h ⟨w, ((t + 1 : Nat) : Int), (vwith v ad h.length)⟩).put t (vwith v ad h.length)).views) ((q.mem.add ad h ⟨w, ((t + 1 : Nat) : Int), (vwith v ad h.length)⟩).put t (vwith v ad h.length)).views.length false), (T.sl (rows wdL q.first) q.first.length false), (T.sl (rows lgL (q.logs.set (ad / 8) ⟨g.st ++ [(ad, w)], g.kept⟩)) q.logs.length false), (T.box q.asks), (T.sl (rows i1L (q.steps.set t (s + 1))) q.steps.length false), (i64 q.crashes)])), (R.t (T.agg [(i64 0), (u32 0), (u32 0), (bl true)])), (R.t (i64 0))] : List R) = [.t (machT ((q.log ad w g).tick t s ((q.mem.add ad h ⟨w, ((t + 1 : Nat) : Int), (vwith v ad h.length)⟩).put t (vwith v ad h.length)))), .t (.agg (gtL ⟨⟨0, 0, 0⟩, true⟩)), .t (i64 0)] := by simp only [machT, Mach.tick, Mach.log, gtL, List.length_set]
  exact hr ▸ hh
theorem do_swap1 (q : Mach) (t ad : Nat) (v : Vw) (h : List Msg) (k : Nat) (x : Msg) (s : Int) (w : Wd) (c : Int) (hv : q.mem.views[t]? = some v) (hvl : q.mem.views.length ≤ 8) (hp : q.mem.places[ad]? = some h) (hpl : q.mem.places.length ≤ 4096) (hhl : h.length ≤ 100000) (hk : h.length = k + 1) (hx : h[k]? = some x) (hst : q.steps[t]? = some s) (hs0 : 0 ≤ s) (hs1 : s ≤ 1000000) (hsl : q.steps.length ≤ 100000) (g : Lg) (hl : q.logs[ad / 8]? = some g) (hfl : ad < q.first.length) (hlgl : q.logs.length ≤ 100000) (hgl : g.st.length ≤ 100000) (hfl2 : q.first.length ≤ 100000) (hlast : ad + 1 < q.mem.places.length)  : HoldsL 43 [(machT q), (i64 ((t + 1 : Nat) : Int)), (T.agg [(i64 6), (i64 ((ad : Nat) : Int)), (i64 x.w.v), (u32 x.w.a), (u32 x.w.r), (i64 w.v), (u32 w.a), (u32 w.r)]), (i64 c)] [.t (machT ((q.log ad w g).tick t s (((q.mem.put t (vjoin (vwith v ad k) x.vw)).add ad h ⟨w, ((t + 1 : Nat) : Int), (vwith (vjoin (vwith v ad k) x.vw) ad h.length)⟩).put t (vwith (vjoin (vwith v ad k) x.vw) ad h.length)))), .t (.agg (gtL ⟨x.w, true⟩)), .t (i64 0)] := by
  have ht := (List.getElem?_eq_some_iff.1 hv).1
  have had := (List.getElem?_eq_some_iff.1 hp).1
  have hsl2 := (List.getElem?_eq_some_iff.1 hst).1
  have e : runX Tryz.prog gG noF 20 43 [(machT q), (i64 ((t + 1 : Nat) : Int)), (T.agg [(i64 6), (i64 ((ad : Nat) : Int)), (i64 x.w.v), (u32 x.w.a), (u32 x.w.r), (i64 w.v), (u32 w.a), (u32 w.r)]), (i64 c)] [((64, 16), .res (.t (bl false))), ((64, 20), .res (.t (bl false))), ((64, 43), .res (.t (bl false))), ((64, 48), .res (.t (bl false))), ((66, 23), .call [(R.t (memT (((q.mem.put t (vjoin (vwith v ad k) x.vw)).add ad h ⟨w, ((t + 1 : Nat) : Int), (vwith (vjoin (vwith v ad k) x.vw) ad h.length)⟩).put t (vwith (vjoin (vwith v ad k) x.vw) ad h.length)))), (R.t (T.agg [(i64 x.w.v), (u32 x.w.a), (u32 x.w.r)])), (R.t (bl true)), (R.t (i64 0))]), ((66, 55), .call [(R.t (T.agg [(T.sl (rows wdL q.first) q.first.length false), (T.sl (rows lgL (q.logs.set (ad / 8) ⟨g.st ++ [(ad, w)], g.kept⟩)) q.logs.length false), (T.box q.asks)])), (R.t (i64 0))]), ((43, 73), .call [(R.osl (rows i1L q.steps) q.steps.length 1)]), ((43, 78), .res (.t (i64 ((t : Nat) : Int)))), ((43, 79), .res (C.loc 17 (t * 1))), ((43, 80), .ld (C.t (i64 s))), ((43, 81), .res (.t (i64 (s + 1)))), ((43, 82), .res (C.loc 17 (t * 1))), ((43, 0), .st (List.map C.t (rows i1L (q.steps.set t (s + 1))))), ((43, 83), .fz [(17, (rows i1L (q.steps.set t (s + 1))))])] = some ([(R.t (T.agg [(T.sl (rows histL (((q.mem.put t (vjoin (vwith v ad k) x.vw)).add ad h ⟨w, ((t + 1 : Nat) : Int), (vwith (vjoin (vwith v ad k) x.vw) ad h.length)⟩).put t (vwith (vjoin (vwith v ad k) x.vw) ad h.length)).places) (((q.mem.put t (vjoin (vwith v ad k) x.vw)).add ad h ⟨w, ((t + 1 : Nat) : Int), (vwith (vjoin (vwith v ad k) x.vw) ad h.length)⟩).put t (vwith (vjoin (vwith v ad k) x.vw) ad h.length)).places.length false), (T.sl (rows vwL (((q.mem.put t (vjoin (vwith v ad k) x.vw)).add ad h ⟨w, ((t + 1 : Nat) : Int), (vwith (vjoin (vwith v ad k) x.vw) ad h.length)⟩).put t (vwith (vjoin (vwith v ad k) x.vw) ad h.length)).views) (((q.mem.put t (vjoin (vwith v ad k) x.vw)).add ad h ⟨w, ((t + 1 : Nat) : Int), (vwith (vjoin (vwith v ad k) x.vw) ad h.length)⟩).put t (vwith (vjoin (vwith v ad k) x.vw) ad h.length)).views.length false), (T.sl (rows wdL q.first) q.first.length false), (T.sl (rows lgL (q.logs.set (ad / 8) ⟨g.st ++ [(ad, w)], g.kept⟩)) q.logs.length false), (T.box q.asks), (T.sl (rows i1L (q.steps.set t (s + 1))) q.steps.length false), (i64 q.crashes)])), (R.t (T.agg [(i64 x.w.v), (u32 x.w.a), (u32 x.w.r), (bl true)])), (R.t (i64 0))], [], [BinIs Tryz.prog .lss 3 (.tmp 15) (.const (.int .i64 1)) (.int .i64 ((t + 1 : Nat) : Int)) (.int .i64 1) (.bool false),
      BinIs Tryz.prog .gtr 3 (.tmp 18) (.tmp 19) (.int .i64 ((t + 1 : Nat) : Int)) (.int .i64 ((q.mem.views.length : Nat) : Int)) (.bool false),
      BinIs Tryz.prog .lss 51 (.tmp 42) (.const (.int .i64 0)) (.int .i64 ((ad : Nat) : Int)) (.int .i64 0) (.bool false),
      BinIs Tryz.prog .geq 3 (.tmp 46) (.tmp 47) (.int .i64 ((ad : Nat) : Int)) (.int .i64 ((q.mem.places.length : Nat) : Int)) (.bool false),
      HoldsL 87 [(T.agg [(T.sl (rows histL q.mem.places) q.mem.places.length false), (T.sl (rows vwL q.mem.views) q.mem.views.length false)]), (i64 ((t + 1 : Nat) : Int)), (i64 ((ad : Nat) : Int)), (T.agg [(i64 x.w.v), (u32 x.w.a), (u32 x.w.r)]), (T.agg [(i64 w.v), (u32 w.a), (u32 w.r)])] [(R.t (memT (((q.mem.put t (vjoin (vwith v ad k) x.vw)).add ad h ⟨w, ((t + 1 : Nat) : Int), (vwith (vjoin (vwith v ad k) x.vw) ad h.length)⟩).put t (vwith (vjoin (vwith v ad k) x.vw) ad h.length)))), (R.t (T.agg [(i64 x.w.v), (u32 x.w.a), (u32 x.w.r)])), (R.t (bl true)), (R.t (i64 0))],
      HoldsL 89 [(T.agg [(T.sl (rows wdL q.first) q.first.length false), (T.sl (rows lgL q.logs) q.logs.length false), (T.box q.asks)]), (i64 ((ad : Nat) : Int)), (T.agg [(i64 w.v), (u32 w.a), (u32 w.r)])] [(R.t (T.agg [(T.sl (rows wdL q.first) q.first.length false), (T.sl (rows lgL (q.logs.set (ad / 8) ⟨g.st ++ [(ad, w)], g.kept⟩)) q.logs.length false), (T.box q.asks)])), (R.t (i64 0))],
      HoldsL 41 [(T.sl (rows i1L q.steps) q.steps.length false)] [(R.osl (rows i1L q.steps) q.steps.length 1)],
      BinIs Tryz.prog .sub 3 (.tmp 77) (.const (.int .i64 1)) (.int .i64 ((t + 1 : Nat) : Int)) (.int .i64 1) (.int .i64 ((t : Nat) : Int)),
      indexAddrC Tryz.prog 35 (C.osl 17 q.steps.length 1) ((t : Nat) : Int) = some ⟨(C.loc 17 (t * 1)), [], []⟩,
      partC Tryz.prog 3 (List.map C.t (rows i1L q.steps)) (t * 1) = some (C.t (i64 s)),
      BinIs Tryz.prog .add 3 (.tmp 80) (.const (.int .i64 1)) (.int .i64 s) (.int .i64 1) (.int .i64 (s + 1)),
      indexAddrC Tryz.prog 35 (C.osl 17 q.steps.length 1) ((t : Nat) : Int) = some ⟨(C.loc 17 (t * 1)), [], []⟩,
      (t * 1) + 1 ≤ List.length (List.map C.t (rows i1L q.steps)),
      splice (List.map C.t (rows i1L q.steps)) (t * 1) [(C.t (i64 (s + 1)))] = (List.map C.t (rows i1L (q.steps.set t (s + 1)))),
      (List.map C.t (rows i1L (q.steps.set t (s + 1)))) = List.map C.t (rows i1L (q.steps.set t (s + 1))),
      List.length (rows i1L (q.steps.set t (s + 1))) = q.steps.length * 1]) := by kernel_rfl
  have hh := sndL 20 _ _ _ _ _ _ e (.cons (bCmp (d := decide (((t + 1 : Nat) : Int) < 1)) (by unfold BinIs; kernel_rfl) (decide_eq_false (by omega))) (.cons (bCmp (d := decide (((t + 1 : Nat) : Int) > ((q.mem.views.length : Nat) : Int))) (by unfold BinIs; kernel_rfl) (decide_eq_false (by omega))) (.cons (bCmp (d := decide (((ad : Nat) : Int) < 0)) (by unfold BinIs; kernel_rfl) (decide_eq_false (by omega))) (.cons (bCmp (d := decide (((ad : Nat) : Int) ≥ ((q.mem.places.length : Nat) : Int))) (by unfold BinIs; kernel_rfl) (decide_eq_false (by omega))) (.cons (swap_works q.mem t ad v h k x w hv hvl hp hpl hhl hk hx hlast) (.cons (line_store q ad w g hl hfl hlgl hgl hfl2) (.cons (cloneI _ (by omega) (by omega)) (.cons (bAri (r := ((t + 1 : Nat) : Int) - 1) (by unfold BinIs; kernel_rfl) (by omega) (by omega) (by omega)) (.cons (ixOsl (elem := 3) (k := 1) (by kernel_rfl) (by kernel_rfl) (by omega) (by omega) (by first | omega | simp)) (.cons (part1 (by kernel_rfl) (by kernel_rfl) i1L_len hst (j := 0) (by decide) rfl) (.cons (bAri (r := s + 1) (by unfold BinIs; kernel_rfl) (by omega) (by omega) (by omega)) (.cons (ixOsl (elem := 3) (k := 1) (by kernel_rfl) (by kernel_rfl) (by omega) (by omega) (by first | omega | simp)) (.cons (rowsLe i1L_len hst (j := 0) (by decide)) (.cons (rowsSplice i1L_len hst (j := 0) (by simp) rfl) (.cons (by first | rfl | simp) (.cons (by simp [rows_len i1L_len] <;> omega) .nil))))))))))))))))
  have hr : ([(R.t (T.agg [(T.sl (rows histL (((q.mem.put t (vjoin (vwith v ad k) x.vw)).add ad h ⟨w, ((t + 1 : Nat) : Int), (vwith (vjoin (vwith v ad k) x.vw) ad h.length)⟩).put t (vwith (vjoin (vwith v ad k) x.vw) ad h.length)).places) (((q.mem.put t (vjoin (vwith v ad k) x.vw)).add ad h ⟨w, ((t + 1 : Nat) : Int), (vwith (vjoin (vwith v ad k) x.vw) ad h.length)⟩).put t (vwith (vjoin (vwith v ad k) x.vw) ad h.length)).places.length false), (T.sl (rows vwL (((q.mem.put t (vjoin (vwith v ad k) x.vw)).add ad h ⟨w, ((t + 1 : Nat) : Int), (vwith (vjoin (vwith v ad k) x.vw) ad h.length)⟩).put t (vwith (vjoin (vwith v ad k) x.vw) ad h.length)).views) (((q.mem.put t (vjoin (vwith v ad k) x.vw)).add ad h ⟨w, ((t + 1 : Nat) : Int), (vwith (vjoin (vwith v ad k) x.vw) ad h.length)⟩).put t (vwith (vjoin (vwith v ad k) x.vw) ad h.length)).views.length false), (T.sl (rows wdL q.first) q.first.length false), (T.sl (rows lgL (q.logs.set (ad / 8) ⟨g.st ++ [(ad, w)], g.kept⟩)) q.logs.length false), (T.box q.asks), (T.sl (rows i1L (q.steps.set t (s + 1))) q.steps.length false), (i64 q.crashes)])), (R.t (T.agg [(i64 x.w.v), (u32 x.w.a), (u32 x.w.r), (bl true)])), (R.t (i64 0))] : List R) = [.t (machT ((q.log ad w g).tick t s (((q.mem.put t (vjoin (vwith v ad k) x.vw)).add ad h ⟨w, ((t + 1 : Nat) : Int), (vwith (vjoin (vwith v ad k) x.vw) ad h.length)⟩).put t (vwith (vjoin (vwith v ad k) x.vw) ad h.length)))), .t (.agg (gtL ⟨x.w, true⟩)), .t (i64 0)] := by simp only [machT, Mach.tick, Mach.log, gtL, List.length_set]
  exact hr ▸ hh
theorem do_rest (q : Mach) (t : Nat) (v : Vw) (s c : Int) (hv : q.mem.views[t]? = some v) (hvl : q.mem.views.length ≤ 8) (hst : q.steps[t]? = some s) (hs0 : 0 ≤ s) (hs1 : s ≤ 1000000) (hsl : q.steps.length ≤ 100000) : HoldsL 43 [(machT q), (i64 ((t + 1 : Nat) : Int)), (T.agg [(i64 0), (i64 0), (i64 0), (u32 0), (u32 0), (i64 0), (u32 0), (u32 0)]), (i64 c)] [.t (machT (q.tick t s q.mem)), .t (.agg (gtL ⟨⟨0, 0, 0⟩, true⟩)), .t (i64 0)] := by
  have ht := (List.getElem?_eq_some_iff.1 hv).1
  have hsl2 := (List.getElem?_eq_some_iff.1 hst).1
  have e : runX Tryz.prog gG noF 20 43 [(machT q), (i64 ((t + 1 : Nat) : Int)), (T.agg [(i64 0), (i64 0), (i64 0), (u32 0), (u32 0), (i64 0), (u32 0), (u32 0)]), (i64 c)] [((64, 16), .res (.t (bl false))), ((64, 20), .res (.t (bl false))), ((43, 73), .call [(R.osl (rows i1L q.steps) q.steps.length 1)]), ((43, 78), .res (.t (i64 ((t : Nat) : Int)))), ((43, 79), .res (C.loc 13 (t * 1))), ((43, 80), .ld (C.t (i64 s))), ((43, 81), .res (.t (i64 (s + 1)))), ((43, 82), .res (C.loc 13 (t * 1))), ((43, 0), .st (List.map C.t (rows i1L (q.steps.set t (s + 1))))), ((43, 83), .fz [(13, (rows i1L (q.steps.set t (s + 1))))])] = some ([(R.t (T.agg [(T.sl (rows histL q.mem.places) q.mem.places.length false), (T.sl (rows vwL q.mem.views) q.mem.views.length false), (T.sl (rows wdL q.first) q.first.length false), (T.sl (rows lgL q.logs) q.logs.length false), (T.box q.asks), (T.sl (rows i1L (q.steps.set t (s + 1))) q.steps.length false), (i64 q.crashes)])), (R.t (T.agg [(i64 0), (u32 0), (u32 0), (bl true)])), (R.t (i64 0))], [], [BinIs Tryz.prog .lss 3 (.tmp 15) (.const (.int .i64 1)) (.int .i64 ((t + 1 : Nat) : Int)) (.int .i64 1) (.bool false),
      BinIs Tryz.prog .gtr 3 (.tmp 18) (.tmp 19) (.int .i64 ((t + 1 : Nat) : Int)) (.int .i64 ((q.mem.views.length : Nat) : Int)) (.bool false),
      HoldsL 41 [(T.sl (rows i1L q.steps) q.steps.length false)] [(R.osl (rows i1L q.steps) q.steps.length 1)],
      BinIs Tryz.prog .sub 3 (.tmp 77) (.const (.int .i64 1)) (.int .i64 ((t + 1 : Nat) : Int)) (.int .i64 1) (.int .i64 ((t : Nat) : Int)),
      indexAddrC Tryz.prog 35 (C.osl 13 q.steps.length 1) ((t : Nat) : Int) = some ⟨(C.loc 13 (t * 1)), [], []⟩,
      partC Tryz.prog 3 (List.map C.t (rows i1L q.steps)) (t * 1) = some (C.t (i64 s)),
      BinIs Tryz.prog .add 3 (.tmp 80) (.const (.int .i64 1)) (.int .i64 s) (.int .i64 1) (.int .i64 (s + 1)),
      indexAddrC Tryz.prog 35 (C.osl 13 q.steps.length 1) ((t : Nat) : Int) = some ⟨(C.loc 13 (t * 1)), [], []⟩,
      (t * 1) + 1 ≤ List.length (List.map C.t (rows i1L q.steps)),
      splice (List.map C.t (rows i1L q.steps)) (t * 1) [(C.t (i64 (s + 1)))] = (List.map C.t (rows i1L (q.steps.set t (s + 1)))),
      (List.map C.t (rows i1L (q.steps.set t (s + 1)))) = List.map C.t (rows i1L (q.steps.set t (s + 1))),
      List.length (rows i1L (q.steps.set t (s + 1))) = q.steps.length * 1]) := by kernel_rfl
  have hh := sndL 20 _ _ _ _ _ _ e (.cons (bCmp (d := decide (((t + 1 : Nat) : Int) < 1)) (by unfold BinIs; kernel_rfl) (decide_eq_false (by omega))) (.cons (bCmp (d := decide (((t + 1 : Nat) : Int) > ((q.mem.views.length : Nat) : Int))) (by unfold BinIs; kernel_rfl) (decide_eq_false (by omega))) (.cons (cloneI _ (by omega) (by omega)) (.cons (bAri (r := ((t + 1 : Nat) : Int) - 1) (by unfold BinIs; kernel_rfl) (by omega) (by omega) (by omega)) (.cons (ixOsl (elem := 3) (k := 1) (by kernel_rfl) (by kernel_rfl) (by omega) (by omega) (by first | omega | simp)) (.cons (part1 (by kernel_rfl) (by kernel_rfl) i1L_len hst (j := 0) (by decide) rfl) (.cons (bAri (r := s + 1) (by unfold BinIs; kernel_rfl) (by omega) (by omega) (by omega)) (.cons (ixOsl (elem := 3) (k := 1) (by kernel_rfl) (by kernel_rfl) (by omega) (by omega) (by first | omega | simp)) (.cons (rowsLe i1L_len hst (j := 0) (by decide)) (.cons (rowsSplice i1L_len hst (j := 0) (by simp) rfl) (.cons (by first | rfl | simp) (.cons (by simp [rows_len i1L_len] <;> omega) .nil))))))))))))
  have hr : ([(R.t (T.agg [(T.sl (rows histL q.mem.places) q.mem.places.length false), (T.sl (rows vwL q.mem.views) q.mem.views.length false), (T.sl (rows wdL q.first) q.first.length false), (T.sl (rows lgL q.logs) q.logs.length false), (T.box q.asks), (T.sl (rows i1L (q.steps.set t (s + 1))) q.steps.length false), (i64 q.crashes)])), (R.t (T.agg [(i64 0), (u32 0), (u32 0), (bl true)])), (R.t (i64 0))] : List R) = [.t (machT (q.tick t s q.mem)), .t (.agg (gtL ⟨⟨0, 0, 0⟩, true⟩)), .t (i64 0)] := by simp only [machT, Mach.tick, gtL, List.length_set]
  exact hr ▸ hh
end Go.Proofs.YtiegfchaepbnbaaGreatDoor
