/- The memory: histories, views; what an access does. The memory: which message is read; looks, loads, stores, swaps. -/
import Derived.Test.YtiegfchaepbnbaaGreatDoorP13
namespace Go.Proofs.YtiegfchaepbnbaaGreatDoor
open Go Go.RowKit Go.Va
set_option maxRecDepth 100000
set_option maxHeartbeats 400000
/-- A word. -/
structure Wd where
  v : Int
  a : Int
  r : Int
  deriving DecidableEq
/-- A message. -/
structure Msg where
  w : Wd
  th : Int
  vw : Vw
def wdL (w : Wd) : List T := [i64 w.v, u32 w.a, u32 w.r]
def msgL (m : Msg) : List T := [i64 m.w.v, u32 m.w.a, u32 m.w.r, i64 m.th, bvT m.vw]
def histL (h : List Msg) : List T := [.sl (rows msgL h) h.length false]
def vwL (v : Vw) : List T := [bvT v]
theorem wdL_len : ∀ w, (wdL w).length = 3 := fun _ => rfl
theorem msgL_len : ∀ m, (msgL m).length = 5 := fun _ => rfl
theorem histL_len : ∀ h, (histL h).length = 1 := fun _ => rfl
theorem vwL_len : ∀ v, (vwL v).length = 1 := fun _ => rfl
structure Mem where
  places : List (List Msg)
  views : List Vw
def nilL (_ : Unit) : List T := [nilM]
theorem nilL_len : ∀ v, (nilL v).length = 1 := fun _ => rfl
def memT (m : Mem) : T := .agg [.sl (rows histL m.places) m.places.length false, .sl (rows vwL m.views) m.views.length false]
section
variable {α : Type} {f : α → List T} {k : Nat}
theorem replRows (z : α) (n : Nat) {cs : List C} (h : (f z).map C.t = cs) : (List.replicate n cs).flatten = List.map C.t (rows f (List.replicate n z)) := by
  subst h
  induction n with
  | zero => rfl
  | succ n ih => rw [List.replicate_succ, List.flatten_cons, ih, List.replicate_succ, rows_cons, List.map_append]
theorem copyAll {β : Type} {g : β → List T} (hk : ∀ x, (f x).length = k) (hg : ∀ x, (g x).length = k) (l : List α) (m : List β) (h : m.length = l.length) : splice (List.map C.t (rows g m)) 0 (List.take (l.length * k) (List.map C.t (rows f l))) = List.map C.t (rows f l) := by
  have h1 : (List.map C.t (rows f l)).length = l.length * k := by rw [List.length_map, rows_len hk]
  have h2 : (List.map C.t (rows g m)).length = l.length * k := by rw [List.length_map, rows_len hg, h]
  rw [← h1, List.take_length]
  unfold splice
  simp [rows_len hk, rows_len hg, h]
theorem appRows (l : List α) (x : α) {cs : List C} (h : (f x).map C.t = cs) : List.map C.t (rows f l) ++ cs = List.map C.t (rows f (l ++ [x])) := by
  rw [← h, rows_append, List.map_append]
  simp [rows]
theorem appRows2 (l m : List α) : List.map C.t (rows f l) ++ List.map C.t (rows f m) = List.map C.t (rows f (l ++ m)) := by rw [rows_append, List.map_append]
end
theorem clipM_holds (h : List Msg) : HoldsL 121 [(T.sl (rows msgL h) h.length false)] [(R.t (T.sl (rows msgL h) h.length true))] := by
  have e : runX Tryz.prog gG noF 20 121 [(T.sl (rows msgL h) h.length false)] [((121, 8), .res (.t (T.sl (rows msgL h) h.length true)))] = some ([(R.t (T.sl (rows msgL h) h.length true))], [], [sliceC Tryz.prog (fun _ => none) 133 (.t (T.sl (rows msgL h) h.length false)) none (some ((h.length : Nat) : Int)) (some ((h.length : Nat) : Int)) = some ⟨.t (T.sl (rows msgL h) h.length true), [], []⟩]) := by kernel_rfl
  exact sndL 20 _ _ _ _ _ _ e (.cons (clipRows (by kernel_rfl) msgL_len h false) .nil)
theorem hist_at (h : List Msg) (i : Nat) (x : Msg) (hx : h[i]? = some x) : HoldsL 84 [(T.agg [(T.sl (rows msgL h) h.length false)]), (i64 ((i : Nat) : Int))] [(R.t (T.agg [(i64 x.w.v), (u32 x.w.a), (u32 x.w.r), (i64 x.th), (bvT x.vw)])), (R.t (bl true))] := by
  have hl := (List.getElem?_eq_some_iff.1 hx).1
  have e : runX Tryz.prog gG noF 20 84 [(T.agg [(T.sl (rows msgL h) h.length false)]), (i64 ((i : Nat) : Int))] [((84, 7), .res (.t (bl false))), ((84, 13), .res (.t (bl false))), ((84, 19), .res (C.t (T.ptr (rows msgL h) (i * 5)))), ((84, 20), .res (C.agg [(C.t (i64 x.w.v)), (C.t (u32 x.w.a)), (C.t (u32 x.w.r)), (C.t (i64 x.th)), (C.t (bvT x.vw))]))] = some ([(R.t (T.agg [(i64 x.w.v), (u32 x.w.a), (u32 x.w.r), (i64 x.th), (bvT x.vw)])), (R.t (bl true))], [], [BinIs Tryz.prog .lss 3 (.tmp 6) (.const (.int .i64 0)) (.int .i64 ((i : Nat) : Int)) (.int .i64 0) (.bool false),
      BinIs Tryz.prog .geq 3 (.tmp 9) (.tmp 12) (.int .i64 ((i : Nat) : Int)) (.int .i64 ((h.length : Nat) : Int)) (.bool false),
      indexAddrC Tryz.prog 124 (.t (T.sl (rows msgL h) h.length false)) ((i : Nat) : Int) = some ⟨(C.t (T.ptr (rows msgL h) (i * 5))), [], []⟩,
      partC Tryz.prog 133 (List.map C.t (rows msgL h)) (i * 5) = some (C.agg [(C.t (i64 x.w.v)), (C.t (u32 x.w.a)), (C.t (u32 x.w.r)), (C.t (i64 x.th)), (C.t (bvT x.vw))])]) := by kernel_rfl
  exact sndL 20 _ _ _ _ _ _ e (.cons (bCmp (d := decide (((i : Nat) : Int) < 0)) (by unfold BinIs; kernel_rfl) (decide_eq_false (by omega))) (.cons (bCmp (d := decide (((i : Nat) : Int) ≥ ((h.length : Nat) : Int))) (by unfold BinIs; kernel_rfl) (decide_eq_false (by omega))) (.cons (ixSl (elem := 133) (k := 5) (by kernel_rfl) (by kernel_rfl) (by omega) (by omega) (by first | omega | simp)) (.cons (partAgg (s := 5) (by kernel_rfl) (by kernel_rfl) msgL_len hx (j := 0) (by decide) rfl) .nil))))
theorem hist_last (h : List Msg) (i : Nat) (hi : h.length = i + 1) (hh : h.length ≤ 100000) (x : Msg) (hx : h[i]? = some x) : HoldsL 53 [(T.agg [(T.sl (rows msgL h) h.length false)])] [(R.t (T.agg [(i64 x.w.v), (u32 x.w.a), (u32 x.w.r), (i64 x.th), (bvT x.vw)]))] := by
  have e : runX Tryz.prog gG noF 20 53 [(T.agg [(T.sl (rows msgL h) h.length false)])] [((53, 10), .res (.t (i64 ((i : Nat) : Int)))), ((53, 11), .call [(R.t (T.agg [(i64 x.w.v), (u32 x.w.a), (u32 x.w.r), (i64 x.th), (bvT x.vw)])), (R.t (bl true))])] = some ([(R.t (T.agg [(i64 x.w.v), (u32 x.w.a), (u32 x.w.r), (i64 x.th), (bvT x.vw)]))], [], [BinIs Tryz.prog .sub 3 (.tmp 9) (.const (.int .i64 1)) (.int .i64 ((h.length : Nat) : Int)) (.int .i64 1) (.int .i64 ((i : Nat) : Int)),
      HoldsL 84 [(T.agg [(T.sl (rows msgL h) h.length false)]), (i64 ((i : Nat) : Int))] [(R.t (T.agg [(i64 x.w.v), (u32 x.w.a), (u32 x.w.r), (i64 x.th), (bvT x.vw)])), (R.t (bl true))]]) := by kernel_rfl
  exact sndL 20 _ _ _ _ _ _ e (.cons (bAri (r := ((h.length : Nat) : Int) - 1) (by unfold BinIs; kernel_rfl) (by omega) (by omega) (by omega)) (.cons (hist_at h i x hx) .nil))
theorem hist_add (h : List Msg) (x : Msg) (hh : h.length ≤ 100000) : HoldsL 114 [(T.agg [(T.sl (rows msgL h) h.length false)]), (T.agg [(i64 x.w.v), (u32 x.w.a), (u32 x.w.r), (i64 x.th), (bvT x.vw)])] [(R.t (T.agg [(T.sl (rows msgL (h ++ [x])) (h.length + 1) false)]))] := by
  have e : runX Tryz.prog gG noF 20 114 [(T.agg [(T.sl (rows msgL h) h.length false)]), (T.agg [(i64 x.w.v), (u32 x.w.a), (u32 x.w.r), (i64 x.th), (bvT x.vw)])] [((114, 7), .call [(R.t (T.sl (rows msgL h) h.length true))]), ((114, 10), .axf (h.length + 1) (rows msgL (h ++ [x])))] = some ([(R.t (T.agg [(T.sl (rows msgL (h ++ [x])) (h.length + 1) false)]))], [], [HoldsL 121 [(T.sl (rows msgL h) h.length false)] [(R.t (T.sl (rows msgL h) h.length true))],
      List.length [(C.t (i64 x.w.v)), (C.t (u32 x.w.a)), (C.t (u32 x.w.r)), (C.t (i64 x.th)), (C.t (bvT x.vw))] = 1 * 5,
      1 ≠ 0,
      h.length + 1 = (h.length + 1),
      true = true,
      List.length (rows msgL h) = h.length * 5,
      roomB (h.length + 1) 32 = true,
      List.map C.t (rows msgL h) ++ [(C.t (i64 x.w.v)), (C.t (u32 x.w.a)), (C.t (u32 x.w.r)), (C.t (i64 x.th)), (C.t (bvT x.vw))] = (List.map C.t (rows msgL (h ++ [x]))),
      List.map C.t (rows msgL (h ++ [x])) = List.map C.t (rows msgL (h ++ [x])),
      List.length (rows msgL (h ++ [x])) = (h.length + 1) * 5]) := by kernel_rfl
  exact sndL 20 _ _ _ _ _ _ e (.cons (clipM_holds _) (.cons rfl (.cons (by decide) (.cons (by first | rfl | omega) (.cons rfl (.cons (by simp [rows_len msgL_len] <;> omega) (.cons (roomOk (by omega)) (.cons (appRows h x rfl) (.cons rfl (.cons (by simp [rows_len msgL_len] <;> omega) .nil))))))))))
theorem mem_seen (m : Mem) (t : Nat) (v : Vw) (hv : m.views[t]? = some v) (hvl : m.views.length ≤ 8) : HoldsL 111 [(memT m), (i64 ((t + 1 : Nat) : Int))] [(R.t (T.agg [(bvT v)]))] := by
  have ht := (List.getElem?_eq_some_iff.1 hv).1
  have e : runX Tryz.prog gG noF 20 111 [(memT m), (i64 ((t + 1 : Nat) : Int))] [((116, 6), .res (.t (bl true))), ((116, 12), .res (.t (bl true))), ((111, 13), .res (.t (i64 ((t : Nat) : Int)))), ((111, 14), .res (C.t (T.ptr (rows vwL m.views) (t * 1)))), ((111, 15), .res (C.agg [(C.t (bvT v))]))] = some ([(R.t (T.agg [(bvT v)]))], [], [BinIs Tryz.prog .geq 3 (.tmp 5) (.const (.int .i64 1)) (.int .i64 ((t + 1 : Nat) : Int)) (.int .i64 1) (.bool true),
      BinIs Tryz.prog .leq 3 (.tmp 8) (.tmp 11) (.int .i64 ((t + 1 : Nat) : Int)) (.int .i64 ((m.views.length : Nat) : Int)) (.bool true),
      BinIs Tryz.prog .sub 3 (.tmp 12) (.const (.int .i64 1)) (.int .i64 ((t + 1 : Nat) : Int)) (.int .i64 1) (.int .i64 ((t : Nat) : Int)),
      indexAddrC Tryz.prog 27 (.t (T.sl (rows vwL m.views) m.views.length false)) ((t : Nat) : Int) = some ⟨(C.t (T.ptr (rows vwL m.views) (t * 1))), [], []⟩,
      partC Tryz.prog 131 (List.map C.t (rows vwL m.views)) (t * 1) = some (C.agg [(C.t (bvT v))])]) := by kernel_rfl
  exact sndL 20 _ _ _ _ _ _ e (.cons (bCmp (d := decide (((t + 1 : Nat) : Int) ≥ 1)) (by unfold BinIs; kernel_rfl) (decide_eq_true (by omega))) (.cons (bCmp (d := decide (((t + 1 : Nat) : Int) ≤ ((m.views.length : Nat) : Int))) (by unfold BinIs; kernel_rfl) (decide_eq_true (by omega))) (.cons (bAri (r := ((t + 1 : Nat) : Int) - 1) (by unfold BinIs; kernel_rfl) (by omega) (by omega) (by omega)) (.cons (ixSl (elem := 131) (k := 1) (by kernel_rfl) (by kernel_rfl) (by omega) (by omega) (by first | omega | simp)) (.cons (partAgg (s := 1) (by kernel_rfl) (by kernel_rfl) vwL_len hv (j := 0) (by decide) rfl) .nil)))))
theorem mem_with (m : Mem) (t : Nat) (v y : Vw) (hv : m.views[t]? = some v) (hvl : m.views.length ≤ 8) : HoldsL 115 [(memT m), (i64 ((t + 1 : Nat) : Int)), (T.agg [(bvT y)])] [(R.t (T.agg [(T.sl (rows histL m.places) m.places.length false), (T.sl (rows vwL (m.views.set t y)) m.views.length false)]))] := by
  have ht := (List.getElem?_eq_some_iff.1 hv).1
  have e : runX Tryz.prog gG noF 20 115 [(memT m), (i64 ((t + 1 : Nat) : Int)), (T.agg [(bvT y)])] [((115, 11), .mk m.views.length (List.map C.t (rows nilL (List.replicate m.views.length ())))), ((115, 15), .cp m.views.length (List.map C.t (rows vwL m.views))), ((115, 18), .res (.t (i64 ((t : Nat) : Int)))), ((115, 20), .res (C.loc 3 (t * 1))), ((115, 0), .st (List.map C.t (rows vwL (m.views.set t y)))), ((115, 23), .fz [(3, (rows vwL (m.views.set t y)))])] = some ([(R.t (T.agg [(T.sl (rows histL m.places) m.places.length false), (T.sl (rows vwL (m.views.set t y)) m.views.length false)]))], [], [((m.views.length : Nat) : Int) = ((m.views.length : Nat) : Int) ∧ ((m.views.length : Nat) : Int) = ((m.views.length : Nat) : Int) ∧ roomB m.views.length 8 = true ∧ [(C.t nilM)].length = 1,
      (List.replicate m.views.length [(C.t nilM)]).flatten = (List.map C.t (rows nilL (List.replicate m.views.length ()))),
      List.length (List.map C.t (rows vwL m.views)) = m.views.length * 1,
      m.views.length * 1 ≤ List.length (List.map C.t (rows nilL (List.replicate m.views.length ()))),
      min m.views.length m.views.length = m.views.length,
      splice (List.map C.t (rows nilL (List.replicate m.views.length ()))) 0 (List.take (m.views.length * 1) (List.map C.t (rows vwL m.views))) = (List.map C.t (rows vwL m.views)),
      BinIs Tryz.prog .sub 3 (.tmp 17) (.const (.int .i64 1)) (.int .i64 ((t + 1 : Nat) : Int)) (.int .i64 1) (.int .i64 ((t : Nat) : Int)),
      indexAddrC Tryz.prog 27 (C.osl 3 m.views.length 1) ((t : Nat) : Int) = some ⟨(C.loc 3 (t * 1)), [], []⟩,
      (t * 1) + 1 ≤ List.length (List.map C.t (rows vwL m.views)),
      splice (List.map C.t (rows vwL m.views)) (t * 1) [(C.t (bvT y))] = (List.map C.t (rows vwL (m.views.set t y))),
      (List.map C.t (rows vwL (m.views.set t y))) = List.map C.t (rows vwL (m.views.set t y)),
      List.length (rows vwL (m.views.set t y)) = m.views.length * 1]) := by kernel_rfl
  exact sndL 20 _ _ _ _ _ _ e (.cons ⟨rfl, rfl, roomOk (by omega), rfl⟩ (.cons (replRows () _ rfl) (.cons (by simp [rows_len vwL_len] <;> omega) (.cons (by simp [rows_len nilL_len] <;> omega) (.cons (Nat.min_self _) (.cons (copyAll vwL_len nilL_len m.views (List.replicate m.views.length ()) (by simp)) (.cons (bAri (r := ((t + 1 : Nat) : Int) - 1) (by unfold BinIs; kernel_rfl) (by omega) (by omega) (by omega)) (.cons (ixOsl (elem := 131) (k := 1) (by kernel_rfl) (by kernel_rfl) (by omega) (by omega) (by first | omega | simp)) (.cons (rowsLe vwL_len hv (j := 0) (by decide)) (.cons (rowsSplice vwL_len hv (j := 0) (by simp) rfl) (.cons (by first | rfl | simp) (.cons (by simp [rows_len vwL_len] <;> omega) .nil))))))))))))
theorem mem_wrong (m : Mem) (t ad : Nat) (v : Vw) (h : List Msg) (hv : m.views[t]? = some v) (hvl : m.views.length ≤ 8) (hp : m.places[ad]? = some h) (hpl : m.places.length ≤ 4096) : HoldsL 104 [(memT m), (i64 ((t + 1 : Nat) : Int)), (i64 ((ad : Nat) : Int))] [(R.t (i64 0))] := by
  have ht := (List.getElem?_eq_some_iff.1 hv).1
  have had := (List.getElem?_eq_some_iff.1 hp).1
  have e : runX Tryz.prog gG noF 20 104 [(memT m), (i64 ((t + 1 : Nat) : Int)), (i64 ((ad : Nat) : Int))] [((116, 6), .res (.t (bl true))), ((116, 12), .res (.t (bl true))), ((83, 6), .res (.t (bl true))), ((83, 12), .res (.t (bl true)))] = some ([(R.t (i64 0))], [], [BinIs Tryz.prog .geq 3 (.tmp 5) (.const (.int .i64 1)) (.int .i64 ((t + 1 : Nat) : Int)) (.int .i64 1) (.bool true),
      BinIs Tryz.prog .leq 3 (.tmp 8) (.tmp 11) (.int .i64 ((t + 1 : Nat) : Int)) (.int .i64 ((m.views.length : Nat) : Int)) (.bool true),
      BinIs Tryz.prog .geq 51 (.tmp 5) (.const (.int .i64 0)) (.int .i64 ((ad : Nat) : Int)) (.int .i64 0) (.bool true),
      BinIs Tryz.prog .lss 3 (.tmp 8) (.tmp 11) (.int .i64 ((ad : Nat) : Int)) (.int .i64 ((m.places.length : Nat) : Int)) (.bool true)]) := by kernel_rfl
  exact sndL 20 _ _ _ _ _ _ e (.cons (bCmp (d := decide (((t + 1 : Nat) : Int) ≥ 1)) (by unfold BinIs; kernel_rfl) (decide_eq_true (by omega))) (.cons (bCmp (d := decide (((t + 1 : Nat) : Int) ≤ ((m.views.length : Nat) : Int))) (by unfold BinIs; kernel_rfl) (decide_eq_true (by omega))) (.cons (bCmp (d := decide (((ad : Nat) : Int) ≥ 0)) (by unfold BinIs; kernel_rfl) (decide_eq_true (by omega))) (.cons (bCmp (d := decide (((ad : Nat) : Int) < ((m.places.length : Nat) : Int))) (by unfold BinIs; kernel_rfl) (decide_eq_true (by omega))) .nil))))
def Mem.put (m : Mem) (t : Nat) (y : Vw) : Mem := ⟨m.places, m.views.set t y⟩
def Mem.add (m : Mem) (ad : Nat) (h : List Msg) (x : Msg) : Mem := ⟨m.places.set ad (h ++ [x]), m.views⟩
theorem mem_put (m : Mem) (t : Nat) (v y : Vw) (hv : m.views[t]? = some v) (hvl : m.views.length ≤ 8) : HoldsL 115 [memT m, (i64 ((t + 1 : Nat) : Int)), .agg [bvT y]] [.t (memT (m.put t y))] := by
  have h := mem_with m t v y hv hvl
  simpa only [memT, Mem.put, List.length_set] using h
theorem setRows {α : Type} {f : α → List T} (l : List α) (i : Nat) (x : α) (h : i < l.length) : List.map C.t (rows f (l.take i ++ [x])) ++ List.map C.t (rows f (l.drop (i + 1))) = List.map C.t (rows f (l.set i x)) := by
  rw [← List.map_append, ← rows_append]
  congr 2
  rw [List.set_eq_take_append_cons_drop, if_pos h, List.append_assoc]
  rfl
theorem bRemG {t : TypeId} {x y : Operand} {a b c : Int} (hb : b ≠ 0) (hc : Int.tmod a b = c) : BinIs Tryz.prog .rem t x y (.int .i64 a) (.int .i64 b) (.int .i64 c) := by
  subst hc
  unfold BinIs
  have h1 : pr Tryz.prog (eqGuard .rem t x y (.int .i64 a) (.int .i64 b)) = some () := by kernel_rfl
  rw [pr_bind h1]
  simp only [binOp, Op.intDiv, ne_eq, not_true_eq_false, if_false, if_neg hb]
  rfl
theorem mem_finds1 (m : Mem) (t ad : Nat) (v : Vw) (h : List Msg) (i : Nat) (x : Msg) (hv : m.views[t]? = some v) (hvl : m.views.length ≤ 8) (hp : m.places[ad]? = some h) (hpl : m.places.length ≤ 4096) (hx : h[i]? = some x) (hhl : h.length ≤ 100000) : HoldsL 117 [(memT m), (i64 ((t + 1 : Nat) : Int)), (i64 ((ad : Nat) : Int)), (i64 ((i : Nat) : Int)), (bl true)] [.t (memT (m.put t (vjoin (vwith v ad i) x.vw))), .t (.agg (wdL x.w))] := by
  have ht := (List.getElem?_eq_some_iff.1 hv).1
  have had := (List.getElem?_eq_some_iff.1 hp).1
  have hil := (List.getElem?_eq_some_iff.1 hx).1
  have e : runX Tryz.prog gG noF 20 117 [(memT m), (i64 ((t + 1 : Nat) : Int)), (i64 ((ad : Nat) : Int)), (i64 ((i : Nat) : Int)), (bl true)] [((117, 19), .res (C.t (T.ptr (rows histL m.places) (ad * 1)))), ((117, 20), .res (C.agg [(C.t (T.sl (rows msgL h) h.length false))])), ((117, 22), .call [(R.t (T.agg [(i64 x.w.v), (u32 x.w.a), (u32 x.w.r), (i64 x.th), (bvT x.vw)])), (R.t (bl true))]), ((117, 27), .call [(R.t (T.agg [(bvT v)]))]), ((117, 30), .call [(R.t (T.agg [(bvT (vwith v ((ad : Nat) : Int) ((i : Nat) : Int)))]))]), ((117, 35), .call [(R.t (T.agg [(bvT (vjoin (vwith v ((ad : Nat) : Int) ((i : Nat) : Int)) x.vw))]))]), ((117, 39), .call [(R.t (memT (m.put t (vjoin (vwith v ((ad : Nat) : Int) ((i : Nat) : Int)) x.vw))))])] = some ([(R.t (T.agg [(T.sl (rows histL (m.put t (vjoin (vwith v ((ad : Nat) : Int) ((i : Nat) : Int)) x.vw)).places) (m.put t (vjoin (vwith v ((ad : Nat) : Int) ((i : Nat) : Int)) x.vw)).places.length false), (T.sl (rows vwL (m.put t (vjoin (vwith v ((ad : Nat) : Int) ((i : Nat) : Int)) x.vw)).views) (m.put t (vjoin (vwith v ((ad : Nat) : Int) ((i : Nat) : Int)) x.vw)).views.length false)])), (R.t (T.agg [(i64 x.w.v), (u32 x.w.a), (u32 x.w.r)]))], [], [indexAddrC Tryz.prog 26 (.t (T.sl (rows histL m.places) m.places.length false)) ((ad : Nat) : Int) = some ⟨(C.t (T.ptr (rows histL m.places) (ad * 1))), [], []⟩,
      partC Tryz.prog 126 (List.map C.t (rows histL m.places)) (ad * 1) = some (C.agg [(C.t (T.sl (rows msgL h) h.length false))]),
      HoldsL 84 [(T.agg [(T.sl (rows msgL h) h.length false)]), (i64 ((i : Nat) : Int))] [(R.t (T.agg [(i64 x.w.v), (u32 x.w.a), (u32 x.w.r), (i64 x.th), (bvT x.vw)])), (R.t (bl true))],
      HoldsL 111 [(T.agg [(T.sl (rows histL m.places) m.places.length false), (T.sl (rows vwL m.views) m.views.length false)]), (i64 ((t + 1 : Nat) : Int))] [(R.t (T.agg [(bvT v)]))],
      HoldsL 112 [(T.agg [(bvT v)]), (i64 ((ad : Nat) : Int)), (i64 ((i : Nat) : Int))] [(R.t (T.agg [(bvT (vwith v ((ad : Nat) : Int) ((i : Nat) : Int)))]))],
      HoldsL 122 [(T.agg [(bvT (vwith v ((ad : Nat) : Int) ((i : Nat) : Int)))]), (T.agg [(bvT x.vw)])] [(R.t (T.agg [(bvT (vjoin (vwith v ((ad : Nat) : Int) ((i : Nat) : Int)) x.vw))]))],
      HoldsL 115 [(T.agg [(T.sl (rows histL m.places) m.places.length false), (T.sl (rows vwL m.views) m.views.length false)]), (i64 ((t + 1 : Nat) : Int)), (T.agg [(bvT (vjoin (vwith v ((ad : Nat) : Int) ((i : Nat) : Int)) x.vw))])] [(R.t (memT (m.put t (vjoin (vwith v ((ad : Nat) : Int) ((i : Nat) : Int)) x.vw))))]]) := by kernel_rfl
  have hh := sndL 20 _ _ _ _ _ _ e (.cons (ixSl (elem := 126) (k := 1) (by kernel_rfl) (by kernel_rfl) (by omega) (by omega) (by first | omega | simp)) (.cons (partAgg (s := 1) (by kernel_rfl) (by kernel_rfl) histL_len hp (j := 0) (by decide) rfl) (.cons (hist_at h i x hx) (.cons (mem_seen _ _ _ hv hvl) (.cons (bview_with _ _ _ (by omega) (by omega)) (.cons (bview_join _ _) (.cons (mem_put m t v _ hv hvl) .nil)))))))
  have hr : ([(R.t (T.agg [(T.sl (rows histL (m.put t (vjoin (vwith v ((ad : Nat) : Int) ((i : Nat) : Int)) x.vw)).places) (m.put t (vjoin (vwith v ((ad : Nat) : Int) ((i : Nat) : Int)) x.vw)).places.length false), (T.sl (rows vwL (m.put t (vjoin (vwith v ((ad : Nat) : Int) ((i : Nat) : Int)) x.vw)).views) (m.put t (vjoin (vwith v ((ad : Nat) : Int) ((i : Nat) : Int)) x.vw)).views.length false)])), (R.t (T.agg [(i64 x.w.v), (u32 x.w.a), (u32 x.w.r)]))] : List R) = [.t (memT (m.put t (vjoin (vwith v ad i) x.vw))), .t (.agg (wdL x.w))] := rfl
  exact hr ▸ hh
theorem mem_adds1 (m : Mem) (t ad : Nat) (v : Vw) (h : List Msg) (w : Wd) (hv : m.views[t]? = some v) (hvl : m.views.length ≤ 8) (hp : m.places[ad]? = some h) (hpl : m.places.length ≤ 4096) (hhl : h.length ≤ 100000) (hlast : ad + 1 < m.places.length) : HoldsL 103 [(memT m), (i64 ((t + 1 : Nat) : Int)), (i64 ((ad : Nat) : Int)), (T.agg [(i64 w.v), (u32 w.a), (u32 w.r)]), (bl true)] [.t (memT ((m.add ad h ⟨w, ((t + 1 : Nat) : Int), (vwith v ((ad : Nat) : Int) ((h.length : Nat) : Int))⟩).put t (vwith v ((ad : Nat) : Int) ((h.length : Nat) : Int))))] := by
  have ht := (List.getElem?_eq_some_iff.1 hv).1
  have had := (List.getElem?_eq_some_iff.1 hp).1
  have e : runX Tryz.prog gG noF 20 103 [(memT m), (i64 ((t + 1 : Nat) : Int)), (i64 ((ad : Nat) : Int)), (T.agg [(i64 w.v), (u32 w.a), (u32 w.r)]), (bl true)] [((103, 19), .res (C.t (T.ptr (rows histL m.places) (ad * 1)))), ((103, 20), .res (C.agg [(C.t (T.sl (rows msgL h) h.length false))])), ((103, 23), .call [(R.t (T.agg [(bvT v)]))]), ((103, 27), .call [(R.t (T.agg [(bvT (vwith v ((ad : Nat) : Int) ((h.length : Nat) : Int)))]))]), ((103, 39), .res (.t (i64 ((ad + 1 : Nat) : Int)))), ((103, 40), .res (.t (T.sl (rows histL (m.places.drop (ad + 1))) (m.places.length - (ad + 1)) false))), ((103, 45), .res (.t (T.sl (rows histL (m.places.take ad)) ad true))), ((103, 51), .call [(R.t (T.agg [(T.sl (rows msgL (h ++ [⟨⟨w.v, w.a, w.r⟩, ((t + 1 : Nat) : Int), (vwith v ((ad : Nat) : Int) ((h.length : Nat) : Int))⟩])) (h.length + 1) false)]))]), ((103, 53), .ax (ad + 1) (List.map C.t (rows histL (m.places.take ad ++ [(h ++ [⟨⟨w.v, w.a, w.r⟩, ((t + 1 : Nat) : Int), (vwith v ((ad : Nat) : Int) ((h.length : Nat) : Int))⟩])])))), ((103, 56), .ax m.places.length (List.map C.t (rows histL (m.places.set ad (h ++ [⟨⟨w.v, w.a, w.r⟩, ((t + 1 : Nat) : Int), (vwith v ((ad : Nat) : Int) ((h.length : Nat) : Int))⟩]))))), ((103, 58), .fz [(24, (rows histL (m.places.set ad (h ++ [⟨⟨w.v, w.a, w.r⟩, ((t + 1 : Nat) : Int), (vwith v ((ad : Nat) : Int) ((h.length : Nat) : Int))⟩]))))]), ((103, 61), .call [(R.t (memT ((m.add ad h ⟨w, ((t + 1 : Nat) : Int), (vwith v ((ad : Nat) : Int) ((h.length : Nat) : Int))⟩).put t (vwith v ((ad : Nat) : Int) ((h.length : Nat) : Int)))))])] = some ([(R.t (T.agg [(T.sl (rows histL ((m.add ad h ⟨w, ((t + 1 : Nat) : Int), (vwith v ((ad : Nat) : Int) ((h.length : Nat) : Int))⟩).put t (vwith v ((ad : Nat) : Int) ((h.length : Nat) : Int))).places) ((m.add ad h ⟨w, ((t + 1 : Nat) : Int), (vwith v ((ad : Nat) : Int) ((h.length : Nat) : Int))⟩).put t (vwith v ((ad : Nat) : Int) ((h.length : Nat) : Int))).places.length false), (T.sl (rows vwL ((m.add ad h ⟨w, ((t + 1 : Nat) : Int), (vwith v ((ad : Nat) : Int) ((h.length : Nat) : Int))⟩).put t (vwith v ((ad : Nat) : Int) ((h.length : Nat) : Int))).views) ((m.add ad h ⟨w, ((t + 1 : Nat) : Int), (vwith v ((ad : Nat) : Int) ((h.length : Nat) : Int))⟩).put t (vwith v ((ad : Nat) : Int) ((h.length : Nat) : Int))).views.length false)]))], [], [indexAddrC Tryz.prog 26 (.t (T.sl (rows histL m.places) m.places.length false)) ((ad : Nat) : Int) = some ⟨(C.t (T.ptr (rows histL m.places) (ad * 1))), [], []⟩,
      partC Tryz.prog 126 (List.map C.t (rows histL m.places)) (ad * 1) = some (C.agg [(C.t (T.sl (rows msgL h) h.length false))]),
      HoldsL 111 [(T.agg [(T.sl (rows histL m.places) m.places.length false), (T.sl (rows vwL m.views) m.views.length false)]), (i64 ((t + 1 : Nat) : Int))] [(R.t (T.agg [(bvT v)]))],
      HoldsL 112 [(T.agg [(bvT v)]), (i64 ((ad : Nat) : Int)), (i64 ((h.length : Nat) : Int))] [(R.t (T.agg [(bvT (vwith v ((ad : Nat) : Int) ((h.length : Nat) : Int)))]))],
      BinIs Tryz.prog .add 51 (.tmp 38) (.const (.int .i64 1)) (.int .i64 ((ad : Nat) : Int)) (.int .i64 1) (.int .i64 ((ad + 1 : Nat) : Int)),
      sliceC Tryz.prog (fun _ => none) 126 (.t (T.sl (rows histL m.places) m.places.length false)) (some ((ad + 1 : Nat) : Int)) none none = some ⟨.t (T.sl (rows histL (m.places.drop (ad + 1))) (m.places.length - (ad + 1)) false), [], []⟩,
      sliceC Tryz.prog (fun _ => none) 126 (.t (T.sl (rows histL m.places) m.places.length false)) none (some ((ad : Nat) : Int)) (some ((ad : Nat) : Int)) = some ⟨.t (T.sl (rows histL (m.places.take ad)) ad true), [], []⟩,
      HoldsL 114 [(T.agg [(T.sl (rows msgL h) h.length false)]), (T.agg [(i64 w.v), (u32 w.a), (u32 w.r), (i64 ((t + 1 : Nat) : Int)), (bvT (vwith v ((ad : Nat) : Int) ((h.length : Nat) : Int)))])] [(R.t (T.agg [(T.sl (rows msgL (h ++ [⟨⟨w.v, w.a, w.r⟩, ((t + 1 : Nat) : Int), (vwith v ((ad : Nat) : Int) ((h.length : Nat) : Int))⟩])) (h.length + 1) false)]))],
      List.length [(C.t (T.sl (rows msgL (h ++ [⟨⟨w.v, w.a, w.r⟩, ((t + 1 : Nat) : Int), (vwith v ((ad : Nat) : Int) ((h.length : Nat) : Int))⟩])) (h.length + 1) false))] = 1 * 1,
      1 ≠ 0,
      ad + 1 = (ad + 1),
      true = true,
      List.length (rows histL (m.places.take ad)) = ad * 1,
      roomB (ad + 1) 24 = true,
      List.map C.t (rows histL (m.places.take ad)) ++ [(C.t (T.sl (rows msgL (h ++ [⟨⟨w.v, w.a, w.r⟩, ((t + 1 : Nat) : Int), (vwith v ((ad : Nat) : Int) ((h.length : Nat) : Int))⟩])) (h.length + 1) false))] = (List.map C.t (rows histL (m.places.take ad ++ [(h ++ [⟨⟨w.v, w.a, w.r⟩, ((t + 1 : Nat) : Int), (vwith v ((ad : Nat) : Int) ((h.length : Nat) : Int))⟩])]))),
      List.length (List.map C.t (rows histL (m.places.drop (ad + 1)))) = (m.places.length - (ad + 1)) * 1,
      (m.places.length - (ad + 1)) ≠ 0,
      (ad + 1) + (m.places.length - (ad + 1)) = m.places.length,
      List.length (List.map C.t (rows histL (m.places.take ad ++ [(h ++ [⟨⟨w.v, w.a, w.r⟩, ((t + 1 : Nat) : Int), (vwith v ((ad : Nat) : Int) ((h.length : Nat) : Int))⟩])]))) = (ad + 1) * 1,
      roomB ((ad + 1) + (m.places.length - (ad + 1))) 24 = true,
      (List.map C.t (rows histL (m.places.take ad ++ [(h ++ [⟨⟨w.v, w.a, w.r⟩, ((t + 1 : Nat) : Int), (vwith v ((ad : Nat) : Int) ((h.length : Nat) : Int))⟩])]))) ++ (List.map C.t (rows histL (m.places.drop (ad + 1)))) = (List.map C.t (rows histL (m.places.set ad (h ++ [⟨⟨w.v, w.a, w.r⟩, ((t + 1 : Nat) : Int), (vwith v ((ad : Nat) : Int) ((h.length : Nat) : Int))⟩])))),
      (List.map C.t (rows histL (m.places.set ad (h ++ [⟨⟨w.v, w.a, w.r⟩, ((t + 1 : Nat) : Int), (vwith v ((ad : Nat) : Int) ((h.length : Nat) : Int))⟩])))) = List.map C.t (rows histL (m.places.set ad (h ++ [⟨⟨w.v, w.a, w.r⟩, ((t + 1 : Nat) : Int), (vwith v ((ad : Nat) : Int) ((h.length : Nat) : Int))⟩]))),
      List.length (rows histL (m.places.set ad (h ++ [⟨⟨w.v, w.a, w.r⟩, ((t + 1 : Nat) : Int), (vwith v ((ad : Nat) : Int) ((h.length : Nat) : Int))⟩]))) = m.places.length * 1,
      HoldsL 115 [(T.agg [(T.sl (rows histL (m.places.set ad (h ++ [⟨⟨w.v, w.a, w.r⟩, ((t + 1 : Nat) : Int), (vwith v ((ad : Nat) : Int) ((h.length : Nat) : Int))⟩]))) m.places.length false), (T.sl (rows vwL m.views) m.views.length false)]), (i64 ((t + 1 : Nat) : Int)), (T.agg [(bvT (vwith v ((ad : Nat) : Int) ((h.length : Nat) : Int)))])] [(R.t (memT ((m.add ad h ⟨w, ((t + 1 : Nat) : Int), (vwith v ((ad : Nat) : Int) ((h.length : Nat) : Int))⟩).put t (vwith v ((ad : Nat) : Int) ((h.length : Nat) : Int)))))]]) := by kernel_rfl
  have hh := sndL 20 _ _ _ _ _ _ e (.cons (ixSl (elem := 126) (k := 1) (by kernel_rfl) (by kernel_rfl) (by omega) (by omega) (by first | omega | simp)) (.cons (partAgg (s := 1) (by kernel_rfl) (by kernel_rfl) histL_len hp (j := 0) (by decide) rfl) (.cons (mem_seen _ _ _ hv hvl) (.cons (bview_with _ _ _ (by omega) (by omega)) (.cons (bAri (r := ((ad : Nat) : Int) + 1) (by unfold BinIs; kernel_rfl) (by omega) (by omega) (by omega)) (.cons (dropRows (by kernel_rfl) histL_len m.places (ad + 1) (by omega) _ rfl _ rfl) (.cons (takeRows (by kernel_rfl) histL_len m.places false ad (by omega)) (.cons (hist_add _ ⟨⟨w.v, w.a, w.r⟩, ((t + 1 : Nat) : Int), (vwith v ((ad : Nat) : Int) ((h.length : Nat) : Int))⟩ (by omega)) (.cons rfl (.cons (by decide) (.cons (by first | rfl | omega) (.cons rfl (.cons (by simp [rows_len histL_len] <;> omega) (.cons (roomOk (by omega)) (.cons (appRows _ _ (by simp [histL])) (.cons (by simp [rows_len histL_len] <;> omega) (.cons (by omega) (.cons (by first | rfl | omega) (.cons (by simp [rows_len histL_len] <;> omega) (.cons (roomOk (by omega)) (.cons (setRows _ _ _ had) (.cons (by first | rfl | simp) (.cons (by simp [rows_len histL_len] <;> omega) (.cons (by have := mem_put (m.add ad h ⟨w, ((t + 1 : Nat) : Int), (vwith v ((ad : Nat) : Int) ((h.length : Nat) : Int))⟩) t v (vwith v ((ad : Nat) : Int) ((h.length : Nat) : Int)) hv hvl; simpa only [memT, Mem.add, List.length_set] using this) .nil))))))))))))))))))))))))
  have hr : ([(R.t (T.agg [(T.sl (rows histL ((m.add ad h ⟨w, ((t + 1 : Nat) : Int), (vwith v ((ad : Nat) : Int) ((h.length : Nat) : Int))⟩).put t (vwith v ((ad : Nat) : Int) ((h.length : Nat) : Int))).places) ((m.add ad h ⟨w, ((t + 1 : Nat) : Int), (vwith v ((ad : Nat) : Int) ((h.length : Nat) : Int))⟩).put t (vwith v ((ad : Nat) : Int) ((h.length : Nat) : Int))).places.length false), (T.sl (rows vwL ((m.add ad h ⟨w, ((t + 1 : Nat) : Int), (vwith v ((ad : Nat) : Int) ((h.length : Nat) : Int))⟩).put t (vwith v ((ad : Nat) : Int) ((h.length : Nat) : Int))).views) ((m.add ad h ⟨w, ((t + 1 : Nat) : Int), (vwith v ((ad : Nat) : Int) ((h.length : Nat) : Int))⟩).put t (vwith v ((ad : Nat) : Int) ((h.length : Nat) : Int))).views.length false)]))] : List R) = [.t (memT ((m.add ad h ⟨w, ((t + 1 : Nat) : Int), (vwith v ((ad : Nat) : Int) ((h.length : Nat) : Int))⟩).put t (vwith v ((ad : Nat) : Int) ((h.length : Nat) : Int))))] := rfl
  exact hr ▸ hh
end Go.Proofs.YtiegfchaepbnbaaGreatDoor
namespace Go.Proofs.YtiegfchaepbnbaaGreatDoor
open Go Go.RowKit Go.Va
set_option maxRecDepth 100000
set_option maxHeartbeats 400000
/-- The message that a choice selects, counted back from the last. -/
def pickI (k : Nat) (fr choice : Int) : Int := (k : Int) - Int.tmod (goMax choice 0) ((k : Int) - goMax 0 (goMin fr k) + 1)
theorem mem_look (m : Mem) (t ad : Nat) (v : Vw) (h : List Msg) (k : Nat) (x : Msg) (hv : m.views[t]? = some v) (hvl : m.views.length ≤ 8) (hp : m.places[ad]? = some h) (hpl : m.places.length ≤ 4096) (hhl : h.length ≤ 100000) (hk : h.length = k + 1) (hx : h[k]? = some x) : HoldsL 95 [(memT m), (i64 ((t + 1 : Nat) : Int)), (i64 ((ad : Nat) : Int))] [.t (memT (m.put t (vjoin (vwith v ad k) x.vw))), .t (.agg (wdL x.w)), .t (i64 0)] := by
  have ht := (List.getElem?_eq_some_iff.1 hv).1
  have had := (List.getElem?_eq_some_iff.1 hp).1
  have e : runX Tryz.prog gG noF 20 95 [(memT m), (i64 ((t + 1 : Nat) : Int)), (i64 ((ad : Nat) : Int))] [((107, 19), .call [(R.t (i64 0))]), ((107, 33), .res (C.t (T.ptr (rows histL m.places) (ad * 1)))), ((107, 34), .res (C.agg [(C.t (T.sl (rows msgL h) h.length false))])), ((107, 37), .call [(R.t (T.agg [(bvT v)]))]), ((107, 39), .call [(R.t (i64 (vat v ((ad : Nat) : Int))))]), ((108, 9), .res (.t (i64 ((k : Nat) : Int)))), ((107, 42), .call [(R.t (memT (m.put t (vjoin (vwith v ad k) x.vw)))), (R.t (T.agg [(i64 x.w.v), (u32 x.w.a), (u32 x.w.r)]))])] = some ([(R.t (T.agg [(T.sl (rows histL (m.put t (vjoin (vwith v ad k) x.vw)).places) (m.put t (vjoin (vwith v ad k) x.vw)).places.length false), (T.sl (rows vwL (m.put t (vjoin (vwith v ad k) x.vw)).views) (m.put t (vjoin (vwith v ad k) x.vw)).views.length false)])), (R.t (T.agg [(i64 x.w.v), (u32 x.w.a), (u32 x.w.r)])), (R.t (i64 0))], [], [HoldsL 104 [(T.agg [(T.sl (rows histL m.places) m.places.length false), (T.sl (rows vwL m.views) m.views.length false)]), (i64 ((t + 1 : Nat) : Int)), (i64 ((ad : Nat) : Int))] [(R.t (i64 0))],
      indexAddrC Tryz.prog 26 (.t (T.sl (rows histL m.places) m.places.length false)) ((ad : Nat) : Int) = some ⟨(C.t (T.ptr (rows histL m.places) (ad * 1))), [], []⟩,
      partC Tryz.prog 126 (List.map C.t (rows histL m.places)) (ad * 1) = some (C.agg [(C.t (T.sl (rows msgL h) h.length false))]),
      HoldsL 111 [(T.agg [(T.sl (rows histL m.places) m.places.length false), (T.sl (rows vwL m.views) m.views.length false)]), (i64 ((t + 1 : Nat) : Int))] [(R.t (T.agg [(bvT v)]))],
      HoldsL 118 [(T.agg [(bvT v)]), (i64 ((ad : Nat) : Int))] [(R.t (i64 (vat v ((ad : Nat) : Int))))],
      BinIs Tryz.prog .sub 3 (.tmp 8) (.const (.int .i64 1)) (.int .i64 ((h.length : Nat) : Int)) (.int .i64 1) (.int .i64 ((k : Nat) : Int)),
      HoldsL 117 [(T.agg [(T.sl (rows histL m.places) m.places.length false), (T.sl (rows vwL m.views) m.views.length false)]), (i64 ((t + 1 : Nat) : Int)), (i64 ((ad : Nat) : Int)), (i64 ((k : Nat) : Int)), (bl true)] [(R.t (memT (m.put t (vjoin (vwith v ad k) x.vw)))), (R.t (T.agg [(i64 x.w.v), (u32 x.w.a), (u32 x.w.r)]))]]) := by kernel_rfl
  have hh := sndL 20 _ _ _ _ _ _ e (.cons (mem_wrong _ _ _ _ _ hv hvl hp hpl) (.cons (ixSl (elem := 126) (k := 1) (by kernel_rfl) (by kernel_rfl) (by omega) (by omega) (by simp)) (.cons (partAgg (s := 1) (by kernel_rfl) (by kernel_rfl) histL_len hp (j := 0) (by decide) rfl) (.cons (mem_seen _ _ _ hv hvl) (.cons (bview_at _ _) (.cons (bAri (r := ((h.length : Nat) : Int) - 1) (by unfold BinIs; kernel_rfl) (by omega) (by omega) (by omega)) (.cons (mem_finds1 m t ad v h k x hv hvl hp hpl hx hhl) .nil)))))))
  have hr : ([(R.t (T.agg [(T.sl (rows histL (m.put t (vjoin (vwith v ad k) x.vw)).places) (m.put t (vjoin (vwith v ad k) x.vw)).places.length false), (T.sl (rows vwL (m.put t (vjoin (vwith v ad k) x.vw)).views) (m.put t (vjoin (vwith v ad k) x.vw)).views.length false)])), (R.t (T.agg [(i64 x.w.v), (u32 x.w.a), (u32 x.w.r)])), (R.t (i64 0))] : List R) = [.t (memT (m.put t (vjoin (vwith v ad k) x.vw))), .t (.agg (wdL x.w)), .t (i64 0)] := rfl
  exact hr ▸ hh
theorem mem_store1 (m : Mem) (t ad : Nat) (v : Vw) (h : List Msg) (w : Wd) (hv : m.views[t]? = some v) (hvl : m.views.length ≤ 8) (hp : m.places[ad]? = some h) (hpl : m.places.length ≤ 4096) (hhl : h.length ≤ 100000) (hlast : ad + 1 < m.places.length) : HoldsL 88 [(memT m), (i64 ((t + 1 : Nat) : Int)), (i64 ((ad : Nat) : Int)), (T.agg [(i64 w.v), (u32 w.a), (u32 w.r)]), (bl true)] [.t (memT ((m.add ad h ⟨w, ((t + 1 : Nat) : Int), (vwith v ad h.length)⟩).put t (vwith v ad h.length))), .t (i64 0)] := by
  have ht := (List.getElem?_eq_some_iff.1 hv).1
  have had := (List.getElem?_eq_some_iff.1 hp).1
  have e : runX Tryz.prog gG noF 20 88 [(memT m), (i64 ((t + 1 : Nat) : Int)), (i64 ((ad : Nat) : Int)), (T.agg [(i64 w.v), (u32 w.a), (u32 w.r)]), (bl true)] [((88, 16), .call [(R.t (i64 0))]), ((88, 26), .call [(R.t (memT ((m.add ad h ⟨w, ((t + 1 : Nat) : Int), (vwith v ad h.length)⟩).put t (vwith v ad h.length))))])] = some ([(R.t (T.agg [(T.sl (rows histL ((m.add ad h ⟨w, ((t + 1 : Nat) : Int), (vwith v ad h.length)⟩).put t (vwith v ad h.length)).places) ((m.add ad h ⟨w, ((t + 1 : Nat) : Int), (vwith v ad h.length)⟩).put t (vwith v ad h.length)).places.length false), (T.sl (rows vwL ((m.add ad h ⟨w, ((t + 1 : Nat) : Int), (vwith v ad h.length)⟩).put t (vwith v ad h.length)).views) ((m.add ad h ⟨w, ((t + 1 : Nat) : Int), (vwith v ad h.length)⟩).put t (vwith v ad h.length)).views.length false)])), (R.t (i64 0))], [], [HoldsL 104 [(T.agg [(T.sl (rows histL m.places) m.places.length false), (T.sl (rows vwL m.views) m.views.length false)]), (i64 ((t + 1 : Nat) : Int)), (i64 ((ad : Nat) : Int))] [(R.t (i64 0))],
      HoldsL 103 [(T.agg [(T.sl (rows histL m.places) m.places.length false), (T.sl (rows vwL m.views) m.views.length false)]), (i64 ((t + 1 : Nat) : Int)), (i64 ((ad : Nat) : Int)), (T.agg [(i64 w.v), (u32 w.a), (u32 w.r)]), (bl true)] [(R.t (memT ((m.add ad h ⟨w, ((t + 1 : Nat) : Int), (vwith v ad h.length)⟩).put t (vwith v ad h.length))))]]) := by kernel_rfl
  have hh := sndL 20 _ _ _ _ _ _ e (.cons (mem_wrong _ _ _ _ _ hv hvl hp hpl) (.cons (mem_adds1 m t ad v h w hv hvl hp hpl hhl hlast) .nil))
  have hr : ([(R.t (T.agg [(T.sl (rows histL ((m.add ad h ⟨w, ((t + 1 : Nat) : Int), (vwith v ad h.length)⟩).put t (vwith v ad h.length)).places) ((m.add ad h ⟨w, ((t + 1 : Nat) : Int), (vwith v ad h.length)⟩).put t (vwith v ad h.length)).places.length false), (T.sl (rows vwL ((m.add ad h ⟨w, ((t + 1 : Nat) : Int), (vwith v ad h.length)⟩).put t (vwith v ad h.length)).views) ((m.add ad h ⟨w, ((t + 1 : Nat) : Int), (vwith v ad h.length)⟩).put t (vwith v ad h.length)).views.length false)])), (R.t (i64 0))] : List R) = [.t (memT ((m.add ad h ⟨w, ((t + 1 : Nat) : Int), (vwith v ad h.length)⟩).put t (vwith v ad h.length))), .t (i64 0)] := rfl
  exact hr ▸ hh
/-! ## Words that are the same -/
theorem pr_bind_eq {α β : Type} {P : Program} : ∀ (s : Sem α) (f : α → Sem β), pr P (s >>= f) = (pr P s).bind fun a => pr P (f a)
  | .pure b, f => rfl
  | .program k, f => by show pr P (k P >>= f) = _; rw [pr_bind_eq]; rfl
  | .mark m k, f => by show pr P (k >>= f) = _; rw [pr_bind_eq]; rfl
  | .choose q k, f => by
    show pr P (.choose q fun n => k n >>= f) = _
    simp only [pr]
    split
    · exact pr_bind_eq _ _
    · rfl
  | .load .., f => rfl
  | .store .., f => rfl
  | .new .., f => rfl
  | .shape .., f => rfl
  | .freeze .., f => rfl
  | .frozen .., f => rfl
  | .getObj .., f => rfl
  | .setObj .., f => rfl
  | .sys .., f => rfl
  | .halt .., f => rfl
theorem pr_pure {α : Type} {P : Program} (a : α) : pr P (pure a : Sem α) = some a := rfl
theorem pr_program {P : Program} : pr P Go.program = some P := rfl
theorem pr_underlying {P : Program} {t : TypeId} {d : TypeDesc} (h : P.underlying t = some d) : pr P (Go.underlying t) = some d := by
  unfold Go.underlying
  simp [pr_bind_eq, pr_program, h, pr_pure]
theorem pr_forIn_some {P : Program} {body : Field → Option Bool × Unit → Sem (ForInStep (Option Bool × Unit))} (bs : Field → Bool) : ∀ {fs : List Field},
    (∀ f, f ∈ fs → pr P (body f (none, ())) = some (if bs f then .yield (none, ()) else .done (some false, ()))) → pr P (forIn fs (none, ()) body) = some (if fs.all bs then (none, ()) else (some false, ()))
  | [], h => rfl
  | f :: fs, h => by
    rw [List.forIn_cons, pr_bind_eq, h f List.mem_cons_self]
    simp only [Option.bind_some, List.all_cons]
    rcases Bool.eq_false_or_eq_true (bs f) with hb | hb
    rotate_left
    · simp only [hb, Bool.false_eq_true, if_false, Bool.false_and, pr_pure]
    · simp only [hb, if_true, Bool.true_and]
      exact pr_forIn_some bs fun f' hf' => h f' (List.mem_cons_of_mem _ hf')
theorem eq_struct2 {P : Program} {d : Nat} {t : TypeId} {fs : Array Field} {xs ys : Array Value} (bs : Field → Bool) (hu : P.underlying t = some (.struct fs)) (hst : P.stoodInHeld t = false)
    (h : ∀ f, f ∈ fs.toList → (f.name ≠ "_") ∧ ∃ x y, pr P (part f.type xs f.offset) = some x ∧ pr P (part f.type ys f.offset) = some y ∧ pr P (Op.equalIn d f.type x y) = some (bs f)) : pr P (Op.equalIn (d + 1) t (.agg xs) (.agg ys)) = some (fs.toList.all bs) := by
  rw [Op.equalIn]
  simp only [pr_bind_eq, pr_underlying hu, Option.bind_some, pr_program, hst, Bool.false_eq_true, if_false]
  rw [← Array.forIn_toList, pr_forIn_some bs]
  · cases fs.toList.all bs <;> rfl
  · intro f hf
    obtain ⟨hn, x, y, h1, h2, h3⟩ := h f hf
    rw [if_pos hn]
    simp only [pr_bind_eq, h1, h2, h3, Option.bind_some]
    cases bs f <;> simp [pr_pure]
theorem eq_int2 (d : Nat) (t : TypeId) (k k' : IntKind) (ht : Tryz.prog.underlying t = some (.int k)) (a b : Int) : pr Tryz.prog (Op.equalIn (d + 1) t (.int k' a) (.int k' b)) = some (a == b) := by
  rw [Op.equalIn]
  simp [pr_bind_eq, pr_underlying ht, pr_pure]
def wV (v a r : Int) : Array Value := [.int .i64 v, .int .u32 a, .int .u32 r].toArray
theorem eq_word2 (d : Nat) (v a r v' a' r' : Int) : pr Tryz.prog (Op.equalIn (d + 1 + 1) 54 (.agg (wV v a r)) (.agg (wV v' a' r'))) = some (v == v' && (a == a' && r == r')) := by
  have := eq_struct2 (P := Tryz.prog) (d := d + 1) (xs := wV v a r) (ys := wV v' a' r') (fun f => if f.offset = 0 then v == v' else if f.offset = 1 then a == a' else r == r') Tryz.underlying54 (by kernel_rfl) (fun f hf => by
    simp only [List.mem_cons, List.not_mem_nil, or_false] at hf
    rcases hf with rfl | rfl | rfl
    · exact ⟨by decide, .int .i64 v, .int .i64 v', by kernel_rfl, by kernel_rfl, eq_int2 d 2 .i64 .i64 (by kernel_rfl) v v'⟩
    · exact ⟨by decide, .int .u32 a, .int .u32 a', by kernel_rfl, by kernel_rfl, eq_int2 d 52 .u32 .u32 (by kernel_rfl) a a'⟩
    · exact ⟨by decide, .int .u32 r, .int .u32 r', by kernel_rfl, by kernel_rfl, eq_int2 d 52 .u32 .u32 (by kernel_rfl) r r'⟩)
  rw [this]
  simp
theorem neq_word (x y : Operand) (v a r v' a' r' : Int) (b : Bool) (hb : (v == v' && (a == a' && r == r')) = b) : BinIs Tryz.prog .neq 54 x y (.agg (wV v a r)) (.agg (wV v' a' r')) (.bool (!b)) := by
  unfold BinIs
  have hg : pr Tryz.prog (eqGuard .neq 54 x y (.agg (wV v a r)) (.agg (wV v' a' r'))) = some () := by kernel_rfl
  have he := eq_word2 9998 v a r v' a' r'
  rw [pr_bind hg]
  have : pr Tryz.prog (binOp .neq 54 (.agg (wV v a r)) (.agg (wV v' a' r'))) = (pr Tryz.prog (Op.equalIn (9998 + 1 + 1) 54 (.agg (wV v a r)) (.agg (wV v' a' r')))).bind fun b => some (.bool (!b)) := by
    show pr Tryz.prog (Op.equalIn (9998 + 1 + 1) 54 (.agg (wV v a r)) (.agg (wV v' a' r')) >>= fun b => (pure (Value.bool (!b)) : Sem Value)) = _
    rw [pr_bind_eq]
    rfl
  rw [this, he, ← hb]
  rfl
theorem neq_no (w : Wd) (x y : Operand) : BinIs Tryz.prog .neq 54 x y (.agg (wV w.v w.a w.r)) (.agg (wV w.v w.a w.r)) (.bool false) :=
  neq_word x y _ _ _ _ _ _ true (by simp)
theorem swap_works (m : Mem) (t ad : Nat) (v : Vw) (h : List Msg) (k : Nat) (x : Msg) (w : Wd) (hv : m.views[t]? = some v) (hvl : m.views.length ≤ 8) (hp : m.places[ad]? = some h) (hpl : m.places.length ≤ 4096) (hhl : h.length ≤ 100000) (hk : h.length = k + 1) (hx : h[k]? = some x) (hlast : ad + 1 < m.places.length) : HoldsL 87 [(memT m), (i64 ((t + 1 : Nat) : Int)), (i64 ((ad : Nat) : Int)), (T.agg [(i64 x.w.v), (u32 x.w.a), (u32 x.w.r)]), (T.agg [(i64 w.v), (u32 w.a), (u32 w.r)])] [.t (memT (((m.put t (vjoin (vwith v ad k) x.vw)).add ad h ⟨w, ((t + 1 : Nat) : Int), (vwith (vjoin (vwith v ad k) x.vw) ad h.length)⟩).put t (vwith (vjoin (vwith v ad k) x.vw) ad h.length))), .t (.agg (wdL x.w)), .t (bl true), .t (i64 0)] := by
  have ht := (List.getElem?_eq_some_iff.1 hv).1
  have had := (List.getElem?_eq_some_iff.1 hp).1
  have e : runX Tryz.prog gG noF 20 87 [(memT m), (i64 ((t + 1 : Nat) : Int)), (i64 ((ad : Nat) : Int)), (T.agg [(i64 x.w.v), (u32 x.w.a), (u32 x.w.r)]), (T.agg [(i64 w.v), (u32 w.a), (u32 w.r)])] [((87, 21), .call [(R.t (memT (m.put t (vjoin (vwith v ad k) x.vw)))), (R.t (T.agg [(i64 x.w.v), (u32 x.w.a), (u32 x.w.r)])), (R.t (i64 0))]), ((87, 30), .res (.t (bl false))), ((87, 39), .call [(R.t (memT (((m.put t (vjoin (vwith v ad k) x.vw)).add ad h ⟨w, ((t + 1 : Nat) : Int), (vwith (vjoin (vwith v ad k) x.vw) ad h.length)⟩).put t (vwith (vjoin (vwith v ad k) x.vw) ad h.length))))])] = some ([(R.t (T.agg [(T.sl (rows histL (((m.put t (vjoin (vwith v ad k) x.vw)).add ad h ⟨w, ((t + 1 : Nat) : Int), (vwith (vjoin (vwith v ad k) x.vw) ad h.length)⟩).put t (vwith (vjoin (vwith v ad k) x.vw) ad h.length)).places) (((m.put t (vjoin (vwith v ad k) x.vw)).add ad h ⟨w, ((t + 1 : Nat) : Int), (vwith (vjoin (vwith v ad k) x.vw) ad h.length)⟩).put t (vwith (vjoin (vwith v ad k) x.vw) ad h.length)).places.length false), (T.sl (rows vwL (((m.put t (vjoin (vwith v ad k) x.vw)).add ad h ⟨w, ((t + 1 : Nat) : Int), (vwith (vjoin (vwith v ad k) x.vw) ad h.length)⟩).put t (vwith (vjoin (vwith v ad k) x.vw) ad h.length)).views) (((m.put t (vjoin (vwith v ad k) x.vw)).add ad h ⟨w, ((t + 1 : Nat) : Int), (vwith (vjoin (vwith v ad k) x.vw) ad h.length)⟩).put t (vwith (vjoin (vwith v ad k) x.vw) ad h.length)).views.length false)])), (R.t (T.agg [(i64 x.w.v), (u32 x.w.a), (u32 x.w.r)])), (R.t (bl true)), (R.t (i64 0))], [], [HoldsL 95 [(T.agg [(T.sl (rows histL m.places) m.places.length false), (T.sl (rows vwL m.views) m.views.length false)]), (i64 ((t + 1 : Nat) : Int)), (i64 ((ad : Nat) : Int))] [(R.t (memT (m.put t (vjoin (vwith v ad k) x.vw)))), (R.t (T.agg [(i64 x.w.v), (u32 x.w.a), (u32 x.w.r)])), (R.t (i64 0))],
      BinIs Tryz.prog .neq 54 (.tmp 28) (.tmp 29) (.agg [(.int .i64 x.w.v), (.int .u32 x.w.a), (.int .u32 x.w.r)].toArray) (.agg [(.int .i64 x.w.v), (.int .u32 x.w.a), (.int .u32 x.w.r)].toArray) (.bool false),
      HoldsL 103 [(T.agg [(T.sl (rows histL (m.put t (vjoin (vwith v ad k) x.vw)).places) (m.put t (vjoin (vwith v ad k) x.vw)).places.length false), (T.sl (rows vwL (m.put t (vjoin (vwith v ad k) x.vw)).views) (m.put t (vjoin (vwith v ad k) x.vw)).views.length false)]), (i64 ((t + 1 : Nat) : Int)), (i64 ((ad : Nat) : Int)), (T.agg [(i64 w.v), (u32 w.a), (u32 w.r)]), (bl true)] [(R.t (memT (((m.put t (vjoin (vwith v ad k) x.vw)).add ad h ⟨w, ((t + 1 : Nat) : Int), (vwith (vjoin (vwith v ad k) x.vw) ad h.length)⟩).put t (vwith (vjoin (vwith v ad k) x.vw) ad h.length))))]]) := by kernel_rfl
  have hh := sndL 20 _ _ _ _ _ _ e (.cons (mem_look m t ad v h k x hv hvl hp hpl hhl hk hx) (.cons (neq_no x.w _ _) (.cons (mem_adds1 (m.put t (vjoin (vwith v ad k) x.vw)) t ad (vjoin (vwith v ad k) x.vw) h w (by simp only [Mem.put]; rw [List.getElem?_set_self ht]) (by simpa only [Mem.put, List.length_set] using hvl) hp hpl hhl hlast) .nil)))
  have hr : ([(R.t (T.agg [(T.sl (rows histL (((m.put t (vjoin (vwith v ad k) x.vw)).add ad h ⟨w, ((t + 1 : Nat) : Int), (vwith (vjoin (vwith v ad k) x.vw) ad h.length)⟩).put t (vwith (vjoin (vwith v ad k) x.vw) ad h.length)).places) (((m.put t (vjoin (vwith v ad k) x.vw)).add ad h ⟨w, ((t + 1 : Nat) : Int), (vwith (vjoin (vwith v ad k) x.vw) ad h.length)⟩).put t (vwith (vjoin (vwith v ad k) x.vw) ad h.length)).places.length false), (T.sl (rows vwL (((m.put t (vjoin (vwith v ad k) x.vw)).add ad h ⟨w, ((t + 1 : Nat) : Int), (vwith (vjoin (vwith v ad k) x.vw) ad h.length)⟩).put t (vwith (vjoin (vwith v ad k) x.vw) ad h.length)).views) (((m.put t (vjoin (vwith v ad k) x.vw)).add ad h ⟨w, ((t + 1 : Nat) : Int), (vwith (vjoin (vwith v ad k) x.vw) ad h.length)⟩).put t (vwith (vjoin (vwith v ad k) x.vw) ad h.length)).views.length false)])), (R.t (T.agg [(i64 x.w.v), (u32 x.w.a), (u32 x.w.r)])), (R.t (bl true)), (R.t (i64 0))] : List R) = [.t (memT (((m.put t (vjoin (vwith v ad k) x.vw)).add ad h ⟨w, ((t + 1 : Nat) : Int), (vwith (vjoin (vwith v ad k) x.vw) ad h.length)⟩).put t (vwith (vjoin (vwith v ad k) x.vw) ad h.length))), .t (.agg (wdL x.w)), .t (bl true), .t (i64 0)] := rfl
  exact hr ▸ hh
theorem mem_last (m : Mem) (ad : Nat) (h : List Msg) (k : Nat) (x : Msg) (hp : m.places[ad]? = some h) (hpl : m.places.length ≤ 4096) (hhl : h.length ≤ 100000) (hk : h.length = k + 1) (hx : h[k]? = some x) : HoldsL 29 [(memT m), (i64 ((ad : Nat) : Int))] [.t (.agg (wdL x.w)), .t (bl true)] := by
  have had := (List.getElem?_eq_some_iff.1 hp).1
  have e : runX Tryz.prog gG noF 20 29 [(memT m), (i64 ((ad : Nat) : Int))] [((83, 6), .res (.t (bl true))), ((83, 12), .res (.t (bl true))), ((52, 14), .res (C.t (T.ptr (rows histL m.places) (ad * 1)))), ((52, 15), .res (C.agg [(C.t (T.sl (rows msgL h) h.length false))])), ((29, 15), .call [(R.t (T.agg [(i64 x.w.v), (u32 x.w.a), (u32 x.w.r), (i64 x.th), (bvT x.vw)]))])] = some ([(R.t (T.agg [(i64 x.w.v), (u32 x.w.a), (u32 x.w.r)])), (R.t (bl true))], [], [BinIs Tryz.prog .geq 51 (.tmp 5) (.const (.int .i64 0)) (.int .i64 ((ad : Nat) : Int)) (.int .i64 0) (.bool true),
      BinIs Tryz.prog .lss 3 (.tmp 8) (.tmp 11) (.int .i64 ((ad : Nat) : Int)) (.int .i64 ((m.places.length : Nat) : Int)) (.bool true),
      indexAddrC Tryz.prog 26 (.t (T.sl (rows histL m.places) m.places.length false)) ((ad : Nat) : Int) = some ⟨(C.t (T.ptr (rows histL m.places) (ad * 1))), [], []⟩,
      partC Tryz.prog 126 (List.map C.t (rows histL m.places)) (ad * 1) = some (C.agg [(C.t (T.sl (rows msgL h) h.length false))]),
      HoldsL 53 [(T.agg [(T.sl (rows msgL h) h.length false)])] [(R.t (T.agg [(i64 x.w.v), (u32 x.w.a), (u32 x.w.r), (i64 x.th), (bvT x.vw)]))]]) := by kernel_rfl
  have hh := sndL 20 _ _ _ _ _ _ e (.cons (bCmp (d := decide (((ad : Nat) : Int) ≥ 0)) (by unfold BinIs; kernel_rfl) (decide_eq_true (by omega))) (.cons (bCmp (d := decide (((ad : Nat) : Int) < ((m.places.length : Nat) : Int))) (by unfold BinIs; kernel_rfl) (decide_eq_true (by omega))) (.cons (ixSl (elem := 126) (k := 1) (by kernel_rfl) (by kernel_rfl) (by omega) (by omega) (by simp)) (.cons (partAgg (s := 1) (by kernel_rfl) (by kernel_rfl) histL_len hp (j := 0) (by decide) rfl) (.cons (hist_last h k hk hhl x hx) .nil)))))
  have hr : ([(R.t (T.agg [(i64 x.w.v), (u32 x.w.a), (u32 x.w.r)])), (R.t (bl true))] : List R) = [.t (.agg (wdL x.w)), .t (bl true)] := rfl
  exact hr ▸ hh
end Go.Proofs.YtiegfchaepbnbaaGreatDoor
