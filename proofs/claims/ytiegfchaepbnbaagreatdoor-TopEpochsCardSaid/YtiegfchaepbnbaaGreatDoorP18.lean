/- A new machine. Closed runs: the layout (3, 8, 0). A machine of 376 places, told by the last words. -/
import Derived.Test.YtiegfchaepbnbaaGreatDoorP17
namespace Go.Proofs.YtiegfchaepbnbaaGreatDoor
open Go Go.RowKit Go.Va
set_option maxRecDepth 100000
set_option maxHeartbeats 400000
theorem tle_sl {xs ys : List T} {n : Nat} {c : Bool} (hl : xs.length = ys.length) (h : TLes xs ys) : TLe (.sl xs n c) (.sl ys n c) := fun hp I v hr => by
  simp only [RT] at hr ⊢
  obtain ⟨b, lo, cap, cc, e, fr, h1, h2, h3, h4, h5, h6, h7⟩ := hr
  exact ⟨b, lo, cap, cc, e, fr, h1, h2, h3, h _ _ _ (hl ▸ h4), hl ▸ h5, h6, h7⟩
theorem tle_clip {xs : List T} {n : Nat} {c : Bool} : TLe (.sl xs n c) (.sl xs n false) := fun hp I v hr => by
  simp only [RT] at hr ⊢
  obtain ⟨b, lo, cap, cc, e, fr, h1, h2, h3, h4, h5, h6, h7⟩ := hr
  exact ⟨b, lo, cap, cc, e, fr, h1, h2, h3, h4, h5, h6, fun h => by cases h⟩
def msg0 (w : Wd) : List Msg := [⟨w, 0, []⟩]
theorem hist0_le (w : Wd) : TLe (.agg [.sl [i64 w.v, u32 w.a, u32 w.r, i64 0, nilM] 1 false]) (.agg [.sl (rows msgL (msg0 w)) (msg0 w).length false]) :=
  tle_agg (.cons (tle_sl (by rfl) (.cons (tle_refl _) (.cons (tle_refl _) (.cons (tle_refl _) (.cons (tle_refl _) (.cons bv_nil .nil)))))) .nil)
theorem hist_new (x : Wd) : HoldsL 57 [(T.agg [(i64 x.v), (u32 x.a), (u32 x.r)])] [(R.t (T.agg [(T.sl [(i64 x.v), (u32 x.a), (u32 x.r), (i64 0), nilM] 1 false)]))] := by
  have e : runX Tryz.prog gG noF 20 57 [(T.agg [(i64 x.v), (u32 x.a), (u32 x.r)])] [] = some ([(R.t (T.agg [(T.sl [(i64 x.v), (u32 x.a), (u32 x.r), (i64 0), nilM] 1 false)]))], [], []) := by kernel_rfl
  exact sndL 20 _ _ _ _ _ _ e (.nil)
noncomputable def bodyMN : Code := (Tryz.f36.body).getD .skip
theorem bodyMN_eq : bodyMN = .seq (c1 bodyMN) (.seq (c1 (c2 bodyMN)) (.seq (c1 (c2 (c2 bodyMN))) (.seq (.seq (c1 (c1 (c2 (c2 (c2 bodyMN))))) (.block 1 (.loop (inL (inB (c2 (c1 (c2 (c2 (c2 bodyMN)))))))))) (c2 (c2 (c2 (c2 bodyMN))))))) := by kernel_rfl
theorem mn_1 (l : List Wd) (h0 : 0 < l.length) (hl : l.length ≤ 4096) : ∃ s', ExecS Tryz.prog gG Tryz.f36.ntmps (c1 bodyMN) ⟨[(0, (C.t (i64 3))), (1, (C.t (T.sl (rows wdL l) l.length false)))], []⟩ .normal s' ∧ Weak gG Tryz.f36.ntmps s' ⟨[(0, (C.t (i64 3))), (1, (C.t (T.sl (rows wdL l) l.length false))), (4, (C.loc 0 0)), (5, (C.t (i64 0)))], [some (.cells [(C.t nilS), (C.t nilS)] false)]⟩ := by
  have e : tidiedO [0] [] [0, 1, 4, 5] (XX 36 Tryz.f36.ntmps (c1 bodyMN) ⟨[(0, (C.t (i64 3))), (1, (C.t (T.sl (rows wdL l) l.length false)))], []⟩ []) = some (.normal, ⟨[(0, (C.t (i64 3))), (1, (C.t (T.sl (rows wdL l) l.length false))), (4, (C.loc 0 0)), (5, (C.t (i64 0)))], [some (.cells [(C.t nilS), (C.t nilS)] false)]⟩, [], [], []) := by kernel_rfl
  exact fragO e (fun k hk => by cases hk) (.nil)
theorem mn_2 (l : List Wd) (h0 : 0 < l.length) (hl : l.length ≤ 4096) : ∃ s', ExecS Tryz.prog gG Tryz.f36.ntmps (c1 (c2 bodyMN)) ⟨[(0, (C.t (i64 3))), (1, (C.t (T.sl (rows wdL l) l.length false))), (4, (C.loc 0 0)), (5, (C.t (i64 0)))], [some (.cells [(C.t nilS), (C.t nilS)] false)]⟩ .normal s' ∧ Weak gG Tryz.f36.ntmps s' ⟨[(0, (C.t (i64 3))), (1, (C.t (T.sl (rows wdL l) l.length false))), (4, (C.loc 0 0)), (5, (C.t (i64 0)))], [some (.cells [(C.t nilS), (C.t nilS)] false)]⟩ := by
  have e : tidiedO [0] [] [0, 1, 4, 5] (XX 36 Tryz.f36.ntmps (c1 (c2 bodyMN)) ⟨[(0, (C.t (i64 3))), (1, (C.t (T.sl (rows wdL l) l.length false))), (4, (C.loc 0 0)), (5, (C.t (i64 0)))], [some (.cells [(C.t nilS), (C.t nilS)] false)]⟩ [((36, 20), .res (.t (bl false))), ((36, 25), .res (.t (bl false)))]) = some (.normal, ⟨[(0, (C.t (i64 3))), (1, (C.t (T.sl (rows wdL l) l.length false))), (4, (C.loc 0 0)), (5, (C.t (i64 0)))], [some (.cells [(C.t nilS), (C.t nilS)] false)]⟩, [], [BinIs Tryz.prog .eql 3 (.tmp 19) (.const (.int .i64 0)) (.int .i64 ((l.length : Nat) : Int)) (.int .i64 0) (.bool false),
      BinIs Tryz.prog .gtr 3 (.tmp 24) (.const (.int .i64 4096)) (.int .i64 ((l.length : Nat) : Int)) (.int .i64 4096) (.bool false)], []) := by kernel_rfl
  exact fragO e (fun k hk => by cases hk) (.cons (bCmp (d := (((l.length : Nat) : Int) == 0)) (by unfold BinIs; kernel_rfl) (eqF (by omega))) (.cons (bCmp (d := decide (((l.length : Nat) : Int) > 4096)) (by unfold BinIs; kernel_rfl) (decide_eq_false (by omega))) .nil))
theorem mn_3 (l : List Wd) (h0 : 0 < l.length) (hl : l.length ≤ 4096) : ∃ s', ExecS Tryz.prog gG Tryz.f36.ntmps (c1 (c2 (c2 bodyMN))) ⟨[(0, (C.t (i64 3))), (1, (C.t (T.sl (rows wdL l) l.length false))), (4, (C.loc 0 0)), (5, (C.t (i64 0)))], [some (.cells [(C.t nilS), (C.t nilS)] false)]⟩ .normal s' ∧ Weak gG Tryz.f36.ntmps s' ⟨[(1, (C.t (T.sl (rows wdL l) l.length false))), (4, (C.loc 0 0)), (5, (C.t (i64 0))), (6, (C.loc 1 0))], [some (.cells [(C.t nilS), (C.t nilS)] false), some (.cells [(C.t nilS), (C.osl 2 3 1)] false), some (.cells [(C.t nilM), (C.t nilM), (C.t nilM)] false)]⟩ := by
  have e : tidiedO [0, 2, 1] [] [1, 4, 5, 6] (XX 36 Tryz.f36.ntmps (c1 (c2 (c2 bodyMN))) ⟨[(0, (C.t (i64 3))), (1, (C.t (T.sl (rows wdL l) l.length false))), (4, (C.loc 0 0)), (5, (C.t (i64 0)))], [some (.cells [(C.t nilS), (C.t nilS)] false)]⟩ []) = some (.normal, ⟨[(1, (C.t (T.sl (rows wdL l) l.length false))), (4, (C.loc 0 0)), (5, (C.t (i64 0))), (6, (C.loc 1 0))], [some (.cells [(C.t nilS), (C.t nilS)] false), some (.cells [(C.t nilS), (C.osl 2 3 1)] false), some (.cells [(C.t nilM), (C.t nilM), (C.t nilM)] false)]⟩, [], [], []) := by kernel_rfl
  exact fragO e (fun k hk => by cases hk) (.nil)
theorem mn_4 (l : List Wd) (h0 : 0 < l.length) (hl : l.length ≤ 4096) : ∃ s', ExecS Tryz.prog gG Tryz.f36.ntmps (c1 (c1 (c2 (c2 (c2 bodyMN))))) ⟨[(1, (C.t (T.sl (rows wdL l) l.length false))), (4, (C.loc 0 0)), (5, (C.t (i64 0))), (6, (C.loc 1 0))], [some (.cells [(C.t nilS), (C.t nilS)] false), some (.cells [(C.t nilS), (C.osl 2 3 1)] false), some (.cells [(C.t nilM), (C.t nilM), (C.t nilM)] false)]⟩ .normal s' ∧ Weak gG Tryz.f36.ntmps s' ⟨[(4, (C.loc 0 0)), (5, (C.t (i64 0))), (6, (C.loc 1 0)), (30, (C.t (T.sl (rows wdL l) l.length false))), (31, (C.t (i64 ((l.length : Nat) : Int)))), (32, (C.t (i64 0)))], [some (.cells [(C.t nilS), (C.t nilS)] false), some (.cells [(C.t nilS), (C.osl 2 3 1)] false), some (.cells [(C.t nilM), (C.t nilM), (C.t nilM)] false)]⟩ := by
  have e : tidiedO [0, 1, 2] [] [4, 5, 6, 30, 31, 32] (XX 36 Tryz.f36.ntmps (c1 (c1 (c2 (c2 (c2 bodyMN))))) ⟨[(1, (C.t (T.sl (rows wdL l) l.length false))), (4, (C.loc 0 0)), (5, (C.t (i64 0))), (6, (C.loc 1 0))], [some (.cells [(C.t nilS), (C.t nilS)] false), some (.cells [(C.t nilS), (C.osl 2 3 1)] false), some (.cells [(C.t nilM), (C.t nilM), (C.t nilM)] false)]⟩ []) = some (.normal, ⟨[(4, (C.loc 0 0)), (5, (C.t (i64 0))), (6, (C.loc 1 0)), (30, (C.t (T.sl (rows wdL l) l.length false))), (31, (C.t (i64 ((l.length : Nat) : Int)))), (32, (C.t (i64 0)))], [some (.cells [(C.t nilS), (C.t nilS)] false), some (.cells [(C.t nilS), (C.osl 2 3 1)] false), some (.cells [(C.t nilM), (C.t nilM), (C.t nilM)] false)]⟩, [], [], []) := by kernel_rfl
  exact fragO e (fun k hk => by cases hk) (.nil)
theorem hist_newW (x : Wd) : HoldsL 57 [.agg [i64 x.v, u32 x.a, u32 x.r]] [.t (.agg [.sl (rows msgL (msg0 x)) (msg0 x).length false])] := holds_res (.t (hist0_le x) .nil) (hist_new x)
theorem mn_r0 (l : List Wd) (h0 : 0 < l.length) (hl : l.length ≤ 4096) (x : Wd) (hx : l[0]? = some x) : ∃ s', ExecS Tryz.prog gG Tryz.f36.ntmps (inL (inB (c2 (c1 (c2 (c2 (c2 bodyMN))))))) ⟨[(4, (C.loc 0 0)), (5, (C.t (i64 0))), (6, (C.loc 1 0)), (30, (C.t (T.sl (rows wdL l) l.length false))), (31, (C.t (i64 ((l.length : Nat) : Int)))), (32, (C.t (i64 0)))], [some (.cells [(C.t nilS), (C.t nilS)] false), some (.cells [(C.t nilS), (C.osl 2 3 1)] false), some (.cells [(C.t nilM), (C.t nilM), (C.t nilM)] false)]⟩ .normal s' ∧ Weak gG Tryz.f36.ntmps s' ⟨[(4, (C.loc 0 0)), (5, (C.t (i64 0))), (6, (C.loc 1 0)), (30, (C.t (T.sl (rows wdL l) l.length false))), (31, (C.t (i64 ((l.length : Nat) : Int)))), (32, (C.t (i64 1)))], [some (.cells [(C.t nilS), (C.t nilS)] false), some (.cells [(C.osl 2 1 1), (C.osl 3 3 1)] false), some (.cells (List.map C.t (rows histL [msg0 x])) false), some (.cells [(C.t nilM), (C.t nilM), (C.t nilM)] false)]⟩ := by
  have e : tidiedO [0, 1, 9, 2] [9] [4, 5, 6, 30, 31, 32] (XX 36 Tryz.f36.ntmps (inL (inB (c2 (c1 (c2 (c2 (c2 bodyMN))))))) ⟨[(4, (C.loc 0 0)), (5, (C.t (i64 0))), (6, (C.loc 1 0)), (30, (C.t (T.sl (rows wdL l) l.length false))), (31, (C.t (i64 ((l.length : Nat) : Int)))), (32, (C.t (i64 0)))], [some (.cells [(C.t nilS), (C.t nilS)] false), some (.cells [(C.t nilS), (C.osl 2 3 1)] false), some (.cells [(C.t nilM), (C.t nilM), (C.t nilM)] false)]⟩ [((36, 33), .res (.t (bl true))), ((36, 34), .res (C.t (T.ptr (rows wdL l) (0 * 3)))), ((36, 35), .res (C.agg [(C.t (i64 x.v)), (C.t (u32 x.a)), (C.t (u32 x.r))])), ((36, 39), .call [(R.t (T.agg [(T.sl (rows msgL (msg0 x)) (msg0 x).length false)]))]), ((36, 41), .ax 1 (List.map C.t (rows histL [msg0 x])))]) = some (.normal, ⟨[(4, (C.loc 0 0)), (5, (C.t (i64 0))), (6, (C.loc 1 0)), (30, (C.t (T.sl (rows wdL l) l.length false))), (31, (C.t (i64 ((l.length : Nat) : Int)))), (32, (C.t (i64 1)))], [some (.cells [(C.t nilS), (C.t nilS)] false), some (.cells [(C.osl 2 1 1), (C.osl 3 3 1)] false), some (.cells (List.map C.t (rows histL [msg0 x])) false), some (.cells [(C.t nilM), (C.t nilM), (C.t nilM)] false)]⟩, [], [BinIs Tryz.prog .lss 3 (.tmp 32) (.tmp 31) (.int .i64 0) (.int .i64 ((l.length : Nat) : Int)) (.bool true),
      indexAddrC Tryz.prog 30 (.t (T.sl (rows wdL l) l.length false)) 0 = some ⟨(C.t (T.ptr (rows wdL l) (0 * 3))), [], []⟩,
      partC Tryz.prog 54 (List.map C.t (rows wdL l)) (0 * 3) = some (C.agg [(C.t (i64 x.v)), (C.t (u32 x.a)), (C.t (u32 x.r))]),
      HoldsL 57 [(T.agg [(i64 x.v), (u32 x.a), (u32 x.r)])] [(R.t (T.agg [(T.sl (rows msgL (msg0 x)) (msg0 x).length false)]))],
      List.length [(C.t (T.sl (rows msgL (msg0 x)) (msg0 x).length false))] = 1 * 1,
      1 ≠ 0,
      1 = 1,
      roomB 1 24 = true,
      [(C.t (T.sl (rows msgL (msg0 x)) (msg0 x).length false))] = (List.map C.t (rows histL [msg0 x]))], [some (.cells (List.map C.t (rows histL [msg0 x])) false)]) := by kernel_rfl
  exact fragO e (fun k hk => by simp only [List.mem_cons, List.not_mem_nil, or_false, Option.some.injEq] at hk; rcases hk with rfl <;> first | exact .inl ⟨_, _, rfl⟩ | exact .inr ⟨_, _, _, rfl⟩) (.cons (bCmp (d := decide (0 < ((l.length : Nat) : Int))) (by unfold BinIs; kernel_rfl) (decide_eq_true (by omega))) (.cons (ixSl (elem := 54) (k := 3) (by kernel_rfl) (by kernel_rfl) (by omega) (by omega) (by first | omega | simp)) (.cons (partAgg (s := 3) (by kernel_rfl) (by kernel_rfl) wdL_len hx (j := 0) (by decide) rfl) (.cons (hist_newW x) (.cons rfl (.cons (by decide) (.cons (by first | rfl | omega) (.cons (roomOk (by omega)) (.cons rfl .nil)))))))))
def SMN (l : List Wd) (i : Nat) : S := ⟨[(4, (C.loc 0 0)), (5, (C.t (i64 0))), (6, (C.loc 1 0)), (30, (C.t (T.sl (rows wdL l) l.length false))), (31, (C.t (i64 ((l.length : Nat) : Int)))), (32, (C.t (i64 ((i : Nat) : Int))))], [some (.cells [(C.t nilS), (C.t nilS)] false), some (.cells [(C.osl 2 i 1), (C.osl 3 3 1)] false), some (.cells (List.map C.t (rows histL ((l.take i).map msg0))) false), some (.cells [(C.t nilM), (C.t nilM), (C.t nilM)] false)]⟩
theorem mn_app (l : List Wd) (i : Nat) (x : Wd) (hx : l[i]? = some x) {cs : List C} (hc : (histL (msg0 x)).map C.t = cs) : List.map C.t (rows histL ((l.take i).map msg0)) ++ cs = List.map C.t (rows histL ((l.take (i + 1)).map msg0)) := by
  rw [appRows _ (msg0 x) hc, List.take_add_one, hx, List.map_append]; rfl
theorem mn_len (l : List Wd) (i : Nat) (hi : i ≤ l.length) : ((l.take i).map msg0).length = i := by simp; omega
theorem mn_round (l : List Wd) (h0 : 0 < l.length) (hl : l.length ≤ 4096) (i : Nat) (hi : 0 < i) (x : Wd) (hx : l[i]? = some x) : ∃ s', ExecS Tryz.prog gG Tryz.f36.ntmps (inL (inB (c2 (c1 (c2 (c2 (c2 bodyMN))))))) ⟨[(4, (C.loc 0 0)), (5, (C.t (i64 0))), (6, (C.loc 1 0)), (30, (C.t (T.sl (rows wdL l) l.length false))), (31, (C.t (i64 ((l.length : Nat) : Int)))), (32, (C.t (i64 ((i : Nat) : Int))))], [some (.cells [(C.t nilS), (C.t nilS)] false), some (.cells [(C.osl 2 i 1), (C.osl 3 3 1)] false), some (.cells (List.map C.t (rows histL ((l.take i).map msg0))) false), some (.cells [(C.t nilM), (C.t nilM), (C.t nilM)] false)]⟩ .normal s' ∧ Weak gG Tryz.f36.ntmps s' ⟨[(4, (C.loc 0 0)), (5, (C.t (i64 0))), (6, (C.loc 1 0)), (30, (C.t (T.sl (rows wdL l) l.length false))), (31, (C.t (i64 ((l.length : Nat) : Int)))), (32, (C.t (i64 (((i + 1) : Nat) : Int))))], [some (.cells [(C.t nilS), (C.t nilS)] false), some (.cells [(C.osl 2 (i + 1) 1), (C.osl 3 3 1)] false), some (.cells (List.map C.t (rows histL ((l.take (i + 1)).map msg0))) false), some (.cells [(C.t nilM), (C.t nilM), (C.t nilM)] false)]⟩ := by
  have hil := (List.getElem?_eq_some_iff.1 hx).1
  have hml := mn_len l i (by omega)
  have e : tidiedO [0, 1, 10, 3] [10] [4, 5, 6, 30, 31, 32] (XX 36 Tryz.f36.ntmps (inL (inB (c2 (c1 (c2 (c2 (c2 bodyMN))))))) ⟨[(4, (C.loc 0 0)), (5, (C.t (i64 0))), (6, (C.loc 1 0)), (30, (C.t (T.sl (rows wdL l) l.length false))), (31, (C.t (i64 ((l.length : Nat) : Int)))), (32, (C.t (i64 ((i : Nat) : Int))))], [some (.cells [(C.t nilS), (C.t nilS)] false), some (.cells [(C.osl 2 i 1), (C.osl 3 3 1)] false), some (.cells (List.map C.t (rows histL ((l.take i).map msg0))) false), some (.cells [(C.t nilM), (C.t nilM), (C.t nilM)] false)]⟩ [((36, 33), .res (.t (bl true))), ((36, 34), .res (C.t (T.ptr (rows wdL l) (i * 3)))), ((36, 35), .res (C.agg [(C.t (i64 x.v)), (C.t (u32 x.a)), (C.t (u32 x.r))])), ((36, 39), .call [(R.t (T.agg [(T.sl (rows msgL (msg0 x)) (msg0 x).length false)]))]), ((36, 41), .ax (i + 1) (List.map C.t (rows histL ((l.take (i + 1)).map msg0)))), ((36, 43), .res (.t (i64 (((i + 1) : Nat) : Int))))]) = some (.normal, ⟨[(4, (C.loc 0 0)), (5, (C.t (i64 0))), (6, (C.loc 1 0)), (30, (C.t (T.sl (rows wdL l) l.length false))), (31, (C.t (i64 ((l.length : Nat) : Int)))), (32, (C.t (i64 (((i + 1) : Nat) : Int))))], [some (.cells [(C.t nilS), (C.t nilS)] false), some (.cells [(C.osl 2 (i + 1) 1), (C.osl 3 3 1)] false), some (.cells (List.map C.t (rows histL ((l.take (i + 1)).map msg0))) false), some (.cells [(C.t nilM), (C.t nilM), (C.t nilM)] false)]⟩, [], [BinIs Tryz.prog .lss 3 (.tmp 32) (.tmp 31) (.int .i64 ((i : Nat) : Int)) (.int .i64 ((l.length : Nat) : Int)) (.bool true),
      indexAddrC Tryz.prog 30 (.t (T.sl (rows wdL l) l.length false)) ((i : Nat) : Int) = some ⟨(C.t (T.ptr (rows wdL l) (i * 3))), [], []⟩,
      partC Tryz.prog 54 (List.map C.t (rows wdL l)) (i * 3) = some (C.agg [(C.t (i64 x.v)), (C.t (u32 x.a)), (C.t (u32 x.r))]),
      HoldsL 57 [(T.agg [(i64 x.v), (u32 x.a), (u32 x.r)])] [(R.t (T.agg [(T.sl (rows msgL (msg0 x)) (msg0 x).length false)]))],
      List.length [(C.t (T.sl (rows msgL (msg0 x)) (msg0 x).length false))] = 1 * 1,
      1 ≠ 0,
      i + 1 = (i + 1),
      List.length (List.map C.t (rows histL ((l.take i).map msg0))) = i * 1,
      roomB (i + 1) 24 = true,
      (List.map C.t (rows histL ((l.take i).map msg0))) ++ [(C.t (T.sl (rows msgL (msg0 x)) (msg0 x).length false))] = (List.map C.t (rows histL ((l.take (i + 1)).map msg0))),
      BinIs Tryz.prog .add 3 (.tmp 32) (.const (.int .i64 1)) (.int .i64 ((i : Nat) : Int)) (.int .i64 1) (.int .i64 (((i + 1) : Nat) : Int))], [some (.cells (List.map C.t (rows histL ((l.take (i + 1)).map msg0))) false)]) := by kernel_rfl
  exact fragO e (fun k hk => by simp only [List.mem_cons, List.not_mem_nil, or_false, Option.some.injEq] at hk; rcases hk with rfl <;> first | exact .inl ⟨_, _, rfl⟩ | exact .inr ⟨_, _, _, rfl⟩) (.cons (bCmp (d := decide (((i : Nat) : Int) < ((l.length : Nat) : Int))) (by unfold BinIs; kernel_rfl) (decide_eq_true (by omega))) (.cons (ixSl (elem := 54) (k := 3) (by kernel_rfl) (by kernel_rfl) (by omega) (by omega) (by first | omega | simp)) (.cons (partAgg (s := 3) (by kernel_rfl) (by kernel_rfl) wdL_len hx (j := 0) (by decide) rfl) (.cons (hist_newW x) (.cons rfl (.cons (by decide) (.cons (by first | rfl | omega) (.cons (by simp [rows_len histL_len] <;> omega) (.cons (roomOk (by omega)) (.cons (mn_app l i x hx rfl) (.cons (bAri (r := ((i : Nat) : Int) + 1) (by unfold BinIs; kernel_rfl) (by omega) (by omega) (by omega)) .nil)))))))))))
theorem mn_out (l : List Wd) : ∃ s', ExecS Tryz.prog gG Tryz.f36.ntmps (inL (inB (c2 (c1 (c2 (c2 (c2 bodyMN))))))) ⟨[(4, (C.loc 0 0)), (5, (C.t (i64 0))), (6, (C.loc 1 0)), (30, (C.t (T.sl (rows wdL l) l.length false))), (31, (C.t (i64 ((l.length : Nat) : Int)))), (32, (C.t (i64 ((l.length : Nat) : Int))))], [some (.cells [(C.t nilS), (C.t nilS)] false), some (.cells [(C.osl 2 l.length 1), (C.osl 3 3 1)] false), some (.cells (List.map C.t (rows histL (l.map msg0))) false), some (.cells [(C.t nilM), (C.t nilM), (C.t nilM)] false)]⟩ (.exit 1) s' ∧ Weak gG Tryz.f36.ntmps s' ⟨[(4, (C.loc 0 0)), (5, (C.t (i64 0))), (6, (C.loc 1 0))], [some (.cells [(C.t nilS), (C.t nilS)] false), some (.cells [(C.osl 2 l.length 1), (C.osl 3 3 1)] false), some (.cells (List.map C.t (rows histL (l.map msg0))) false), some (.cells [(C.t nilM), (C.t nilM), (C.t nilM)] false)]⟩ := by
  have e : tidiedO [0, 1, 2, 3] [2] [4, 5, 6] (XX 36 Tryz.f36.ntmps (inL (inB (c2 (c1 (c2 (c2 (c2 bodyMN))))))) ⟨[(4, (C.loc 0 0)), (5, (C.t (i64 0))), (6, (C.loc 1 0)), (30, (C.t (T.sl (rows wdL l) l.length false))), (31, (C.t (i64 ((l.length : Nat) : Int)))), (32, (C.t (i64 ((l.length : Nat) : Int))))], [some (.cells [(C.t nilS), (C.t nilS)] false), some (.cells [(C.osl 2 l.length 1), (C.osl 3 3 1)] false), some (.cells (List.map C.t (rows histL (l.map msg0))) false), some (.cells [(C.t nilM), (C.t nilM), (C.t nilM)] false)]⟩ [((36, 33), .res (.t (bl false)))]) = some ((.exit 1), ⟨[(4, (C.loc 0 0)), (5, (C.t (i64 0))), (6, (C.loc 1 0))], [some (.cells [(C.t nilS), (C.t nilS)] false), some (.cells [(C.osl 2 l.length 1), (C.osl 3 3 1)] false), some (.cells (List.map C.t (rows histL (l.map msg0))) false), some (.cells [(C.t nilM), (C.t nilM), (C.t nilM)] false)]⟩, [], [BinIs Tryz.prog .lss 3 (.tmp 32) (.tmp 31) (.int .i64 ((l.length : Nat) : Int)) (.int .i64 ((l.length : Nat) : Int)) (.bool false)], [some (.cells (List.map C.t (rows histL (l.map msg0))) false)]) := by kernel_rfl
  exact fragO e (fun k hk => by simp only [List.mem_cons, List.not_mem_nil, or_false, Option.some.injEq] at hk; rcases hk with rfl <;> first | exact .inl ⟨_, _, rfl⟩ | exact .inr ⟨_, _, _, rfl⟩) (.cons (bCmp (d := decide (((l.length : Nat) : Int) < ((l.length : Nat) : Int))) (by unfold BinIs; kernel_rfl) (decide_eq_false (by omega))) .nil)
theorem mn_5 (l : List Wd) : ∃ s', ExecS Tryz.prog gG Tryz.f36.ntmps (c2 (c2 (c2 (c2 bodyMN)))) ⟨[(4, (C.loc 0 0)), (5, (C.t (i64 0))), (6, (C.loc 1 0))], [some (.cells [(C.t nilS), (C.t nilS)] false), some (.cells [(C.osl 2 l.length 1), (C.osl 3 3 1)] false), some (.cells (List.map C.t (rows histL (l.map msg0))) false), some (.cells [(C.t nilM), (C.t nilM), (C.t nilM)] false)]⟩ .ret s' ∧ Weak gG Tryz.f36.ntmps s' ⟨[(4, (C.loc 0 0)), (5, (C.t (i64 0)))], [some (.cells [(C.t (T.sl (rows histL (l.map msg0)) l.length false)), (C.t (T.sl [nilM, nilM, nilM] 3 false))] false)]⟩ := by
  have e : tidiedO [0] [] [4, 5] (XX 36 Tryz.f36.ntmps (c2 (c2 (c2 (c2 bodyMN)))) ⟨[(4, (C.loc 0 0)), (5, (C.t (i64 0))), (6, (C.loc 1 0))], [some (.cells [(C.t nilS), (C.t nilS)] false), some (.cells [(C.osl 2 l.length 1), (C.osl 3 3 1)] false), some (.cells (List.map C.t (rows histL (l.map msg0))) false), some (.cells [(C.t nilM), (C.t nilM), (C.t nilM)] false)]⟩ [((36, 44), .fz [(2, (rows histL (l.map msg0)))])]) = some (.ret, ⟨[(4, (C.loc 0 0)), (5, (C.t (i64 0)))], [some (.cells [(C.t (T.sl (rows histL (l.map msg0)) l.length false)), (C.t (T.sl [nilM, nilM, nilM] 3 false))] false)]⟩, [], [(List.map C.t (rows histL (l.map msg0))) = List.map C.t (rows histL (l.map msg0)),
      List.length (rows histL (l.map msg0)) = l.length * 1], []) := by kernel_rfl
  exact fragO e (fun k hk => by cases hk) (.cons (by first | rfl | simp) (.cons (by simp [rows_len histL_len] <;> omega) .nil))
theorem SMN_end (l : List Wd) : SMN l l.length = ⟨[(4, (C.loc 0 0)), (5, (C.t (i64 0))), (6, (C.loc 1 0)), (30, (C.t (T.sl (rows wdL l) l.length false))), (31, (C.t (i64 ((l.length : Nat) : Int)))), (32, (C.t (i64 ((l.length : Nat) : Int))))], [some (.cells [(C.t nilS), (C.t nilS)] false), some (.cells [(C.osl 2 l.length 1), (C.osl 3 3 1)] false), some (.cells (List.map C.t (rows histL (l.map msg0))) false), some (.cells [(C.t nilM), (C.t nilM), (C.t nilM)] false)]⟩ := by simp only [SMN, List.take_length]
theorem SMN_one (l : List Wd) (x : Wd) (hx : l[0]? = some x) : ⟨[(4, (C.loc 0 0)), (5, (C.t (i64 0))), (6, (C.loc 1 0)), (30, (C.t (T.sl (rows wdL l) l.length false))), (31, (C.t (i64 ((l.length : Nat) : Int)))), (32, (C.t (i64 1)))], [some (.cells [(C.t nilS), (C.t nilS)] false), some (.cells [(C.osl 2 1 1), (C.osl 3 3 1)] false), some (.cells (List.map C.t (rows histL [msg0 x])) false), some (.cells [(C.t nilM), (C.t nilM), (C.t nilM)] false)]⟩ = SMN l 1 := by
  cases l with
  | nil => cases hx
  | cons y r => simp at hx; subst hx; rfl
theorem mn_loop (l : List Wd) (h0 : 0 < l.length) (hl : l.length ≤ 4096) : ∀ (j i : Nat), 0 < i → i + j = l.length → ∃ s', RoundsW Tryz.prog gG Tryz.f36.ntmps (inL (inB (c2 (c1 (c2 (c2 (c2 bodyMN))))))) (SMN l i) (.exit 1) s' ∧ Weak gG Tryz.f36.ntmps s' ⟨[(4, (C.loc 0 0)), (5, (C.t (i64 0))), (6, (C.loc 1 0))], [some (.cells [(C.t nilS), (C.t nilS)] false), some (.cells [(C.osl 2 l.length 1), (C.osl 3 3 1)] false), some (.cells (List.map C.t (rows histL (l.map msg0))) false), some (.cells [(C.t nilM), (C.t nilM), (C.t nilM)] false)]⟩
  | 0, i, h, hi => by
    have : i = l.length := by omega
    subst this
    obtain ⟨s', h1, h2⟩ := mn_out l
    exact ⟨s', .out (by simp) (SMN_end l ▸ h1), h2⟩
  | j + 1, i, h, hi => by
    obtain ⟨s', h1, h2⟩ := mn_round l h0 hl i h _ (List.getElem?_eq_getElem (by omega))
    obtain ⟨s2, h3, h4⟩ := mn_loop l h0 hl j (i + 1) (by omega) (by omega)
    exact ⟨s2, .round h1 h2 h3, h4⟩
theorem mem_new0 (l : List Wd) (h0 : 0 < l.length) (hl : l.length ≤ 4096) : HoldsL 36 [i64 3, .sl (rows wdL l) l.length false] [.t (.agg [.sl (rows histL (l.map msg0)) l.length false, .sl [nilM, nilM, nilM] 3 false]), .t (i64 0)] := by
  obtain ⟨a1, b1, c1'⟩ := mn_1 l h0 hl
  obtain ⟨a2, b2, c2'⟩ := mn_2 l h0 hl
  obtain ⟨a3, b3, c3'⟩ := mn_3 l h0 hl
  obtain ⟨a4, b4, c4'⟩ := mn_4 l h0 hl
  have hx := List.getElem?_eq_getElem h0
  obtain ⟨a5, b5, c5'⟩ := mn_r0 l h0 hl _ hx
  obtain ⟨a6, b6, c6'⟩ := mn_loop l h0 hl (l.length - 1) 1 (by omega) (by omega)
  obtain ⟨a7, b7, c7'⟩ := mn_5 l
  rw [SMN_one l _ hx] at c5'
  refine holds_of_ExecS (c := bodyMN) (x := .ret) (s' := ⟨[(4, (C.loc 0 0)), (5, (C.t (i64 0)))], [some (.cells [(C.t (T.sl (rows histL (l.map msg0)) l.length false)), (C.t (T.sl [nilM, nilM, nilM] 3 false))] false)]⟩) Tryz.func36 (by kernel_rfl) (of_decide_eq_true (by kernel_rfl)) ?_ (.inr rfl) (by kernel_rfl)
  rw [bodyMN_eq]
  exact .seq b1 (ExecS.weak c1' (.seq b2 (ExecS.weak c2' (.seq b3 (ExecS.weak c3' (.seq (.seq b4 (ExecS.weak c4' (.blockIn (RoundsW.round b5 c5' b6).loop))) (ExecS.weak c6' (ExecS.post b7 c7'))))))))
theorem mem_new (l : List Wd) (h0 : 0 < l.length) (hl : l.length ≤ 4096) : HoldsL 36 [i64 3, .sl (rows wdL l) l.length false] [.t (memT ⟨l.map msg0, [[], [], []]⟩), .t (i64 0)] :=
  holds_res (.t (tle_agg (.cons (by rw [List.length_map]; exact tle_refl _) (.cons (tle_sl (xs := [nilM, nilM, nilM]) (ys := rows vwL [[], [], []]) rfl (.cons bv_nil (.cons bv_nil (.cons bv_nil .nil)))) .nil))) (.t (tle_refl _) .nil)) (mem_new0 l h0 hl)
theorem cloneWd (l : List Wd) (hne : 0 < l.length) (hle : l.length ≤ 100000) : HoldsL 58 [(T.sl (rows wdL l) l.length false)] [(R.osl (rows wdL l) l.length 3)] := by
  have e : runX Tryz.prog gG noF 20 58 [(T.sl (rows wdL l) l.length false)] [((58, 7), .ax l.length (List.map C.t (rows wdL l))), ((58, 0), .ro [(1, (rows wdL l))])] = some ([(R.osl (rows wdL l) l.length 3)], [], [List.length (List.map C.t (rows wdL l)) = l.length * 3,
      l.length ≠ 0,
      0 + l.length = l.length,
      List.length ([] : List C) = 0 * 3,
      roomB (0 + l.length) 16 = true,
      ([] : List C) ++ (List.map C.t (rows wdL l)) = (List.map C.t (rows wdL l)),
      (List.map C.t (rows wdL l)) = List.map C.t (rows wdL l),
      List.length (rows wdL l) = l.length * 3]) := by kernel_rfl
  exact sndL 20 _ _ _ _ _ _ e (.cons (by simp [rows_len wdL_len] <;> omega) (.cons (by omega) (.cons (by first | rfl | omega) (.cons rfl (.cons (roomOk (by omega)) (.cons (List.nil_append _) (.cons (by first | rfl | simp) (.cons (by simp [rows_len wdL_len] <;> omega) .nil))))))))
def lg0L (_ : Unit) : List T := [nilS, i64 0]
theorem lg0L_len : ∀ v, (lg0L v).length = 2 := fun _ => rfl
theorem lg_le : ∀ (n : Nat), TLes (rows lg0L (List.replicate n ())) (rows lgL (List.replicate n ⟨[], 0⟩))
  | 0 => .nil
  | n + 1 => by
    simp only [List.replicate_succ, rows_cons, lg0L, lgL, List.cons_append, List.nil_append]
    exact .cons (bs_out stL []) (.cons (tle_refl _) (lg_le n))
theorem line_new0 (l : List Wd) (h0 : 0 < l.length) (hl : l.length ≤ 4096) : HoldsL 37 [(T.sl (rows wdL l) l.length false)] [(R.t (T.agg [(T.sl (rows wdL l) l.length false), (T.sl (rows lg0L (List.replicate ((l.length + 7) / 8) ())) ((l.length + 7) / 8) false), nilM])), (R.t (i64 0))] := by
  have e : runX Tryz.prog gG noF 20 37 [(T.sl (rows wdL l) l.length false)] [((37, 6), .res (.t (bl false))), ((37, 9), .call [(R.osl (rows wdL l) l.length 3)]), ((37, 12), .res (.t (i64 (((l.length : Nat) : Int) + 8)))), ((37, 13), .res (.t (i64 (((l.length : Nat) : Int) + 7)))), ((37, 14), .res (.t (i64 ((((l.length + 7) / 8) : Nat) : Int)))), ((37, 15), .mk ((l.length + 7) / 8) (List.map C.t (rows lg0L (List.replicate ((l.length + 7) / 8) ())))), ((37, 16), .fz [(1, (rows wdL l)), (5, (rows lg0L (List.replicate ((l.length + 7) / 8) ())))])] = some ([(R.t (T.agg [(T.sl (rows wdL l) l.length false), (T.sl (rows lg0L (List.replicate ((l.length + 7) / 8) ())) ((l.length + 7) / 8) false), nilM])), (R.t (i64 0))], [], [BinIs Tryz.prog .gtr 3 (.tmp 5) (.const (.int .i64 4096)) (.int .i64 ((l.length : Nat) : Int)) (.int .i64 4096) (.bool false),
      HoldsL 58 [(T.sl (rows wdL l) l.length false)] [(R.osl (rows wdL l) l.length 3)],
      BinIs Tryz.prog .add 3 (.tmp 11) (.const (.int .i64 8)) (.int .i64 ((l.length : Nat) : Int)) (.int .i64 8) (.int .i64 (((l.length : Nat) : Int) + 8)),
      BinIs Tryz.prog .sub 3 (.tmp 12) (.const (.int .i64 1)) (.int .i64 (((l.length : Nat) : Int) + 8)) (.int .i64 1) (.int .i64 (((l.length : Nat) : Int) + 7)),
      BinIs Tryz.prog .quo 3 (.tmp 13) (.const (.int .i64 8)) (.int .i64 (((l.length : Nat) : Int) + 7)) (.int .i64 8) (.int .i64 ((((l.length + 7) / 8) : Nat) : Int)),
      ((((l.length + 7) / 8) : Nat) : Int) = ((((l.length + 7) / 8) : Nat) : Int) ∧ ((((l.length + 7) / 8) : Nat) : Int) = ((((l.length + 7) / 8) : Nat) : Int) ∧ roomB ((l.length + 7) / 8) 32 = true ∧ [(C.t nilS), (C.t (i64 0))].length = 2,
      (List.replicate ((l.length + 7) / 8) [(C.t nilS), (C.t (i64 0))]).flatten = (List.map C.t (rows lg0L (List.replicate ((l.length + 7) / 8) ()))),
      (List.map C.t (rows wdL l)) = List.map C.t (rows wdL l),
      List.length (rows wdL l) = l.length * 3,
      (List.map C.t (rows lg0L (List.replicate ((l.length + 7) / 8) ()))) = List.map C.t (rows lg0L (List.replicate ((l.length + 7) / 8) ())),
      List.length (rows lg0L (List.replicate ((l.length + 7) / 8) ())) = ((l.length + 7) / 8) * 2]) := by kernel_rfl
  exact sndL 20 _ _ _ _ _ _ e (.cons (bCmp (d := decide (((l.length : Nat) : Int) > 4096)) (by unfold BinIs; kernel_rfl) (decide_eq_false (by omega))) (.cons (cloneWd l h0 (by omega)) (.cons (bAri (r := ((l.length : Nat) : Int) + 8) (by unfold BinIs; kernel_rfl) (by omega) (by omega) (by omega)) (.cons (bAri (r := (((l.length : Nat) : Int) + 8) - 1) (by unfold BinIs; kernel_rfl) (by omega) (by omega) (by omega)) (.cons (bAri (r := Int.tdiv (((l.length : Nat) : Int) + 7) 8) (by unfold BinIs; kernel_rfl) (by rw [Int.tdiv_eq_ediv_of_nonneg (by omega)]; omega) (by omega) (by omega)) (.cons ⟨rfl, rfl, roomOk (by omega), rfl⟩ (.cons (replRows () _ rfl) (.cons (by first | rfl | simp) (.cons (by simp [rows_len wdL_len] <;> omega) (.cons (by first | rfl | simp) (.cons (by simp [rows_len lg0L_len] <;> omega) .nil)))))))))))
def newQ (l : List Wd) : Mach := ⟨⟨l.map msg0, [[], [], []]⟩, l, List.replicate ((l.length + 7) / 8) ⟨[], 0⟩, nilM, [0, 0, 0], 0⟩
theorem mach_new0 (l : List Wd) (h0 : 0 < l.length) (hl : l.length ≤ 4096) : HoldsL 18 [(i64 3), (T.sl (rows wdL l) l.length false)] [(R.t (T.agg [(T.sl (rows histL (⟨l.map msg0, [[], [], []]⟩ : Mem).places) (⟨l.map msg0, [[], [], []]⟩ : Mem).places.length false), (T.sl (rows vwL (⟨l.map msg0, [[], [], []]⟩ : Mem).views) (⟨l.map msg0, [[], [], []]⟩ : Mem).views.length false), (T.sl (rows wdL l) l.length false), (T.sl (rows lg0L (List.replicate ((l.length + 7) / 8) ())) ((l.length + 7) / 8) false), nilM, (T.sl [(i64 0), (i64 0), (i64 0)] 3 false), (i64 0)])), (R.t (i64 0))] := by
  have e : runX Tryz.prog gG noF 20 18 [(i64 3), (T.sl (rows wdL l) l.length false)] [((18, 12), .call [(R.t (memT (⟨l.map msg0, [[], [], []]⟩ : Mem))), (R.t (i64 0))]), ((18, 21), .call [(R.t (T.agg [(T.sl (rows wdL l) l.length false), (T.sl (rows lg0L (List.replicate ((l.length + 7) / 8) ())) ((l.length + 7) / 8) false), nilM])), (R.t (i64 0))])] = some ([(R.t (T.agg [(T.sl (rows histL (⟨l.map msg0, [[], [], []]⟩ : Mem).places) (⟨l.map msg0, [[], [], []]⟩ : Mem).places.length false), (T.sl (rows vwL (⟨l.map msg0, [[], [], []]⟩ : Mem).views) (⟨l.map msg0, [[], [], []]⟩ : Mem).views.length false), (T.sl (rows wdL l) l.length false), (T.sl (rows lg0L (List.replicate ((l.length + 7) / 8) ())) ((l.length + 7) / 8) false), nilM, (T.sl [(i64 0), (i64 0), (i64 0)] 3 false), (i64 0)])), (R.t (i64 0))], [], [HoldsL 36 [(i64 3), (T.sl (rows wdL l) l.length false)] [(R.t (memT (⟨l.map msg0, [[], [], []]⟩ : Mem))), (R.t (i64 0))],
      HoldsL 37 [(T.sl (rows wdL l) l.length false)] [(R.t (T.agg [(T.sl (rows wdL l) l.length false), (T.sl (rows lg0L (List.replicate ((l.length + 7) / 8) ())) ((l.length + 7) / 8) false), nilM])), (R.t (i64 0))]]) := by kernel_rfl
  exact sndL 20 _ _ _ _ _ _ e (.cons (mem_new l h0 hl) (.cons (line_new0 l h0 hl) .nil))
theorem tle_nilM : TLe nilM (.box nilM) := tle_box fun h I v hr => by simp only [RT] at hr; rw [hr.1]; rfl
theorem mach_new (l : List Wd) (h0 : 0 < l.length) (hl : l.length ≤ 4096) : HoldsL 18 [i64 3, .sl (rows wdL l) l.length false] [.t (machT (newQ l)), .t (i64 0)] :=
  holds_res (.t (tle_agg (.cons (tle_refl _) (.cons (tle_refl _) (.cons (tle_refl _) (.cons (by simp only [newQ, List.length_replicate]; exact tle_sl (by simp [rows_len lg0L_len, rows_len lgL_len]) (lg_le _)) (.cons tle_nilM (TLes.refl _))))))) (.t (tle_refl _) .nil)) (mach_new0 l h0 hl)
end Go.Proofs.YtiegfchaepbnbaaGreatDoor
namespace Go.Proofs.YtiegfchaepbnbaaGreatDoor
open Go Go.RowKit Go.Va
set_option maxRecDepth 100000
set_option maxHeartbeats 400000
abbrev lay3 : T := .agg [i64 3, i64 8, i64 0]
theorem check3 : HoldsL 56 [lay3] [.t (i64 0)] := by
  have e : runX Tryz.prog gG noF 20 56 [lay3] [] = some ([.t (i64 0)], [], []) := by kernel_rfl
  exact sndL 20 _ _ _ _ _ _ e .nil
theorem era3 : HoldsL 33 [lay3] [.t (i64 1)] := by
  have e : runX Tryz.prog gG noF 20 33 [lay3] [] = some ([.t (i64 1)], [], []) := by kernel_rfl
  exact sndL 20 _ _ _ _ _ _ e .nil
theorem cell3 : HoldsL 15 [lay3, i64 0] [.t (i64 56)] := by
  have e : runX Tryz.prog gG noF 20 15 [lay3, i64 0] [] = some ([.t (i64 56)], [], []) := by kernel_rfl
  exact sndL 20 _ _ _ _ _ _ e .nil
theorem ann3_1 : HoldsL 146 [lay3, i64 1] [.t (i64 8)] := by
  have e : runX Tryz.prog gG noF 20 146 [lay3, i64 1] [] = some ([.t (i64 8)], [], []) := by kernel_rfl
  exact sndL 20 _ _ _ _ _ _ e .nil
theorem ann3_2 : HoldsL 146 [lay3, i64 2] [.t (i64 16)] := by
  have e : runX Tryz.prog gG noF 20 146 [lay3, i64 2] [] = some ([.t (i64 16)], [], []) := by kernel_rfl
  exact sndL 20 _ _ _ _ _ _ e .nil
theorem ann3_3 : HoldsL 146 [lay3, i64 3] [.t (i64 24)] := by
  have e : runX Tryz.prog gG noF 20 146 [lay3, i64 3] [] = some ([.t (i64 24)], [], []) := by kernel_rfl
  exact sndL 20 _ _ _ _ _ _ e .nil
end Go.Proofs.YtiegfchaepbnbaaGreatDoor
namespace Go.Proofs.YtiegfchaepbnbaaGreatDoor
open Go Go.RowKit Go.Va
set_option maxRecDepth 100000
set_option maxHeartbeats 400000
def upd {α : Type} (f : Nat → α) (a : Nat) (x : α) : Nat → α := fun i => if i = a then x else f i
theorem upd_same {α : Type} (f : Nat → α) (a : Nat) (x : α) : upd f a x a = x := if_pos rfl
theorem upd_other {α : Type} (f : Nat → α) {a i : Nat} (x : α) (h : i ≠ a) : upd f a x i = f i := if_neg h
structure MOk (q : Mach) (f : Nat → Wd) (n : Nat) : Prop where
  np : q.mem.places.length = 376
  last : ∀ ad, ad < 376 → ∃ h k x, q.mem.places[ad]? = some h ∧ h.length = k + 1 ∧ h[k]? = some x ∧ x.w = f ad ∧ h.length ≤ n + 1
  nv : q.mem.views.length = 3
  nl : q.logs.length = 47
  nf : q.first.length = 376
  lg : ∀ (j : Nat) (g : Lg), q.logs[j]? = some g → g.st.length ≤ n
  ns : q.steps.length = 3
  st : ∀ (j : Nat) (s : Int), q.steps[j]? = some s → 0 ≤ s ∧ s ≤ (n : Int)
theorem MOk.tick {q : Mach} {f : Nat → Wd} {n t : Nat} {s : Int} {m : Mem} (h : MOk q f n) (hs : q.steps[t]? = some s) (hp : m.places = q.mem.places) (hv : m.views.length = 3) : MOk (q.tick t s m) f (n + 1) where
  np := by simp only [Mach.tick, hp, h.np]
  last := fun ad ha => by
    obtain ⟨l, k, x, h1, h2, h3, h4, h5⟩ := h.last ad ha
    exact ⟨l, k, x, by simp only [Mach.tick, hp, h1], h2, h3, h4, by omega⟩
  nv := by simp only [Mach.tick, hv]
  nl := by simp only [Mach.tick, h.nl]
  nf := by simp only [Mach.tick, h.nf]
  lg := fun j g hj => by have := h.lg j g hj; omega
  ns := by simp only [Mach.tick, List.length_set, h.ns]
  st := fun j u hj => by
    simp only [Mach.tick] at hj
    by_cases hjt : t = j
    · subst hjt
      rw [List.getElem?_set_self (by have := (List.getElem?_eq_some_iff.1 hs).1; omega)] at hj
      have := h.st t s hs
      simp at hj
      omega
    · rw [List.getElem?_set_ne hjt] at hj
      have := h.st j u hj
      omega
theorem MOk.write {q : Mach} {f : Nat → Wd} {n t ad : Nat} {s : Int} {w : Wd} {g : Lg} {l : List Msg} {x : Msg} {vs : List Vw} (h : MOk q f n) (ha : ad < 376) (hs : q.steps[t]? = some s) (hl : q.mem.places[ad]? = some l) (hll : l.length ≤ n + 1) (hg : q.logs[ad / 8]? = some g) (hx : x.w = w) (hv : vs.length = 3) :
    MOk ((q.log ad w g).tick t s ⟨q.mem.places.set ad (l ++ [x]), vs⟩) (upd f ad w) (n + 1) where
  np := by simp only [Mach.tick, Mach.log, List.length_set, h.np]
  last := fun b hb => by
    by_cases hab : ad = b
    · subst hab
      exact ⟨l ++ [x], l.length, x, by simp only [Mach.tick, Mach.log]; rw [List.getElem?_set_self (by have := h.np; omega)], by simp, by simp, by rw [hx, upd_same], by simp; omega⟩
    · obtain ⟨m, k, y, h1, h2, h3, h4, h5⟩ := h.last b hb
      exact ⟨m, k, y, by simp only [Mach.tick, Mach.log]; rw [List.getElem?_set_ne hab]; exact h1, h2, h3, by rw [upd_other _ _ (Ne.symm hab)]; exact h4, by omega⟩
  nv := by simp only [Mach.tick, hv]
  nl := by simp only [Mach.tick, Mach.log, List.length_set, h.nl]
  nf := by simp only [Mach.tick, Mach.log, h.nf]
  lg := fun j u hj => by
    simp only [Mach.tick, Mach.log] at hj
    by_cases hjt : ad / 8 = j
    · subst hjt
      rw [List.getElem?_set_self (by have := h.nl; omega)] at hj
      have := h.lg _ g hg
      simp at hj
      subst hj
      simp; omega
    · rw [List.getElem?_set_ne hjt] at hj
      have := h.lg j u hj
      omega
  ns := by simp only [Mach.tick, Mach.log, List.length_set, h.ns]
  st := fun j u hj => by
    simp only [Mach.tick, Mach.log] at hj
    by_cases hjt : t = j
    · subst hjt
      rw [List.getElem?_set_self (by have := (List.getElem?_eq_some_iff.1 hs).1; omega)] at hj
      have := h.st t s hs
      simp at hj
      omega
    · rw [List.getElem?_set_ne hjt] at hj
      have := h.st j u hj
      omega
theorem MOk.look {q : Mach} {f : Nat → Wd} {n t ad : Nat} (h : MOk q f n) (hn : n < 90000) (ht : t < 3) (ha : ad < 376) : ∃ q', MOk q' f (n + 1) ∧ ∀ (o w : Wd) (c : Int), HoldsL 43 [machT q, i64 ((t + 1 : Nat) : Int), .agg (acL ⟨5, ad, o, w⟩), i64 c] [.t (machT q'), .t (.agg (gtL ⟨f ad, true⟩)), .t (i64 0)] := by
  obtain ⟨l, k, x, h1, h2, h3, h4, h5⟩ := h.last ad ha
  obtain ⟨v, hv⟩ : ∃ v, q.mem.views[t]? = some v := ⟨_, List.getElem?_eq_getElem (by rw [h.nv]; exact ht)⟩
  obtain ⟨s, hst⟩ : ∃ s, q.steps[t]? = some s := ⟨_, List.getElem?_eq_getElem (by rw [h.ns]; exact ht)⟩
  have hs := h.st t _ hst
  refine ⟨q.tick t s (q.mem.put t (vjoin (vwith v ad k) x.vw)), ?_, fun o w c => ?_⟩
  rotate_left
  · rw [← h4]
    exact do_look q t ad v l k x s o w c hv (by rw [h.nv]; omega) h1 (by rw [h.np]; omega) (by omega) h2 h3 hst hs.1 (by omega) (by rw [h.ns]; omega)
  · exact h.tick hst rfl (by simp only [Mem.put, List.length_set, h.nv])
theorem MOk.rest {q : Mach} {f : Nat → Wd} {n t : Nat} (h : MOk q f n) (hn : n < 90000) (ht : t < 3) : ∃ q', MOk q' f (n + 1) ∧ ∀ (c : Int), HoldsL 43 [machT q, i64 ((t + 1 : Nat) : Int), .agg (acL ac0), i64 c] [.t (machT q'), .t (.agg (gtL ⟨⟨0, 0, 0⟩, true⟩)), .t (i64 0)] := by
  obtain ⟨v, hv⟩ : ∃ v, q.mem.views[t]? = some v := ⟨_, List.getElem?_eq_getElem (by rw [h.nv]; exact ht)⟩
  obtain ⟨s, hst⟩ : ∃ s, q.steps[t]? = some s := ⟨_, List.getElem?_eq_getElem (by rw [h.ns]; exact ht)⟩
  have hs := h.st t _ hst
  refine ⟨q.tick t s q.mem, ?_, fun c => ?_⟩
  rotate_left
  · exact do_rest q t v s c hv (by rw [h.nv]; omega) hst hs.1 (by omega) (by rw [h.ns]; omega)
  · exact h.tick hst rfl h.nv
theorem MOk.release {q : Mach} {f : Nat → Wd} {n t ad : Nat} (h : MOk q f n) (hn : n < 90000) (ht : t < 3) (ha : ad < 375) (w : Wd) : ∃ q', MOk q' (upd f ad w) (n + 1) ∧ ∀ (o : Wd) (c : Int), HoldsL 43 [machT q, i64 ((t + 1 : Nat) : Int), .agg (acL ⟨4, ad, o, w⟩), i64 c] [.t (machT q'), .t (.agg (gtL ⟨⟨0, 0, 0⟩, true⟩)), .t (i64 0)] := by
  obtain ⟨l, k, x, h1, h2, h3, h4, h5⟩ := h.last ad (by omega)
  obtain ⟨v, hv⟩ : ∃ v, q.mem.views[t]? = some v := ⟨_, List.getElem?_eq_getElem (by rw [h.nv]; exact ht)⟩
  obtain ⟨s, hst⟩ : ∃ s, q.steps[t]? = some s := ⟨_, List.getElem?_eq_getElem (by rw [h.ns]; exact ht)⟩
  obtain ⟨g, hg⟩ : ∃ g, q.logs[ad / 8]? = some g := ⟨_, List.getElem?_eq_getElem (by rw [h.nl]; omega)⟩
  have hs := h.st t _ hst
  have hgl := h.lg _ _ hg
  refine ⟨(q.log ad w g).tick t s ((q.mem.add ad l ⟨w, ((t + 1 : Nat) : Int), (vwith v ad l.length)⟩).put t (vwith v ad l.length)), ?_, fun o c => ?_⟩
  rotate_left
  · exact do_release q t ad v l k x s o w c hv (by rw [h.nv]; omega) h1 (by rw [h.np]; omega) (by omega) h2 h3 hst hs.1 (by omega) (by rw [h.ns]; omega) g hg (by rw [h.nf]; omega) (by rw [h.nl]; omega) (by omega) (by rw [h.nf]; omega) (by rw [h.np]; omega)
  · exact h.write (by omega) hst h1 h5 hg rfl (by simp only [Mem.add, List.length_set, h.nv])
theorem MOk.swap {q : Mach} {f : Nat → Wd} {n t ad : Nat} (h : MOk q f n) (hn : n < 90000) (ht : t < 3) (ha : ad < 375) (o w : Wd) (ho : f ad = o) : ∃ q', MOk q' (upd f ad w) (n + 1) ∧ ∀ (c : Int), HoldsL 43 [machT q, i64 ((t + 1 : Nat) : Int), .agg (acL ⟨6, ad, o, w⟩), i64 c] [.t (machT q'), .t (.agg (gtL ⟨o, true⟩)), .t (i64 0)] := by
  obtain ⟨l, k, x, h1, h2, h3, h4, h5⟩ := h.last ad (by omega)
  obtain ⟨v, hv⟩ : ∃ v, q.mem.views[t]? = some v := ⟨_, List.getElem?_eq_getElem (by rw [h.nv]; exact ht)⟩
  obtain ⟨s, hst⟩ : ∃ s, q.steps[t]? = some s := ⟨_, List.getElem?_eq_getElem (by rw [h.ns]; exact ht)⟩
  obtain ⟨g, hg⟩ : ∃ g, q.logs[ad / 8]? = some g := ⟨_, List.getElem?_eq_getElem (by rw [h.nl]; omega)⟩
  have hs := h.st t _ hst
  have hgl := h.lg _ _ hg
  rw [← h4] at ho
  subst ho
  refine ⟨(q.log ad w g).tick t s (((q.mem.put t (vjoin (vwith v ad k) x.vw)).add ad l ⟨w, ((t + 1 : Nat) : Int), (vwith (vjoin (vwith v ad k) x.vw) ad l.length)⟩).put t (vwith (vjoin (vwith v ad k) x.vw) ad l.length)), ?_, fun c => ?_⟩
  rotate_left
  · exact do_swap1 q t ad v l k x s w c hv (by rw [h.nv]; omega) h1 (by rw [h.np]; omega) (by omega) h2 h3 hst hs.1 (by omega) (by rw [h.ns]; omega) g hg (by rw [h.nf]; omega) (by rw [h.nl]; omega) (by omega) (by rw [h.nf]; omega) (by rw [h.np]; omega)
  · exact h.write (by omega) hst h1 h5 hg rfl (by simp only [Mem.add, Mem.put, List.length_set, h.nv])
/-- The machine at the start. -/
def first0 (i : Nat) : Wd := if i = 1 then ⟨1, 0, 0⟩ else if i = 64 ∨ i = 168 ∨ i = 272 then ⟨2, 0, 0⟩ else if i = 56 then ⟨17, 0, 0⟩ else ⟨0, 0, 0⟩
def w0 : List Wd := (List.range 376).map first0
theorem q0_ok : MOk (newQ w0) first0 0 where
  np := by simp [newQ, w0]
  last := fun ad ha => ⟨msg0 (first0 ad), 0, ⟨first0 ad, 0, []⟩, by simp [newQ, w0, ha], rfl, rfl, rfl, by simp [msg0]⟩
  nv := rfl
  nl := by simp [newQ, w0]
  nf := by simp [newQ, w0]
  lg := fun j g hj => by
    have := List.mem_of_getElem? hj
    simp only [newQ] at this
    have := List.eq_of_mem_replicate this
    subst this; simp
  ns := rfl
  st := fun j s hj => by
    have := List.mem_of_getElem? hj
    simp [newQ] at this
    omega
end Go.Proofs.YtiegfchaepbnbaaGreatDoor
