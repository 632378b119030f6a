/- Awake. -/
import Derived.Test.YtiegfchaepbnbaaGreatDoorP29
namespace Go.Proofs.YtiegfchaepbnbaaGreatDoor
open Go Go.RowKit Go.Va
set_option maxRecDepth 100000
set_option maxHeartbeats 400000
theorem steps0 (c n : T) (a : Ac)  : HoldsL 13 [(T.agg [(T.box c), (T.box n), (i64 a.op), (i64 ((a.ad : Nat) : Int)), (i64 a.o.v), (u32 a.o.a), (u32 a.o.r), (i64 a.n.v), (u32 a.n.a), (u32 a.n.r), (bsT gtL [])])] [(R.t (i64 0))] := by
  have e : runX Tryz.prog gG noF 20 13 [(T.agg [(T.box c), (T.box n), (i64 a.op), (i64 ((a.ad : Nat) : Int)), (i64 a.o.v), (u32 a.o.a), (u32 a.o.r), (i64 a.n.v), (u32 a.n.a), (u32 a.n.r), (bsT gtL [])])] [((13, 4), .ub)] = some ([(R.t (i64 0))], [], []) := by kernel_rfl
  exact sndL 20 _ _ _ _ _ _ e (.nil)
theorem steps1 (c n : T) (a : Ac) (g : Gt) (gs : List Gt)  : HoldsL 13 [(T.agg [(T.box c), (T.box n), (i64 a.op), (i64 ((a.ad : Nat) : Int)), (i64 a.o.v), (u32 a.o.a), (u32 a.o.r), (i64 a.n.v), (u32 a.n.a), (u32 a.n.r), (bsT gtL (g :: gs))])] [(R.t (i64 (((gs.length + 1) : Nat) : Int)))] := by
  have e : runX Tryz.prog gG noF 20 13 [(T.agg [(T.box c), (T.box n), (i64 a.op), (i64 ((a.ad : Nat) : Int)), (i64 a.o.v), (u32 a.o.a), (u32 a.o.r), (i64 a.n.v), (u32 a.n.a), (u32 a.n.r), (bsT gtL (g :: gs))])] [((13, 4), .ub)] = some ([(R.t (i64 (((gs.length + 1) : Nat) : Int)))], [], []) := by kernel_rfl
  exact sndL 20 _ _ _ _ _ _ e (.nil)
theorem steps_holds (k : TK) : HoldsL 13 [.agg (tkL k)] [.t (i64 ((k.gots.length : Nat) : Int))] := by
  obtain ⟨c, n, a, g⟩ := k
  cases g with
  | nil => exact steps0 c n a
  | cons x g => exact steps1 c n a x g
theorem mach_word (q : Mach) (ad : Nat) (h : List Msg) (k : Nat) (x : Msg) (hp : q.mem.places[ad]? = some h) (hpl : q.mem.places.length ≤ 4096) (hhl : h.length ≤ 100000) (hk : h.length = k + 1) (hx : h[k]? = some x) : HoldsL 14 [(machT q), (i64 ((ad : Nat) : Int))] [(R.t (T.agg [(i64 x.w.v), (u32 x.w.a), (u32 x.w.r)])), (R.t (bl true))] := by
  have e : runX Tryz.prog gG noF 20 14 [(machT q), (i64 ((ad : Nat) : Int))] [((14, 9), .call [(R.t (T.agg [(i64 x.w.v), (u32 x.w.a), (u32 x.w.r)])), (R.t (bl true))])] = some ([(R.t (T.agg [(i64 x.w.v), (u32 x.w.a), (u32 x.w.r)])), (R.t (bl true))], [], [HoldsL 29 [(T.agg [(T.sl (rows histL q.mem.places) q.mem.places.length false), (T.sl (rows vwL q.mem.views) q.mem.views.length false)]), (i64 ((ad : Nat) : Int))] [(R.t (T.agg [(i64 x.w.v), (u32 x.w.a), (u32 x.w.r)])), (R.t (bl true))]]) := by kernel_rfl
  exact sndL 20 _ _ _ _ _ _ e (.cons (mem_last q.mem ad h k x hp hpl hhl hk hx) .nil)
theorem MOk.word {q : Mach} {f : Nat → Wd} {n ad : Nat} (h : MOk q f n) (hn : n < 90000) (ha : ad < 376) : HoldsL 14 [machT q, i64 ((ad : Nat) : Int)] [.t (.agg (wdL (f ad))), .t (bl true)] := by
  obtain ⟨l, k, x, h1, h2, h3, h4, h5⟩ := h.last ad ha
  rw [← h4]
  exact mach_word q ad l k x h1 (by rw [h.np]; omega) (by omega) h2 h3
def WR.sweeps (w : WR) : Bool := match w.c with
  | .u4 => decide (2 ≤ w.seen.length)
  | _ => false
theorem next_gn (w : WR) (g : Gt) (gn : List Int) (h : w.sweeps = false) : w.next g gn = w.next g [] := by
  obtain ⟨c, oc, ops, bag, free, gen, birth, root, old, seen⟩ := w
  cases c with
  | u4 =>
    simp only [WR.sweeps, decide_eq_false_iff_not] at h
    simp only [WR.next]
    rw [if_pos (by omega), if_pos (by omega)]
  | u1 => cases free with
    | nil => rfl
    | cons b fr => rfl
  | _ => rfl
def gnOf (i : Nat) : List Int := if i = 5 then [0] else if i = 13 then [1] else []
def traj : Nat → ES
  | 0 => startS false [1, 0, 1] 0 0
  | i + 1 => (traj i).goW (gnOf i)
theorem traj_fin : ∀ i, i < 14 → (traj i).w.fin = false := by decide +kernel
theorem traj_sw : ∀ i, i < 14 → i ≠ 5 → i ≠ 13 → (traj i).w.sweeps = false := by decide +kernel
theorem traj_5 : ((traj 5).w.bag.filter fun i => !wayB i ((traj 5).w.seen ++ [(gotOf (traj 5).f (traj 5).w.act).w.v])).map It.b = [0] := by decide +kernel
theorem traj_13 : ((traj 13).w.bag.filter fun i => !wayB i ((traj 13).w.seen ++ [(gotOf (traj 13).f (traj 13).w.act).w.v])).map It.b = [1] := by decide +kernel
theorem traj_14 : (traj 14).w.fin = true ∧ (traj 14).w.root.v = 19 ∧ (traj 14).w.free.length = 3 ∧ (traj 14).w.bag.length = 0 := by decide +kernel
theorem c_of_fin {w : WR} (h : w.fin = false) : w.c ≠ .fin := by intro hh; rw [fin_w' hh] at h; cases h
theorem c_of_fin' {w : WR} (h : w.fin = true) : w.c = .fin := by
  unfold WR.fin at h
  split at h
  · assumption
  · cases h
theorem traj_u4 (i : Nat) (h : (traj i).w.sweeps = true) : (traj i).w.c = .u4 ∧ 2 ≤ (traj i).w.seen.length := by
  unfold WR.sweeps at h
  split at h
  · exact ⟨by assumption, of_decide_eq_true h⟩
  · cases h
theorem traj_step (i : Nat) (hi : i < 14) (x : Wld) (hx : WOk x (traj i) i i) (hs : SInv (traj i) (i + 1 : Nat)) : ∃ x', WOk x' (traj (i + 1)) (i + 1) (i + 1) ∧ SInv (traj (i + 1)) (i + 1 + 1 : Nat) ∧ ∀ c, stepT x 1 c x' true := by
  obtain ⟨x', gn, g1, g2, g3, g4⟩ := step_W hx hs (by omega) (c_of_fin (traj_fin i hi))
  have e : (traj i).goW gn = traj (i + 1) := by
    show ES.goW (traj i) gn = ES.goW (traj i) (gnOf i)
    by_cases h5 : i = 5
    · subst h5
      have := traj_u4 5 (by decide +kernel)
      have hp := g3 this.1 this.2
      unfold swept at hp
      rw [traj_5] at hp
      rw [List.perm_singleton.1 hp]; rfl
    · by_cases h13 : i = 13
      · subst h13
        have := traj_u4 13 (by decide +kernel)
        have hp := g3 this.1 this.2
        unfold swept at hp
        rw [traj_13] at hp
        rw [List.perm_singleton.1 hp]; rfl
      · unfold ES.goW gnOf
        rw [if_neg h5, if_neg h13, next_gn _ _ gn (traj_sw i hi h5 h13)]
  rw [e] at g1 g2
  exact ⟨x', g1, g2, g4⟩
theorem traj_run : ∀ k, k ≤ 14 → ∃ w : Nat → Wld, w 0 = startX (traj 0) ∧ (∀ i, i ≤ k → WOk (w i) (traj i) i i ∧ SInv (traj i) (i + 1 : Nat)) ∧ ∀ i, i < k → ∀ c, stepT (w i) 1 c (w (i + 1)) true
  | 0, _ => ⟨fun _ => startX (traj 0), rfl, fun i hi => by
      have : i = 0 := by omega
      subst this
      exact ⟨wok00 false [1, 0, 1] 0 0, sinv00 false [1, 0, 1] 0 0 (by decide) (by decide)⟩, fun i hi => by omega⟩
  | k + 1, hk => by
    obtain ⟨w, h0, h1, h2⟩ := traj_run k (by omega)
    obtain ⟨x', g1, g2, g3⟩ := traj_step k (by omega) (w k) (h1 k (Nat.le_refl _)).1 (h1 k (Nat.le_refl _)).2
    refine ⟨fun i => if i = k + 1 then x' else w i, by simp only; rw [if_neg (by omega)]; exact h0, fun i hi => ?_, fun i hi c => ?_⟩
    · by_cases hik : i = k + 1
      · subst hik; simp only [if_true]; exact ⟨g1, g2⟩
      · simp only [if_neg hik]; exact h1 i (by omega)
    · by_cases hik : i = k
      · subst hik
        simp only [if_true]; rw [if_neg (by omega)]; exact g3 c
      · simp only; rw [if_neg (by omega), if_neg (by omega)]; exact h2 i (by omega) c
theorem aw_run (wa : Wld) (va vr : Int) (w : Wld) (wr : WR) (nx : T) (ac : Ac) (gl : List Gt) (htl : w.tasks.length = 3) (hk : w.tasks[0]? = some ⟨.ifc 68 (T.agg [(i64 3), (i64 8), (i64 0), (T.box wr.oc), (i64 0), nilI, (bsT itL wr.bag), (T.sl (rows i1L wr.free) wr.free.length false), (i64 (wr.gen 0)), (i64 (wr.gen 1)), (i64 (wr.gen 2)), (i64 (wr.gen 3)), (i64 (wr.birth 0)), (i64 (wr.birth 1)), (i64 (wr.birth 2)), (i64 (wr.birth 3)), (i64 wr.root.v), (u32 wr.root.a), (u32 wr.root.r), (i64 wr.old), (bsT i1L wr.seen), (bl false)]), nx, ac, gl⟩) (hew : HoldsL 5 [(T.sl [(T.lit (.int .u8 1)), (T.lit (.int .u8 0)), (T.lit (.int .u8 1))] 3 false), .agg [.lit (.int .u8 0), .lit (.int .u8 0)]] [.t (worldT wa), .t (bl true)]) (hal : HoldsL 12 [worldT wa, i64 1, i64 100] [.t (worldT w), .t (bl true)])
  (hst : HoldsL 13 [.agg (tkL ⟨.ifc 68 (T.agg [(i64 3), (i64 8), (i64 0), (T.box wr.oc), (i64 0), nilI, (bsT itL wr.bag), (T.sl (rows i1L wr.free) wr.free.length false), (i64 (wr.gen 0)), (i64 (wr.gen 1)), (i64 (wr.gen 2)), (i64 (wr.gen 3)), (i64 (wr.birth 0)), (i64 (wr.birth 1)), (i64 (wr.birth 2)), (i64 (wr.birth 3)), (i64 wr.root.v), (u32 wr.root.a), (u32 wr.root.r), (i64 wr.old), (bsT i1L wr.seen), (bl false)]), nx, ac, gl⟩)] [.t (i64 14)]) (hwd : HoldsL 14 [machT w.q, i64 56] [.t (.agg [i64 19, u32 va, u32 vr]), .t (bl true)]) (hf3 : wr.free.length = 3) (hb0 : wr.bag.length = 0) : HoldsL 4 [] [(R.t (bl true))] := by
  have e : runX Tryz.prog gG noF 20 4 [] [((4, 11), .call [(R.t (worldT wa)), (R.t (bl true))]), ((4, 16), .call [(R.t (worldT w)), (R.t (bl true))]), ((4, 28), .res (C.t (T.ptr (rows tkL w.tasks) (0 * 11)))), ((4, 29), .res (C.agg [(C.t (T.box (T.ifc 68 (T.agg [(i64 3), (i64 8), (i64 0), (T.box wr.oc), (i64 0), nilI, (bsT itL wr.bag), (T.sl (rows i1L wr.free) wr.free.length false), (i64 (wr.gen 0)), (i64 (wr.gen 1)), (i64 (wr.gen 2)), (i64 (wr.gen 3)), (i64 (wr.birth 0)), (i64 (wr.birth 1)), (i64 (wr.birth 2)), (i64 (wr.birth 3)), (i64 wr.root.v), (u32 wr.root.a), (u32 wr.root.r), (i64 wr.old), (bsT i1L wr.seen), (bl false)])))), (C.t (T.box nx)), (C.t (i64 ac.op)), (C.t (i64 ((ac.ad : Nat) : Int))), (C.t (i64 ac.o.v)), (C.t (u32 ac.o.a)), (C.t (u32 ac.o.r)), (C.t (i64 ac.n.v)), (C.t (u32 ac.n.a)), (C.t (u32 ac.n.r)), (C.t (bsT gtL gl))])), ((4, 30), .call [(R.t (i64 14))]), ((4, 36), .res (C.t (T.ptr (rows tkL w.tasks) (0 * 11)))), ((4, 37), .res (C.agg [(C.t (T.box (T.ifc 68 (T.agg [(i64 3), (i64 8), (i64 0), (T.box wr.oc), (i64 0), nilI, (bsT itL wr.bag), (T.sl (rows i1L wr.free) wr.free.length false), (i64 (wr.gen 0)), (i64 (wr.gen 1)), (i64 (wr.gen 2)), (i64 (wr.gen 3)), (i64 (wr.birth 0)), (i64 (wr.birth 1)), (i64 (wr.birth 2)), (i64 (wr.birth 3)), (i64 wr.root.v), (u32 wr.root.a), (u32 wr.root.r), (i64 wr.old), (bsT i1L wr.seen), (bl false)])))), (C.t (T.box nx)), (C.t (i64 ac.op)), (C.t (i64 ((ac.ad : Nat) : Int))), (C.t (i64 ac.o.v)), (C.t (u32 ac.o.a)), (C.t (u32 ac.o.r)), (C.t (i64 ac.n.v)), (C.t (u32 ac.n.a)), (C.t (u32 ac.n.r)), (C.t (bsT gtL gl))])), ((9, 4), .ub), ((4, 47), .call [(R.t (i64 56))]), ((4, 48), .call [(R.t (T.agg [(i64 19), (u32 va), (u32 vr)])), (R.t (bl true))]), ((4, 61), .res (.t (bl true))), ((4, 66), .call [(R.t (i64 ((wr.bag.length : Nat) : Int)))]), ((4, 67), .res (.t (bl true)))] = some ([(R.t (bl true))], [], [HoldsL 5 [(T.sl [(T.lit (.int .u8 1)), (T.lit (.int .u8 0)), (T.lit (.int .u8 1))] 3 false), (T.agg [(T.lit (.int .u8 0)), (T.lit (.int .u8 0))])] [(R.t (worldT wa)), (R.t (bl true))],
      HoldsL 12 [(worldT wa), (i64 1), (i64 100)] [(R.t (worldT w)), (R.t (bl true))],
      indexAddrC Tryz.prog 38 (.t (T.sl (rows tkL w.tasks) w.tasks.length false)) 0 = some ⟨(C.t (T.ptr (rows tkL w.tasks) (0 * 11))), [], []⟩,
      partC Tryz.prog 59 (List.map C.t (rows tkL w.tasks)) (0 * 11) = some (C.agg [(C.t (T.box (T.ifc 68 (T.agg [(i64 3), (i64 8), (i64 0), (T.box wr.oc), (i64 0), nilI, (bsT itL wr.bag), (T.sl (rows i1L wr.free) wr.free.length false), (i64 (wr.gen 0)), (i64 (wr.gen 1)), (i64 (wr.gen 2)), (i64 (wr.gen 3)), (i64 (wr.birth 0)), (i64 (wr.birth 1)), (i64 (wr.birth 2)), (i64 (wr.birth 3)), (i64 wr.root.v), (u32 wr.root.a), (u32 wr.root.r), (i64 wr.old), (bsT i1L wr.seen), (bl false)])))), (C.t (T.box nx)), (C.t (i64 ac.op)), (C.t (i64 ((ac.ad : Nat) : Int))), (C.t (i64 ac.o.v)), (C.t (u32 ac.o.a)), (C.t (u32 ac.o.r)), (C.t (i64 ac.n.v)), (C.t (u32 ac.n.a)), (C.t (u32 ac.n.r)), (C.t (bsT gtL gl))]),
      HoldsL 13 [(T.agg [(T.box (T.ifc 68 (T.agg [(i64 3), (i64 8), (i64 0), (T.box wr.oc), (i64 0), nilI, (bsT itL wr.bag), (T.sl (rows i1L wr.free) wr.free.length false), (i64 (wr.gen 0)), (i64 (wr.gen 1)), (i64 (wr.gen 2)), (i64 (wr.gen 3)), (i64 (wr.birth 0)), (i64 (wr.birth 1)), (i64 (wr.birth 2)), (i64 (wr.birth 3)), (i64 wr.root.v), (u32 wr.root.a), (u32 wr.root.r), (i64 wr.old), (bsT i1L wr.seen), (bl false)]))), (T.box nx), (i64 ac.op), (i64 ((ac.ad : Nat) : Int)), (i64 ac.o.v), (u32 ac.o.a), (u32 ac.o.r), (i64 ac.n.v), (u32 ac.n.a), (u32 ac.n.r), (bsT gtL gl)])] [(R.t (i64 14))],
      indexAddrC Tryz.prog 38 (.t (T.sl (rows tkL w.tasks) w.tasks.length false)) 0 = some ⟨(C.t (T.ptr (rows tkL w.tasks) (0 * 11))), [], []⟩,
      partC Tryz.prog 59 (List.map C.t (rows tkL w.tasks)) (0 * 11) = some (C.agg [(C.t (T.box (T.ifc 68 (T.agg [(i64 3), (i64 8), (i64 0), (T.box wr.oc), (i64 0), nilI, (bsT itL wr.bag), (T.sl (rows i1L wr.free) wr.free.length false), (i64 (wr.gen 0)), (i64 (wr.gen 1)), (i64 (wr.gen 2)), (i64 (wr.gen 3)), (i64 (wr.birth 0)), (i64 (wr.birth 1)), (i64 (wr.birth 2)), (i64 (wr.birth 3)), (i64 wr.root.v), (u32 wr.root.a), (u32 wr.root.r), (i64 wr.old), (bsT i1L wr.seen), (bl false)])))), (C.t (T.box nx)), (C.t (i64 ac.op)), (C.t (i64 ((ac.ad : Nat) : Int))), (C.t (i64 ac.o.v)), (C.t (u32 ac.o.a)), (C.t (u32 ac.o.r)), (C.t (i64 ac.n.v)), (C.t (u32 ac.n.a)), (C.t (u32 ac.n.r)), (C.t (bsT gtL gl))]),
      HoldsL 15 [(T.agg [(i64 3), (i64 8), (i64 0)]), (i64 0)] [(R.t (i64 56))],
      HoldsL 14 [(T.agg [(T.sl (rows histL w.q.mem.places) w.q.mem.places.length false), (T.sl (rows vwL w.q.mem.views) w.q.mem.views.length false), (T.sl (rows wdL w.q.first) w.q.first.length false), (T.sl (rows lgL w.q.logs) w.q.logs.length false), (T.box w.q.asks), (T.sl (rows i1L w.q.steps) w.q.steps.length false), (i64 w.q.crashes)]), (i64 56)] [(R.t (T.agg [(i64 19), (u32 va), (u32 vr)])), (R.t (bl true))],
      BinIs Tryz.prog .eql 3 (.tmp 60) (.const (.int .i64 3)) (.int .i64 ((wr.free.length : Nat) : Int)) (.int .i64 3) (.bool true),
      HoldsL 11 [(T.agg [(bsT itL wr.bag)])] [(R.t (i64 ((wr.bag.length : Nat) : Int)))],
      BinIs Tryz.prog .eql 3 (.tmp 66) (.const (.int .i64 0)) (.int .i64 ((wr.bag.length : Nat) : Int)) (.int .i64 0) (.bool true)]) := by kernel_rfl
  exact sndL 20 _ _ _ _ _ _ e (.cons hew (.cons hal (.cons (ixSl (elem := 59) (k := 11) (by kernel_rfl) (by kernel_rfl) (by omega) (by omega) (by first | omega | simp)) (.cons (partAgg (s := 11) (by kernel_rfl) (by kernel_rfl) tkL_len hk (j := 0) (by decide) rfl) (.cons hst (.cons (ixSl (elem := 59) (k := 11) (by kernel_rfl) (by kernel_rfl) (by omega) (by omega) (by first | omega | simp)) (.cons (partAgg (s := 11) (by kernel_rfl) (by kernel_rfl) tkL_len hk (j := 0) (by decide) rfl) (.cons cell3 (.cons hwd (.cons (bCmp (d := (((wr.free.length : Nat) : Int) == 3)) (by unfold BinIs; kernel_rfl) (eqT (by omega))) (.cons (bag_len _) (.cons (bCmp (d := (((wr.bag.length : Nat) : Int) == 0)) (by unfold BinIs; kernel_rfl) (eqT (by omega))) .nil))))))))))))
theorem awake_true : HoldsL 4 [] [.t (bl true)] := by
  obtain ⟨w, h0, h1, h2⟩ := traj_run 14 (Nat.le_refl _)
  obtain ⟨hx, hs⟩ := h1 14 (Nat.le_refl _)
  obtain ⟨f1, f2, f3, f4⟩ := traj_14
  have hc := c_of_fin' f1
  have hx0 := (h1 0 (by omega)).1
  obtain ⟨l0, l1, l2, t1, t2, t3, t4⟩ := hx.tasks
  obtain ⟨m0, m1, m2, u1, u2, u3, u4⟩ := hx0.tasks
  have htl : (w 14).tasks.length = 3 := by rw [t1]; rfl
  have e1 : (traj 14).w.phase = 0 := by unfold WR.phase; rw [hc]
  have e2 : (traj 14).w.now = nilI := by unfold WR.now; rw [hc]
  have hk : (w 14).tasks[0]? = some ⟨.ifc tyW ((T.agg [(i64 3), (i64 8), (i64 0), (T.box (traj 14).w.oc), (i64 0), nilI, (bsT itL (traj 14).w.bag), (T.sl (rows i1L (traj 14).w.free) (traj 14).w.free.length false), (i64 ((traj 14).w.gen 0)), (i64 ((traj 14).w.gen 1)), (i64 ((traj 14).w.gen 2)), (i64 ((traj 14).w.gen 3)), (i64 ((traj 14).w.birth 0)), (i64 ((traj 14).w.birth 1)), (i64 ((traj 14).w.birth 2)), (i64 ((traj 14).w.birth 3)), (i64 (traj 14).w.root.v), (u32 (traj 14).w.root.a), (u32 (traj 14).w.root.r), (i64 (traj 14).w.old), (bsT i1L (traj 14).w.seen), (bl false)])), nilF, ac0, l0⟩ := by
    rw [t1]
    show some (tkW (traj 14) l0) = _
    simp only [tkW, fin_w' hc, told, wtT, e1, e2]
    rfl
  have hdn : HoldsL 8 [.agg (tkL (tkW (traj 14) l0))] [.t (bl true)] := by
    have := done_told tyW (wtT (traj 14).w) (traj 14).w.act true l0
    simp only [tkW, f1]; exact this
  have hal := alone_holds w 0 100 14 (by omega) (by omega) (fun i hi => h2 i hi 0) (.inr ⟨w 14, wstay (w 14) (traj 14).f 14 0 tyW (wtT (traj 14).w) (traj 14).w.act l0 hx.q (by omega) (by rw [t1]; simp only [tkW, f1]; rfl) htl hx.stopped 0⟩)
    (by rw [hx0.stopped]; rfl) (by rw [u1]; simp) (by rw [u1]; simp) (tkW (traj 14) l0) true (by rw [t1]; rfl) (by omega) hdn
  have hrt := hs.w.rt
  rw [hc] at hrt
  have hwd := hx.q.word (ad := 56) (by omega) (by omega)
  have hv : ((traj 14).f 56).v = 19 := by rw [hrt]; exact f2
  have hwd2 : wdL ((traj 14).f 56) = [i64 19, u32 ((traj 14).f 56).a, u32 ((traj 14).f 56).r] := by unfold wdL; rw [hv]
  rw [hwd2] at hwd
  have hst := steps_holds ⟨.ifc tyW ((T.agg [(i64 3), (i64 8), (i64 0), (T.box (traj 14).w.oc), (i64 0), nilI, (bsT itL (traj 14).w.bag), (T.sl (rows i1L (traj 14).w.free) (traj 14).w.free.length false), (i64 ((traj 14).w.gen 0)), (i64 ((traj 14).w.gen 1)), (i64 ((traj 14).w.gen 2)), (i64 ((traj 14).w.gen 3)), (i64 ((traj 14).w.birth 0)), (i64 ((traj 14).w.birth 1)), (i64 ((traj 14).w.birth 2)), (i64 ((traj 14).w.birth 3)), (i64 (traj 14).w.root.v), (u32 (traj 14).w.root.a), (u32 (traj 14).w.root.r), (i64 (traj 14).w.old), (bsT i1L (traj 14).w.seen), (bl false)])), nilF, ac0, l0⟩
  have hl14 : (⟨.ifc tyW ((T.agg [(i64 3), (i64 8), (i64 0), (T.box (traj 14).w.oc), (i64 0), nilI, (bsT itL (traj 14).w.bag), (T.sl (rows i1L (traj 14).w.free) (traj 14).w.free.length false), (i64 ((traj 14).w.gen 0)), (i64 ((traj 14).w.gen 1)), (i64 ((traj 14).w.gen 2)), (i64 ((traj 14).w.gen 3)), (i64 ((traj 14).w.birth 0)), (i64 ((traj 14).w.birth 1)), (i64 ((traj 14).w.birth 2)), (i64 ((traj 14).w.birth 3)), (i64 (traj 14).w.root.v), (u32 (traj 14).w.root.a), (u32 (traj 14).w.root.r), (i64 (traj 14).w.old), (bsT i1L (traj 14).w.seen), (bl false)])), nilF, ac0, l0⟩ : TK).gots.length = 14 := t2
  rw [hl14] at hst
  exact aw_run (w 0) _ _ (w 14) (traj 14).w nilF ac0 l0 htl hk (by rw [h0]; exact epochWorld_holds false [1, 0, 1] 0 0) hal hst hwd f3 f4
end Go.Proofs.YtiegfchaepbnbaaGreatDoor
