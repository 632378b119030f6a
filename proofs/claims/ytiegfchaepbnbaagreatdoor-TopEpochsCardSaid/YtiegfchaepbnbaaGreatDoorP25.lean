/- epochSafe, joined. The world at the start. -/
import Derived.Test.YtiegfchaepbnbaaGreatDoorP24
namespace Go.Proofs.YtiegfchaepbnbaaGreatDoor
open Go Go.RowKit Go.Va
set_option maxRecDepth 100000
set_option maxHeartbeats 400000
theorem tle_box' {x y : T} (h : TLe x y) : TLe (.box x) (.box y) := fun hp I v hr => by
  simp only [RT] at hr ⊢
  exact ⟨h _ _ _ hr.1, hr.2⟩
theorem tle_nilI : TLe nilI (.box nilI) := tle_box fun h I v hr => by simp only [RT] at hr; rw [hr.1]; rfl
def HeldOk (w : WR) (h : Int) : Prop := h = 0 ∨ ∃ b g : Int, h = g * 16 + b + 1 ∧ (b = 0 ∨ b = 1 ∨ b = 2 ∨ b = 3) ∧ 0 ≤ g ∧ g ≤ 100000 ∧ w.gen b.toNat = g ∧ b ∉ w.free
theorem safe_core (w : Wld) (wr : WR) (oc n0 nx0 n1 nx1 n2 nx2 : T) (a0 a1 a2 : Ac) (l0 l1 l2 : List Gt) (ph lf1 ph1 rs1 er1 fd1 lf2 ph2 rs2 er2 fd2 x1 x2 : Int) (hf : wr.free.length ≤ 3) (h1 : HeldOk wr x1) (h2 : HeldOk wr x2) :
    HoldsL 7 [(T.agg [(T.sl (rows histL w.q.mem.places) w.q.mem.places.length false), (T.sl (rows vwL w.q.mem.views) w.q.mem.views.length false), (T.sl (rows wdL w.q.first) w.q.first.length false), (T.sl (rows lgL w.q.logs) w.q.logs.length false), (T.box w.q.asks), (T.sl (rows i1L w.q.steps) w.q.steps.length false), (i64 w.q.crashes), (T.sl [(T.box (T.ifc 68 (T.agg [(i64 3), (i64 8), (i64 0), (T.box oc), (i64 ph), (T.box n0), (bsT itL wr.bag), (T.sl (rows i1L wr.free) wr.free.length false), (i64 (wr.gen 0)), (i64 (wr.gen 1)), (i64 (wr.gen 2)), (i64 (wr.gen 3)), (i64 (wr.birth 0)), (i64 (wr.birth 1)), (i64 (wr.birth 2)), (i64 (wr.birth 3)), (i64 wr.root.v), (u32 wr.root.a), (u32 wr.root.r), (i64 wr.old), (bsT i1L wr.seen), (bl false)]))), (T.box nx0), (i64 a0.op), (i64 ((a0.ad : Nat) : Int)), (i64 a0.o.v), (u32 a0.o.a), (u32 a0.o.r), (i64 a0.n.v), (u32 a0.n.a), (u32 a0.n.r), (bsT gtL l0), (T.box (T.ifc 87 (T.agg [(i64 3), (i64 8), (i64 0), (i64 2), (i64 lf1), (i64 ph1), (i64 rs1), (T.box n1), (i64 er1), (i64 fd1), (i64 x1)]))), (T.box nx1), (i64 a1.op), (i64 ((a1.ad : Nat) : Int)), (i64 a1.o.v), (u32 a1.o.a), (u32 a1.o.r), (i64 a1.n.v), (u32 a1.n.a), (u32 a1.n.r), (bsT gtL l1), (T.box (T.ifc 87 (T.agg [(i64 3), (i64 8), (i64 0), (i64 3), (i64 lf2), (i64 ph2), (i64 rs2), (T.box n2), (i64 er2), (i64 fd2), (i64 x2)]))), (T.box nx2), (i64 a2.op), (i64 ((a2.ad : Nat) : Int)), (i64 a2.o.v), (u32 a2.o.a), (u32 a2.o.r), (i64 a2.n.v), (u32 a2.n.a), (u32 a2.n.r), (bsT gtL l2)] 3 false), (T.sl (rows b1L w.stopped) w.stopped.length false)])] [.t (bl true)] := by
  rcases h1 with h1 | ⟨b1, g1, e1, (rfl | rfl | rfl | rfl), p1, q1, k1, f1⟩
  · rcases h2 with h2 | ⟨b2, g2, e2, (rfl | rfl | rfl | rfl), p2, q2, k2, f2⟩
    · exact safe_nn w oc n0 nx0 n1 nx1 n2 nx2 a0 a1 a2 l0 l1 l2 wr.bag wr.free wr.seen ph (wr.gen 0) (wr.gen 1) (wr.gen 2) (wr.gen 3) (wr.birth 0) (wr.birth 1) (wr.birth 2) (wr.birth 3) wr.root.v wr.root.a wr.root.r wr.old lf1 ph1 rs1 er1 fd1 lf2 ph2 rs2 er2 fd2 x1 h1 x2 h2
    · exact safe_n0 w oc n0 nx0 n1 nx1 n2 nx2 a0 a1 a2 l0 l1 l2 wr.bag wr.free wr.seen ph (wr.gen 0) (wr.gen 1) (wr.gen 2) (wr.gen 3) (wr.birth 0) (wr.birth 1) (wr.birth 2) (wr.birth 3) wr.root.v wr.root.a wr.root.r wr.old lf1 ph1 rs1 er1 fd1 lf2 ph2 rs2 er2 fd2 x1 h1 x2 g2 e2 p2 q2 k2 (contains_no wr.free 0 hf f2)
    · exact safe_n1 w oc n0 nx0 n1 nx1 n2 nx2 a0 a1 a2 l0 l1 l2 wr.bag wr.free wr.seen ph (wr.gen 0) (wr.gen 1) (wr.gen 2) (wr.gen 3) (wr.birth 0) (wr.birth 1) (wr.birth 2) (wr.birth 3) wr.root.v wr.root.a wr.root.r wr.old lf1 ph1 rs1 er1 fd1 lf2 ph2 rs2 er2 fd2 x1 h1 x2 g2 e2 p2 q2 k2 (contains_no wr.free 1 hf f2)
    · exact safe_n2 w oc n0 nx0 n1 nx1 n2 nx2 a0 a1 a2 l0 l1 l2 wr.bag wr.free wr.seen ph (wr.gen 0) (wr.gen 1) (wr.gen 2) (wr.gen 3) (wr.birth 0) (wr.birth 1) (wr.birth 2) (wr.birth 3) wr.root.v wr.root.a wr.root.r wr.old lf1 ph1 rs1 er1 fd1 lf2 ph2 rs2 er2 fd2 x1 h1 x2 g2 e2 p2 q2 k2 (contains_no wr.free 2 hf f2)
    · exact safe_n3 w oc n0 nx0 n1 nx1 n2 nx2 a0 a1 a2 l0 l1 l2 wr.bag wr.free wr.seen ph (wr.gen 0) (wr.gen 1) (wr.gen 2) (wr.gen 3) (wr.birth 0) (wr.birth 1) (wr.birth 2) (wr.birth 3) wr.root.v wr.root.a wr.root.r wr.old lf1 ph1 rs1 er1 fd1 lf2 ph2 rs2 er2 fd2 x1 h1 x2 g2 e2 p2 q2 k2 (contains_no wr.free 3 hf f2)
  · rcases h2 with h2 | ⟨b2, g2, e2, (rfl | rfl | rfl | rfl), p2, q2, k2, f2⟩
    · exact safe_0n w oc n0 nx0 n1 nx1 n2 nx2 a0 a1 a2 l0 l1 l2 wr.bag wr.free wr.seen ph (wr.gen 0) (wr.gen 1) (wr.gen 2) (wr.gen 3) (wr.birth 0) (wr.birth 1) (wr.birth 2) (wr.birth 3) wr.root.v wr.root.a wr.root.r wr.old lf1 ph1 rs1 er1 fd1 lf2 ph2 rs2 er2 fd2 x1 g1 e1 p1 q1 k1 (contains_no wr.free 0 hf f1) x2 h2
    · exact safe_00 w oc n0 nx0 n1 nx1 n2 nx2 a0 a1 a2 l0 l1 l2 wr.bag wr.free wr.seen ph (wr.gen 0) (wr.gen 1) (wr.gen 2) (wr.gen 3) (wr.birth 0) (wr.birth 1) (wr.birth 2) (wr.birth 3) wr.root.v wr.root.a wr.root.r wr.old lf1 ph1 rs1 er1 fd1 lf2 ph2 rs2 er2 fd2 x1 g1 e1 p1 q1 k1 (contains_no wr.free 0 hf f1) x2 g2 e2 p2 q2 k2 (contains_no wr.free 0 hf f2)
    · exact safe_01 w oc n0 nx0 n1 nx1 n2 nx2 a0 a1 a2 l0 l1 l2 wr.bag wr.free wr.seen ph (wr.gen 0) (wr.gen 1) (wr.gen 2) (wr.gen 3) (wr.birth 0) (wr.birth 1) (wr.birth 2) (wr.birth 3) wr.root.v wr.root.a wr.root.r wr.old lf1 ph1 rs1 er1 fd1 lf2 ph2 rs2 er2 fd2 x1 g1 e1 p1 q1 k1 (contains_no wr.free 0 hf f1) x2 g2 e2 p2 q2 k2 (contains_no wr.free 1 hf f2)
    · exact safe_02 w oc n0 nx0 n1 nx1 n2 nx2 a0 a1 a2 l0 l1 l2 wr.bag wr.free wr.seen ph (wr.gen 0) (wr.gen 1) (wr.gen 2) (wr.gen 3) (wr.birth 0) (wr.birth 1) (wr.birth 2) (wr.birth 3) wr.root.v wr.root.a wr.root.r wr.old lf1 ph1 rs1 er1 fd1 lf2 ph2 rs2 er2 fd2 x1 g1 e1 p1 q1 k1 (contains_no wr.free 0 hf f1) x2 g2 e2 p2 q2 k2 (contains_no wr.free 2 hf f2)
    · exact safe_03 w oc n0 nx0 n1 nx1 n2 nx2 a0 a1 a2 l0 l1 l2 wr.bag wr.free wr.seen ph (wr.gen 0) (wr.gen 1) (wr.gen 2) (wr.gen 3) (wr.birth 0) (wr.birth 1) (wr.birth 2) (wr.birth 3) wr.root.v wr.root.a wr.root.r wr.old lf1 ph1 rs1 er1 fd1 lf2 ph2 rs2 er2 fd2 x1 g1 e1 p1 q1 k1 (contains_no wr.free 0 hf f1) x2 g2 e2 p2 q2 k2 (contains_no wr.free 3 hf f2)
  · rcases h2 with h2 | ⟨b2, g2, e2, (rfl | rfl | rfl | rfl), p2, q2, k2, f2⟩
    · exact safe_1n w oc n0 nx0 n1 nx1 n2 nx2 a0 a1 a2 l0 l1 l2 wr.bag wr.free wr.seen ph (wr.gen 0) (wr.gen 1) (wr.gen 2) (wr.gen 3) (wr.birth 0) (wr.birth 1) (wr.birth 2) (wr.birth 3) wr.root.v wr.root.a wr.root.r wr.old lf1 ph1 rs1 er1 fd1 lf2 ph2 rs2 er2 fd2 x1 g1 e1 p1 q1 k1 (contains_no wr.free 1 hf f1) x2 h2
    · exact safe_10 w oc n0 nx0 n1 nx1 n2 nx2 a0 a1 a2 l0 l1 l2 wr.bag wr.free wr.seen ph (wr.gen 0) (wr.gen 1) (wr.gen 2) (wr.gen 3) (wr.birth 0) (wr.birth 1) (wr.birth 2) (wr.birth 3) wr.root.v wr.root.a wr.root.r wr.old lf1 ph1 rs1 er1 fd1 lf2 ph2 rs2 er2 fd2 x1 g1 e1 p1 q1 k1 (contains_no wr.free 1 hf f1) x2 g2 e2 p2 q2 k2 (contains_no wr.free 0 hf f2)
    · exact safe_11 w oc n0 nx0 n1 nx1 n2 nx2 a0 a1 a2 l0 l1 l2 wr.bag wr.free wr.seen ph (wr.gen 0) (wr.gen 1) (wr.gen 2) (wr.gen 3) (wr.birth 0) (wr.birth 1) (wr.birth 2) (wr.birth 3) wr.root.v wr.root.a wr.root.r wr.old lf1 ph1 rs1 er1 fd1 lf2 ph2 rs2 er2 fd2 x1 g1 e1 p1 q1 k1 (contains_no wr.free 1 hf f1) x2 g2 e2 p2 q2 k2 (contains_no wr.free 1 hf f2)
    · exact safe_12 w oc n0 nx0 n1 nx1 n2 nx2 a0 a1 a2 l0 l1 l2 wr.bag wr.free wr.seen ph (wr.gen 0) (wr.gen 1) (wr.gen 2) (wr.gen 3) (wr.birth 0) (wr.birth 1) (wr.birth 2) (wr.birth 3) wr.root.v wr.root.a wr.root.r wr.old lf1 ph1 rs1 er1 fd1 lf2 ph2 rs2 er2 fd2 x1 g1 e1 p1 q1 k1 (contains_no wr.free 1 hf f1) x2 g2 e2 p2 q2 k2 (contains_no wr.free 2 hf f2)
    · exact safe_13 w oc n0 nx0 n1 nx1 n2 nx2 a0 a1 a2 l0 l1 l2 wr.bag wr.free wr.seen ph (wr.gen 0) (wr.gen 1) (wr.gen 2) (wr.gen 3) (wr.birth 0) (wr.birth 1) (wr.birth 2) (wr.birth 3) wr.root.v wr.root.a wr.root.r wr.old lf1 ph1 rs1 er1 fd1 lf2 ph2 rs2 er2 fd2 x1 g1 e1 p1 q1 k1 (contains_no wr.free 1 hf f1) x2 g2 e2 p2 q2 k2 (contains_no wr.free 3 hf f2)
  · rcases h2 with h2 | ⟨b2, g2, e2, (rfl | rfl | rfl | rfl), p2, q2, k2, f2⟩
    · exact safe_2n w oc n0 nx0 n1 nx1 n2 nx2 a0 a1 a2 l0 l1 l2 wr.bag wr.free wr.seen ph (wr.gen 0) (wr.gen 1) (wr.gen 2) (wr.gen 3) (wr.birth 0) (wr.birth 1) (wr.birth 2) (wr.birth 3) wr.root.v wr.root.a wr.root.r wr.old lf1 ph1 rs1 er1 fd1 lf2 ph2 rs2 er2 fd2 x1 g1 e1 p1 q1 k1 (contains_no wr.free 2 hf f1) x2 h2
    · exact safe_20 w oc n0 nx0 n1 nx1 n2 nx2 a0 a1 a2 l0 l1 l2 wr.bag wr.free wr.seen ph (wr.gen 0) (wr.gen 1) (wr.gen 2) (wr.gen 3) (wr.birth 0) (wr.birth 1) (wr.birth 2) (wr.birth 3) wr.root.v wr.root.a wr.root.r wr.old lf1 ph1 rs1 er1 fd1 lf2 ph2 rs2 er2 fd2 x1 g1 e1 p1 q1 k1 (contains_no wr.free 2 hf f1) x2 g2 e2 p2 q2 k2 (contains_no wr.free 0 hf f2)
    · exact safe_21 w oc n0 nx0 n1 nx1 n2 nx2 a0 a1 a2 l0 l1 l2 wr.bag wr.free wr.seen ph (wr.gen 0) (wr.gen 1) (wr.gen 2) (wr.gen 3) (wr.birth 0) (wr.birth 1) (wr.birth 2) (wr.birth 3) wr.root.v wr.root.a wr.root.r wr.old lf1 ph1 rs1 er1 fd1 lf2 ph2 rs2 er2 fd2 x1 g1 e1 p1 q1 k1 (contains_no wr.free 2 hf f1) x2 g2 e2 p2 q2 k2 (contains_no wr.free 1 hf f2)
    · exact safe_22 w oc n0 nx0 n1 nx1 n2 nx2 a0 a1 a2 l0 l1 l2 wr.bag wr.free wr.seen ph (wr.gen 0) (wr.gen 1) (wr.gen 2) (wr.gen 3) (wr.birth 0) (wr.birth 1) (wr.birth 2) (wr.birth 3) wr.root.v wr.root.a wr.root.r wr.old lf1 ph1 rs1 er1 fd1 lf2 ph2 rs2 er2 fd2 x1 g1 e1 p1 q1 k1 (contains_no wr.free 2 hf f1) x2 g2 e2 p2 q2 k2 (contains_no wr.free 2 hf f2)
    · exact safe_23 w oc n0 nx0 n1 nx1 n2 nx2 a0 a1 a2 l0 l1 l2 wr.bag wr.free wr.seen ph (wr.gen 0) (wr.gen 1) (wr.gen 2) (wr.gen 3) (wr.birth 0) (wr.birth 1) (wr.birth 2) (wr.birth 3) wr.root.v wr.root.a wr.root.r wr.old lf1 ph1 rs1 er1 fd1 lf2 ph2 rs2 er2 fd2 x1 g1 e1 p1 q1 k1 (contains_no wr.free 2 hf f1) x2 g2 e2 p2 q2 k2 (contains_no wr.free 3 hf f2)
  · rcases h2 with h2 | ⟨b2, g2, e2, (rfl | rfl | rfl | rfl), p2, q2, k2, f2⟩
    · exact safe_3n w oc n0 nx0 n1 nx1 n2 nx2 a0 a1 a2 l0 l1 l2 wr.bag wr.free wr.seen ph (wr.gen 0) (wr.gen 1) (wr.gen 2) (wr.gen 3) (wr.birth 0) (wr.birth 1) (wr.birth 2) (wr.birth 3) wr.root.v wr.root.a wr.root.r wr.old lf1 ph1 rs1 er1 fd1 lf2 ph2 rs2 er2 fd2 x1 g1 e1 p1 q1 k1 (contains_no wr.free 3 hf f1) x2 h2
    · exact safe_30 w oc n0 nx0 n1 nx1 n2 nx2 a0 a1 a2 l0 l1 l2 wr.bag wr.free wr.seen ph (wr.gen 0) (wr.gen 1) (wr.gen 2) (wr.gen 3) (wr.birth 0) (wr.birth 1) (wr.birth 2) (wr.birth 3) wr.root.v wr.root.a wr.root.r wr.old lf1 ph1 rs1 er1 fd1 lf2 ph2 rs2 er2 fd2 x1 g1 e1 p1 q1 k1 (contains_no wr.free 3 hf f1) x2 g2 e2 p2 q2 k2 (contains_no wr.free 0 hf f2)
    · exact safe_31 w oc n0 nx0 n1 nx1 n2 nx2 a0 a1 a2 l0 l1 l2 wr.bag wr.free wr.seen ph (wr.gen 0) (wr.gen 1) (wr.gen 2) (wr.gen 3) (wr.birth 0) (wr.birth 1) (wr.birth 2) (wr.birth 3) wr.root.v wr.root.a wr.root.r wr.old lf1 ph1 rs1 er1 fd1 lf2 ph2 rs2 er2 fd2 x1 g1 e1 p1 q1 k1 (contains_no wr.free 3 hf f1) x2 g2 e2 p2 q2 k2 (contains_no wr.free 1 hf f2)
    · exact safe_32 w oc n0 nx0 n1 nx1 n2 nx2 a0 a1 a2 l0 l1 l2 wr.bag wr.free wr.seen ph (wr.gen 0) (wr.gen 1) (wr.gen 2) (wr.gen 3) (wr.birth 0) (wr.birth 1) (wr.birth 2) (wr.birth 3) wr.root.v wr.root.a wr.root.r wr.old lf1 ph1 rs1 er1 fd1 lf2 ph2 rs2 er2 fd2 x1 g1 e1 p1 q1 k1 (contains_no wr.free 3 hf f1) x2 g2 e2 p2 q2 k2 (contains_no wr.free 2 hf f2)
    · exact safe_33 w oc n0 nx0 n1 nx1 n2 nx2 a0 a1 a2 l0 l1 l2 wr.bag wr.free wr.seen ph (wr.gen 0) (wr.gen 1) (wr.gen 2) (wr.gen 3) (wr.birth 0) (wr.birth 1) (wr.birth 2) (wr.birth 3) wr.root.v wr.root.a wr.root.r wr.old lf1 ph1 rs1 er1 fd1 lf2 ph2 rs2 er2 fd2 x1 g1 e1 p1 q1 k1 (contains_no wr.free 3 hf f1) x2 g2 e2 p2 q2 k2 (contains_no wr.free 3 hf f2)
theorem told_eq (ty : TypeId) (x : T) (a : Ac) (d : Bool) (l : List Gt) : ∃ nx a', told ty x a d l = ⟨.ifc ty x, nx, a', l⟩ := by
  cases d with
  | true => exact ⟨_, _, rfl⟩
  | false => exact ⟨_, _, rfl⟩
theorem tle_wnow (w : WR) : TLe w.now (.box w.now) := by
  unfold WR.now
  split
  · exact tle_ifc _ _
  · exact tle_ifc _ _
  · exact tle_nilI
theorem tle_rnow (r : RD) (t : Nat) : TLe (r.now t) (.box (r.now t)) := by
  unfold RD.now
  split
  · exact tle_ifc _ _
  · exact tle_ifc _ _
  · exact tle_ifc _ _
  · exact tle_ifc _ _
  · exact tle_nilI
theorem tle_wcell (w : WR) : TLe (wtT w) (.agg [i64 3, i64 8, i64 0, .box w.oc, i64 w.phase, .box w.now, bsT itL w.bag, freeS w.free, i64 (w.gen 0), i64 (w.gen 1), i64 (w.gen 2), i64 (w.gen 3), i64 (w.birth 0), i64 (w.birth 1), i64 (w.birth 2), i64 (w.birth 3), i64 w.root.v, u32 w.root.a, u32 w.root.r, i64 w.old, bsT i1L w.seen, bl false]) :=
  tle_agg (.cons (tle_refl _) (.cons (tle_refl _) (.cons (tle_refl _) (.cons (tle_refl _) (.cons (tle_refl _) (.cons (tle_wnow w) (TLes.refl _)))))))
theorem tle_rcell (r : RD) (t : Nat) : TLe (rdT t r) (.agg [i64 3, i64 8, i64 0, i64 (t : Int), i64 r.left, i64 r.phase, i64 r.rests, .box (r.now t), i64 r.er, i64 r.found, i64 r.held]) :=
  tle_agg (.cons (tle_refl _) (.cons (tle_refl _) (.cons (tle_refl _) (.cons (tle_refl _) (.cons (tle_refl _) (.cons (tle_refl _) (.cons (tle_refl _) (.cons (tle_rnow r t) (TLes.refl _)))))))))
theorem safe_holds (x : Wld) (s : ES) (n m : Nat) (hx : WOk x s n m) (hs : SInv s (n + 1 : Nat)) (hn : n < 40000) : HoldsL 7 [worldT x] [.t (bl true)] := by
  obtain ⟨l0, l1, l2, h1, h2, h3, h4⟩ := hx.tasks
  obtain ⟨nx0, a0, t0⟩ := told_eq tyW (wtT s.w) s.w.act s.w.fin l0
  obtain ⟨nx1, a1, t1⟩ := told_eq tyR (rdT 2 s.a) (s.a.act 2) s.a.fin l1
  obtain ⟨nx2, a2, t2⟩ := told_eq tyR (rdT 3 s.b) (s.b.act 3) s.b.fin l2
  have hfree : s.w.free.length ≤ 3 := by
    have h5 := hs.w.len
    have h6 : s.w.rest.length + 1 ≤ s.w.blocks.length := by unfold WR.blocks; split <;> simp
    have h7 : s.w.rest.length = s.w.free.length + s.w.bag.length := by simp [WR.rest]
    omega
  have held : ∀ (r : RD) (t : Nat), RInv r t s.w s.f → HeldOk s.w r.held := fun r t hr => by
    obtain ⟨c, left, rests, er, found⟩ := r
    have hst := hr.st
    cases c with
    | p3 =>
      obtain ⟨_, _, _, b, g, g1, g2, g3, g4, g5⟩ := hst
      have := hs.w.gen b.toNat
      exact .inr ⟨b, g, g1, g2, g3, by omega, g4, hs.w.notFree g5⟩
    | _ => exact .inl rfl
  refine holds_args (.cons ?_ .nil) (safe_core x s.w s.w.oc s.w.now nx0 (s.a.now 2) nx1 (s.b.now 3) nx2 a0 a1 a2 l0 l1 l2 s.w.phase s.a.left s.a.phase s.a.rests s.a.er s.a.found s.b.left s.b.phase s.b.rests s.b.er s.b.found s.a.held s.b.held hfree (held _ _ hs.a) (held _ _ hs.b))
  unfold worldT
  refine tle_agg (.cons (tle_refl _) (.cons (tle_refl _) (.cons (tle_refl _) (.cons (tle_refl _) (.cons (tle_refl _) (.cons (tle_refl _) (.cons (tle_refl _) (.cons ?_ (TLes.refl _)))))))))
  have ht : x.tasks = [⟨.ifc tyW (wtT s.w), nx0, a0, l0⟩, ⟨.ifc tyR (rdT 2 s.a), nx1, a1, l1⟩, ⟨.ifc tyR (rdT 3 s.b), nx2, a2, l2⟩] := by rw [h1, ← t0, ← t1, ← t2]; rfl
  rw [ht]
  refine tle_sl (by rfl) ?_
  refine .cons (tle_box' (tle_ifc' (tle_wcell s.w))) (.cons (tle_refl _) (.cons (tle_refl _) (.cons (tle_refl _) (.cons (tle_refl _) (.cons (tle_refl _) (.cons (tle_refl _) (.cons (tle_refl _) (.cons (tle_refl _) (.cons (tle_refl _) (.cons (tle_refl _) ?_))))))))))
  refine .cons (tle_box' (tle_ifc' (tle_rcell s.a 2))) (.cons (tle_refl _) (.cons (tle_refl _) (.cons (tle_refl _) (.cons (tle_refl _) (.cons (tle_refl _) (.cons (tle_refl _) (.cons (tle_refl _) (.cons (tle_refl _) (.cons (tle_refl _) (.cons (tle_refl _) ?_))))))))))
  exact .cons (tle_box' (tle_ifc' (tle_rcell s.b 3))) (TLes.refl _)
end Go.Proofs.YtiegfchaepbnbaaGreatDoor
namespace Go.Proofs.YtiegfchaepbnbaaGreatDoor
open Go Go.RowKit Go.Va
set_option maxRecDepth 100000
set_option maxHeartbeats 400000
theorem stW_1 (x x' : T) (a' : Ac) (hn : HoldsL 141 [x, (T.agg [(i64 0), (u32 0), (u32 0), (bl false)])] [.t (.ifc 68 x'), .t (.agg (acL a')), .t (bl true)]) : HoldsL 39 [(T.ifc 68 x)] [(R.t (T.agg [(T.ifc 68 x'), nilF, (i64 0), (i64 0), (i64 0), (u32 0), (u32 0), (i64 0), (u32 0), (u32 0), nilS]))] := by
  have e : runX Tryz.prog gG noF 20 39 [(T.ifc 68 x)] [((39, 9), .call [(R.t (T.ifc 68 x')), (R.t (T.agg [(i64 a'.op), (i64 ((a'.ad : Nat) : Int)), (i64 a'.o.v), (u32 a'.o.a), (u32 a'.o.r), (i64 a'.n.v), (u32 a'.n.a), (u32 a'.n.r)])), (R.t (bl true))])] = some ([(R.t (T.agg [(T.ifc 68 x'), nilF, (i64 0), (i64 0), (i64 0), (u32 0), (u32 0), (i64 0), (u32 0), (u32 0), nilS]))], [], [HoldsL 141 [x, (T.agg [(i64 0), (u32 0), (u32 0), (bl false)])] [(R.t (T.ifc 68 x')), (R.t (T.agg [(i64 a'.op), (i64 ((a'.ad : Nat) : Int)), (i64 a'.o.v), (u32 a'.o.a), (u32 a'.o.r), (i64 a'.n.v), (u32 a'.n.a), (u32 a'.n.r)])), (R.t (bl true))]]) := by kernel_rfl
  exact sndL 20 _ _ _ _ _ _ e (.cons hn .nil)
theorem stW_0 (x x' : T) (a' : Ac) (hn : HoldsL 141 [x, (T.agg [(i64 0), (u32 0), (u32 0), (bl false)])] [.t (.ifc 68 x'), .t (.agg (acL a')), .t (bl false)]) : HoldsL 39 [(T.ifc 68 x)] [(R.t (T.agg [(T.ifc 68 x'), (T.fn (.method "Next") [(T.ifc 68 x')] []), (i64 a'.op), (i64 ((a'.ad : Nat) : Int)), (i64 a'.o.v), (u32 a'.o.a), (u32 a'.o.r), (i64 a'.n.v), (u32 a'.n.a), (u32 a'.n.r), nilS]))] := by
  have e : runX Tryz.prog gG noF 20 39 [(T.ifc 68 x)] [((39, 9), .call [(R.t (T.ifc 68 x')), (R.t (T.agg [(i64 a'.op), (i64 ((a'.ad : Nat) : Int)), (i64 a'.o.v), (u32 a'.o.a), (u32 a'.o.r), (i64 a'.n.v), (u32 a'.n.a), (u32 a'.n.r)])), (R.t (bl false))])] = some ([(R.t (T.agg [(T.ifc 68 x'), (T.fn (.method "Next") [(T.ifc 68 x')] []), (i64 a'.op), (i64 ((a'.ad : Nat) : Int)), (i64 a'.o.v), (u32 a'.o.a), (u32 a'.o.r), (i64 a'.n.v), (u32 a'.n.a), (u32 a'.n.r), nilS]))], [], [HoldsL 141 [x, (T.agg [(i64 0), (u32 0), (u32 0), (bl false)])] [(R.t (T.ifc 68 x')), (R.t (T.agg [(i64 a'.op), (i64 ((a'.ad : Nat) : Int)), (i64 a'.o.v), (u32 a'.o.a), (u32 a'.o.r), (i64 a'.n.v), (u32 a'.n.a), (u32 a'.n.r)])), (R.t (bl false))]]) := by kernel_rfl
  exact sndL 20 _ _ _ _ _ _ e (.cons hn .nil)
theorem start_W (x x' : T) (a' : Ac) (d : Bool) (hn : HoldsL 141 [x, .agg (gtL ⟨wz, false⟩)] [.t (.ifc 68 x'), .t (.agg (acL a')), .t (bl d)]) : HoldsL 39 [.ifc 68 x] [.t (.agg (tkL (told 68 x' a' d [])))] := by
  cases d with
  | true => exact holds_res (.t (tle_agg (.cons (tle_ifc _ _) (.cons tle_nilF (.cons (tle_refl _) (.cons (tle_refl _) (.cons (tle_refl _) (.cons (tle_refl _) (.cons (tle_refl _) (.cons (tle_refl _) (.cons (tle_refl _) (.cons (tle_refl _) (.cons (bs_out gtL []) .nil)))))))))))) .nil) (stW_1 x x' a' hn)
  | false => exact holds_res (.t (tle_agg (.cons (tle_ifc _ _) (.cons (tle_fn _ _ _) (.cons (tle_refl _) (.cons (tle_refl _) (.cons (tle_refl _) (.cons (tle_refl _) (.cons (tle_refl _) (.cons (tle_refl _) (.cons (tle_refl _) (.cons (tle_refl _) (.cons (bs_out gtL []) .nil)))))))))))) .nil) (stW_0 x x' a' hn)
theorem stR_1 (x x' : T) (a' : Ac) (hn : HoldsL 159 [x, (T.agg [(i64 0), (u32 0), (u32 0), (bl false)])] [.t (.ifc 87 x'), .t (.agg (acL a')), .t (bl true)]) : HoldsL 39 [(T.ifc 87 x)] [(R.t (T.agg [(T.ifc 87 x'), nilF, (i64 0), (i64 0), (i64 0), (u32 0), (u32 0), (i64 0), (u32 0), (u32 0), nilS]))] := by
  have e : runX Tryz.prog gG noF 20 39 [(T.ifc 87 x)] [((39, 9), .call [(R.t (T.ifc 87 x')), (R.t (T.agg [(i64 a'.op), (i64 ((a'.ad : Nat) : Int)), (i64 a'.o.v), (u32 a'.o.a), (u32 a'.o.r), (i64 a'.n.v), (u32 a'.n.a), (u32 a'.n.r)])), (R.t (bl true))])] = some ([(R.t (T.agg [(T.ifc 87 x'), nilF, (i64 0), (i64 0), (i64 0), (u32 0), (u32 0), (i64 0), (u32 0), (u32 0), nilS]))], [], [HoldsL 159 [x, (T.agg [(i64 0), (u32 0), (u32 0), (bl false)])] [(R.t (T.ifc 87 x')), (R.t (T.agg [(i64 a'.op), (i64 ((a'.ad : Nat) : Int)), (i64 a'.o.v), (u32 a'.o.a), (u32 a'.o.r), (i64 a'.n.v), (u32 a'.n.a), (u32 a'.n.r)])), (R.t (bl true))]]) := by kernel_rfl
  exact sndL 20 _ _ _ _ _ _ e (.cons hn .nil)
theorem stR_0 (x x' : T) (a' : Ac) (hn : HoldsL 159 [x, (T.agg [(i64 0), (u32 0), (u32 0), (bl false)])] [.t (.ifc 87 x'), .t (.agg (acL a')), .t (bl false)]) : HoldsL 39 [(T.ifc 87 x)] [(R.t (T.agg [(T.ifc 87 x'), (T.fn (.method "Next") [(T.ifc 87 x')] []), (i64 a'.op), (i64 ((a'.ad : Nat) : Int)), (i64 a'.o.v), (u32 a'.o.a), (u32 a'.o.r), (i64 a'.n.v), (u32 a'.n.a), (u32 a'.n.r), nilS]))] := by
  have e : runX Tryz.prog gG noF 20 39 [(T.ifc 87 x)] [((39, 9), .call [(R.t (T.ifc 87 x')), (R.t (T.agg [(i64 a'.op), (i64 ((a'.ad : Nat) : Int)), (i64 a'.o.v), (u32 a'.o.a), (u32 a'.o.r), (i64 a'.n.v), (u32 a'.n.a), (u32 a'.n.r)])), (R.t (bl false))])] = some ([(R.t (T.agg [(T.ifc 87 x'), (T.fn (.method "Next") [(T.ifc 87 x')] []), (i64 a'.op), (i64 ((a'.ad : Nat) : Int)), (i64 a'.o.v), (u32 a'.o.a), (u32 a'.o.r), (i64 a'.n.v), (u32 a'.n.a), (u32 a'.n.r), nilS]))], [], [HoldsL 159 [x, (T.agg [(i64 0), (u32 0), (u32 0), (bl false)])] [(R.t (T.ifc 87 x')), (R.t (T.agg [(i64 a'.op), (i64 ((a'.ad : Nat) : Int)), (i64 a'.o.v), (u32 a'.o.a), (u32 a'.o.r), (i64 a'.n.v), (u32 a'.n.a), (u32 a'.n.r)])), (R.t (bl false))]]) := by kernel_rfl
  exact sndL 20 _ _ _ _ _ _ e (.cons hn .nil)
theorem start_R (x x' : T) (a' : Ac) (d : Bool) (hn : HoldsL 159 [x, .agg (gtL ⟨wz, false⟩)] [.t (.ifc 87 x'), .t (.agg (acL a')), .t (bl d)]) : HoldsL 39 [.ifc 87 x] [.t (.agg (tkL (told 87 x' a' d [])))] := by
  cases d with
  | true => exact holds_res (.t (tle_agg (.cons (tle_ifc _ _) (.cons tle_nilF (.cons (tle_refl _) (.cons (tle_refl _) (.cons (tle_refl _) (.cons (tle_refl _) (.cons (tle_refl _) (.cons (tle_refl _) (.cons (tle_refl _) (.cons (tle_refl _) (.cons (bs_out gtL []) .nil)))))))))))) .nil) (stR_1 x x' a' hn)
  | false => exact holds_res (.t (tle_agg (.cons (tle_ifc _ _) (.cons (tle_fn _ _ _) (.cons (tle_refl _) (.cons (tle_refl _) (.cons (tle_refl _) (.cons (tle_refl _) (.cons (tle_refl _) (.cons (tle_refl _) (.cons (tle_refl _) (.cons (tle_refl _) (.cons (bs_out gtL []) .nil)))))))))))) .nil) (stR_0 x x' a' hn)
theorem make3 (q : Mach) (x0 x1 x2 : T) (k0 k1 k2 : TK) (hv : q.mem.views.length = 3) (h0 : HoldsL 39 [.ifc 68 x0] [.t (.agg (tkL k0))]) (h1 : HoldsL 39 [.ifc 87 x1] [.t (.agg (tkL k1))]) (h2 : HoldsL 39 [.ifc 87 x2] [.t (.agg (tkL k2))]) : HoldsL 19 [(machT q), (T.sl [(T.ifc 68 x0), (T.ifc 87 x1), (T.ifc 87 x2)] 3 false)] [.t (worldT ⟨q, [k0, k1, k2], [false, false, false]⟩), .t (i64 0)] := by
  have e : runX Tryz.prog gG noF 20 19 [(machT q), (T.sl [(T.ifc 68 x0), (T.ifc 87 x1), (T.ifc 87 x2)] 3 false)] [((19, 19), .res (.t (bl false))), ((19, 35), .call [(R.t (T.agg [(T.box k0.c), (T.box k0.nx), (i64 k0.a.op), (i64 ((k0.a.ad : Nat) : Int)), (i64 k0.a.o.v), (u32 k0.a.o.a), (u32 k0.a.o.r), (i64 k0.a.n.v), (u32 k0.a.n.a), (u32 k0.a.n.r), (bsT gtL k0.gots)]))]), ((19, 35), .call [(R.t (T.agg [(T.box k1.c), (T.box k1.nx), (i64 k1.a.op), (i64 ((k1.a.ad : Nat) : Int)), (i64 k1.a.o.v), (u32 k1.a.o.a), (u32 k1.a.o.r), (i64 k1.a.n.v), (u32 k1.a.n.a), (u32 k1.a.n.r), (bsT gtL k1.gots)]))]), ((19, 35), .call [(R.t (T.agg [(T.box k2.c), (T.box k2.nx), (i64 k2.a.op), (i64 ((k2.a.ad : Nat) : Int)), (i64 k2.a.o.v), (u32 k2.a.o.a), (u32 k2.a.o.r), (i64 k2.a.n.v), (u32 k2.a.n.a), (u32 k2.a.n.r), (bsT gtL k2.gots)]))])] = some ([(R.t (T.agg [(T.sl (rows histL q.mem.places) q.mem.places.length false), (T.sl (rows vwL q.mem.views) q.mem.views.length false), (T.sl (rows wdL q.first) q.first.length false), (T.sl (rows lgL q.logs) q.logs.length false), (T.box q.asks), (T.sl (rows i1L q.steps) q.steps.length false), (i64 q.crashes), (T.sl [(T.box k0.c), (T.box k0.nx), (i64 k0.a.op), (i64 ((k0.a.ad : Nat) : Int)), (i64 k0.a.o.v), (u32 k0.a.o.a), (u32 k0.a.o.r), (i64 k0.a.n.v), (u32 k0.a.n.a), (u32 k0.a.n.r), (bsT gtL k0.gots), (T.box k1.c), (T.box k1.nx), (i64 k1.a.op), (i64 ((k1.a.ad : Nat) : Int)), (i64 k1.a.o.v), (u32 k1.a.o.a), (u32 k1.a.o.r), (i64 k1.a.n.v), (u32 k1.a.n.a), (u32 k1.a.n.r), (bsT gtL k1.gots), (T.box k2.c), (T.box k2.nx), (i64 k2.a.op), (i64 ((k2.a.ad : Nat) : Int)), (i64 k2.a.o.v), (u32 k2.a.o.a), (u32 k2.a.o.r), (i64 k2.a.n.v), (u32 k2.a.n.a), (u32 k2.a.n.r), (bsT gtL k2.gots)] 3 false), (T.sl [(bl false), (bl false), (bl false)] 3 false)])), (R.t (i64 0))], [], [BinIs Tryz.prog .gtr 3 (.tmp 17) (.tmp 18) (.int .i64 3) (.int .i64 ((q.mem.views.length : Nat) : Int)) (.bool false),
      HoldsL 39 [(T.ifc 68 x0)] [(R.t (T.agg [(T.box k0.c), (T.box k0.nx), (i64 k0.a.op), (i64 ((k0.a.ad : Nat) : Int)), (i64 k0.a.o.v), (u32 k0.a.o.a), (u32 k0.a.o.r), (i64 k0.a.n.v), (u32 k0.a.n.a), (u32 k0.a.n.r), (bsT gtL k0.gots)]))],
      HoldsL 39 [(T.ifc 87 x1)] [(R.t (T.agg [(T.box k1.c), (T.box k1.nx), (i64 k1.a.op), (i64 ((k1.a.ad : Nat) : Int)), (i64 k1.a.o.v), (u32 k1.a.o.a), (u32 k1.a.o.r), (i64 k1.a.n.v), (u32 k1.a.n.a), (u32 k1.a.n.r), (bsT gtL k1.gots)]))],
      HoldsL 39 [(T.ifc 87 x2)] [(R.t (T.agg [(T.box k2.c), (T.box k2.nx), (i64 k2.a.op), (i64 ((k2.a.ad : Nat) : Int)), (i64 k2.a.o.v), (u32 k2.a.o.a), (u32 k2.a.o.r), (i64 k2.a.n.v), (u32 k2.a.n.a), (u32 k2.a.n.r), (bsT gtL k2.gots)]))]]) := by kernel_rfl
  have hh := sndL 20 _ _ _ _ _ _ e (.cons (bCmp (d := decide (3 > ((q.mem.views.length : Nat) : Int))) (by unfold BinIs; kernel_rfl) (decide_eq_false (by omega))) (.cons h0 (.cons h1 (.cons h2 .nil))))
  have hr : ([(R.t (T.agg [(T.sl (rows histL q.mem.places) q.mem.places.length false), (T.sl (rows vwL q.mem.views) q.mem.views.length false), (T.sl (rows wdL q.first) q.first.length false), (T.sl (rows lgL q.logs) q.logs.length false), (T.box q.asks), (T.sl (rows i1L q.steps) q.steps.length false), (i64 q.crashes), (T.sl [(T.box k0.c), (T.box k0.nx), (i64 k0.a.op), (i64 ((k0.a.ad : Nat) : Int)), (i64 k0.a.o.v), (u32 k0.a.o.a), (u32 k0.a.o.r), (i64 k0.a.n.v), (u32 k0.a.n.a), (u32 k0.a.n.r), (bsT gtL k0.gots), (T.box k1.c), (T.box k1.nx), (i64 k1.a.op), (i64 ((k1.a.ad : Nat) : Int)), (i64 k1.a.o.v), (u32 k1.a.o.a), (u32 k1.a.o.r), (i64 k1.a.n.v), (u32 k1.a.n.a), (u32 k1.a.n.r), (bsT gtL k1.gots), (T.box k2.c), (T.box k2.nx), (i64 k2.a.op), (i64 ((k2.a.ad : Nat) : Int)), (i64 k2.a.o.v), (u32 k2.a.o.a), (u32 k2.a.o.r), (i64 k2.a.n.v), (u32 k2.a.n.a), (u32 k2.a.n.r), (bsT gtL k2.gots)] 3 false), (T.sl [(bl false), (bl false), (bl false)] 3 false)])), (R.t (i64 0))] : List R) = [.t (worldT ⟨q, [k0, k1, k2], [false, false, false]⟩), .t (i64 0)] := rfl
  exact hr ▸ hh
def wF : List Wd := (List.range 376).map fun i => if i = 1 then ⟨1, 0, 0⟩ else if i = 64 ∨ i = 168 ∨ i = 272 then ⟨2, 0, 0⟩ else ⟨0, 0, 0⟩
theorem first3 : HoldsL 16 [lay3] [.osl (rows wdL wF) 376 3] := by
  have e : runX Tryz.prog gG noF 20 16 [lay3] [] = some ([.osl (rows wdL wF) 376 3], [], []) := by kernel_rfl
  exact sndL 20 _ _ _ _ _ _ e .nil
theorem wF_set : wF.set 56 ⟨17, 0, 0⟩ = w0 := by kernel_rfl
theorem new3 : HoldsL 18 [i64 3, .sl (rows wdL (wF.set 56 ⟨17, 0, 0⟩)) 376 false] [.t (machT (newQ w0)), .t (i64 0)] := by
  rw [wF_set]
  have h : w0.length = 376 := by simp [w0]
  have := mach_new w0 (by omega) (by omega)
  rwa [h] at this
end Go.Proofs.YtiegfchaepbnbaaGreatDoor
