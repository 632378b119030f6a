/- Readers and the writer as plain state machines. The writer as a plain state machine. Give, for the writer and the readers; a step of the world. -/
import Derived.Test.YtiegfchaepbnbaaGreatDoorP21
namespace Go.Proofs.YtiegfchaepbnbaaGreatDoor
open Go Go.RowKit Go.Va
set_option maxRecDepth 100000
set_option maxHeartbeats 1000000
abbrev fAnn : T := .fn (.func 166) [] []
abbrev fAnn1 : T := .fn (.func 169) [] []
abbrev fCmp : T := .fn (.func 170) [] []
abbrev fRai : T := .fn (.func 156) [] []
abbrev fLv1 : T := .fn (.func 168) [] []
def codeT (mine v : Int) (tried : Bool) (nx : T) : T := .ifc 241 (.agg [i64 1, i64 mine, i64 v, u32 0, u32 0, i64 0, bl tried, bl false, nx])
abbrev wz : Wd := ⟨0, 0, 0⟩
inductive RC where
  | fin | e1 | e2 (v : Int) | e3 (v : Int) | p1 | p2 | p3 | l1
structure RD where
  c : RC
  left : Int
  rests : Int
  er : Int
  found : Int
def RD.phase (r : RD) : Int := match r.c with
  | .p1 => 1 | .p2 => 2 | .p3 => 3 | .l1 => 4 | _ => 0
def RD.held (r : RD) : Int := match r.c with
  | .p3 => r.found | _ => 0
def RD.now (t : Nat) (r : RD) : T := match r.c with
  | .e1 => codeT (8 * t : Nat) 0 false fAnn
  | .e2 v => codeT (8 * t : Nat) v false fAnn1
  | .e3 v => codeT (8 * t : Nat) v false fCmp
  | .l1 => codeT (8 * t : Nat) 0 false fLv1
  | _ => nilI
def rdT (t : Nat) (r : RD) : T := .agg [i64 3, i64 8, i64 0, i64 (t : Int), i64 r.left, i64 r.phase, i64 r.rests, r.now t, i64 r.er, i64 r.found, i64 r.held]
def RD.act (t : Nat) (r : RD) : Ac := match r.c with
  | .fin => ac0
  | .e1 => ⟨5, 1, wz, wz⟩
  | .e2 v => ⟨4, 8 * t, wz, ⟨v, 0, 0⟩⟩
  | .e3 _ => ⟨5, 1, wz, wz⟩
  | .p1 => ⟨5, 56, wz, wz⟩
  | .p2 => ⟨5, 1, wz, wz⟩
  | .p3 => ac0
  | .l1 => ⟨4, 8 * t, wz, wz⟩
def RD.fin (r : RD) : Bool := match r.c with
  | .fin => true | _ => false
def RD.next (r : RD) (g : Gt) : RD := match r.c with
  | .fin => r
  | .e1 => { r with c := .e2 g.w.v }
  | .e2 v => { r with c := .e3 v }
  | .e3 v => if g.w.v = v then { r with c := .p1, er := v } else { r with c := .e2 g.w.v }
  | .p1 => { r with c := .p2, found := g.w.v }
  | .p2 => if g.w.v = r.er then { r with c := .p3, rests := 2 } else { r with c := .e1 }
  | .p3 => if r.rests = 0 then { r with c := .l1 } else { r with rests := r.rests - 1 }
  | .l1 => if r.left - 1 ≤ 0 then { r with c := .fin, left := r.left - 1, er := 0 } else { r with c := .e1, left := r.left - 1, er := 0 }
def nextR (t : Nat) (r : RD) (g : Gt) : Prop := HoldsL 159 [rdT t r, .agg (gtL g)] [.t (.ifc 87 (rdT t (r.next g))), .t (.agg (acL ((r.next g).act t))), .t (bl (r.next g).fin)]
theorem rd_next (t : Nat) (ht : t = 2 ∨ t = 3) (r : RD) (g : Gt) (hc : r.c ≠ .fin) (hl : 0 < r.left ∧ r.left ≤ 10) (hp : r.c = .p3 → r.rests = 0 ∨ r.rests = 1 ∨ r.rests = 2) : nextR t r g := by
  obtain ⟨c, left, rests, er, found⟩ := r
  simp only at hl hp hc
  rcases ht with rfl | rfl
  · cases c with
    | fin => exact (hc rfl).elim
    | e1 => exact rd2_e1 g left rests er found
    | e2 v => exact rd2_e2 g left rests er found v
    | e3 v =>
      by_cases h : g.w.v = v
      · unfold nextR; simp only [RD.next, if_pos h]; exact rd2_e3y g left rests er found v h
      · unfold nextR; simp only [RD.next, if_neg h]; exact rd2_e3n g left rests er found v h
    | p1 => exact rd2_p1 g left rests er found
    | p2 =>
      by_cases h : g.w.v = er
      · unfold nextR; simp only [RD.next, if_pos h]; exact rd2_p2y g left rests er found h
      · unfold nextR; simp only [RD.next, if_neg h]; exact rd2_p2n g left rests er found h
    | p3 =>
      rcases hp rfl with rfl | rfl | rfl
      · exact rd2_p3n g left er found found
      · exact rd2_p3y1 g left er found found
      · exact rd2_p3y2 g left er found found
    | l1 =>
      by_cases h : left - 1 ≤ 0
      · unfold nextR; simp only [RD.next, if_pos h]; exact rd2_l1y g left rests er found (by omega) (by omega) h
      · unfold nextR; simp only [RD.next, if_neg h]; exact rd2_l1n g left rests er found (by omega) (by omega) (by omega)
  · cases c with
    | fin => exact (hc rfl).elim
    | e1 => exact rd3_e1 g left rests er found
    | e2 v => exact rd3_e2 g left rests er found v
    | e3 v =>
      by_cases h : g.w.v = v
      · unfold nextR; simp only [RD.next, if_pos h]; exact rd3_e3y g left rests er found v h
      · unfold nextR; simp only [RD.next, if_neg h]; exact rd3_e3n g left rests er found v h
    | p1 => exact rd3_p1 g left rests er found
    | p2 =>
      by_cases h : g.w.v = er
      · unfold nextR; simp only [RD.next, if_pos h]; exact rd3_p2y g left rests er found h
      · unfold nextR; simp only [RD.next, if_neg h]; exact rd3_p2n g left rests er found h
    | p3 =>
      rcases hp rfl with rfl | rfl | rfl
      · exact rd3_p3n g left er found found
      · exact rd3_p3y1 g left er found found
      · exact rd3_p3y2 g left er found found
    | l1 =>
      by_cases h : left - 1 ≤ 0
      · unfold nextR; simp only [RD.next, if_pos h]; exact rd3_l1y g left rests er found (by omega) (by omega) h
      · unfold nextR; simp only [RD.next, if_neg h]; exact rd3_l1n g left rests er found (by omega) (by omega) (by omega)
/-- A reader at its start. -/
def RD.start (left : Int) : RD := if left ≤ 0 then ⟨.fin, left, 0, 0, 0⟩ else ⟨.e1, left, 0, 0, 0⟩
theorem rd_start (t : Nat) (ht : t = 2 ∨ t = 3) (left : Int) : HoldsL 159 [.agg [i64 3, i64 8, i64 0, i64 (t : Int), i64 left, i64 0, i64 0, nilI, i64 0, i64 0, i64 0], .agg (gtL ⟨wz, false⟩)] [.t (.ifc 87 (rdT t (RD.start left))), .t (.agg (acL ((RD.start left).act t))), .t (bl (RD.start left).fin)] := by
  rcases ht with rfl | rfl
  · by_cases h : left ≤ 0
    · simp only [RD.start, if_pos h]; exact rd2_go_fin ⟨wz, false⟩ left 0 0 0 h
    · simp only [RD.start, if_neg h]; exact rd2_go_e1 ⟨wz, false⟩ left 0 0 0 (by omega)
  · by_cases h : left ≤ 0
    · simp only [RD.start, if_pos h]; exact rd3_go_fin ⟨wz, false⟩ left 0 0 0 h
    · simp only [RD.start, if_neg h]; exact rd3_go_e1 ⟨wz, false⟩ left 0 0 0 (by omega)
end Go.Proofs.YtiegfchaepbnbaaGreatDoor
namespace Go.Proofs.YtiegfchaepbnbaaGreatDoor
open Go Go.RowKit Go.Va
set_option maxRecDepth 100000
set_option maxHeartbeats 1000000
inductive WC where
  | fin | a0 | a1 (o : Wd) | u1 | u2 (o : Wd) | u3 | u4
structure WR where
  c : WC
  oc : T
  ops : List Int
  bag : List It
  free : List Int
  gen : Nat → Int
  birth : Nat → Int
  root : Wd
  old : Int
  seen : List Int
def opsS (l : List Int) : T := .sl (rows u8L l) l.length false
def freeS (l : List Int) : T := .sl (rows i1L l) l.length false
def WR.phase (w : WR) : Int := match w.c with
  | .u1 => 1 | .u2 _ => 2 | .u3 => 3 | .u4 => 4 | _ => 0
def WR.now (w : WR) : T := match w.c with
  | .a0 => codeT 0 0 false fRai
  | .a1 o => codeT 0 (o.v + 1) true fRai
  | _ => nilI
def wtT (w : WR) : T := .agg [i64 3, i64 8, i64 0, .box w.oc, i64 w.phase, w.now, bsT itL w.bag, freeS w.free, i64 (w.gen 0), i64 (w.gen 1), i64 (w.gen 2), i64 (w.gen 3), i64 (w.birth 0), i64 (w.birth 1), i64 (w.birth 2), i64 (w.birth 3), i64 w.root.v, u32 w.root.a, u32 w.root.r, i64 w.old, bsT i1L w.seen, bl false]
/-- What begin is given. -/
def wtB (ph : Int) (w : WR) : T := .agg [i64 3, i64 8, i64 0, opsS w.ops, i64 ph, nilI, bsT itL w.bag, freeS w.free, i64 (w.gen 0), i64 (w.gen 1), i64 (w.gen 2), i64 (w.gen 3), i64 (w.birth 0), i64 (w.birth 1), i64 (w.birth 2), i64 (w.birth 3), i64 w.root.v, u32 w.root.a, u32 w.root.r, i64 w.old, bsT i1L w.seen, bl false]
def WR.act (w : WR) : Ac := match w.c with
  | .fin => ac0
  | .a0 => ⟨5, 1, wz, wz⟩
  | .a1 o => ⟨6, 1, o, ⟨o.v + 1, 0, 0⟩⟩
  | .u1 => ⟨5, 1, wz, wz⟩
  | .u2 o => ⟨6, 56, o, w.root⟩
  | .u3 => ⟨5, 1, wz, wz⟩
  | .u4 => ⟨5, 8 * (w.seen.length + 1), wz, wz⟩
def WR.fin (w : WR) : Bool := match w.c with
  | .fin => true | _ => false
def WR.begin (w : WR) : WR := match w.ops with
  | [] => { w with c := .fin, oc := opsS w.ops }
  | x :: _ => if Int.tmod x 3 = 0 then { w with c := .a0, oc := opsS w.ops } else if w.free = [] then { w with c := .u4, seen := [], oc := opsS w.ops } else { w with c := .u1, oc := opsS w.ops }
theorem tle_slbox (xs : List T) (n : Nat) (c : Bool) : TLe (.sl xs n c) (.box (.sl xs n c)) := tle_box fun h I v hr => by simp only [RT] at hr; obtain ⟨b, lo, cap, cc, e, fr, rfl, _⟩ := hr; rfl
theorem tle_ifc' {t : TypeId} {x y : T} (h : TLe x y) : TLe (.ifc t x) (.ifc t y) := fun hp I v hr => by
  simp only [RT] at hr ⊢
  obtain ⟨u, h1, h2⟩ := hr
  exact ⟨u, h1, h _ _ _ h2⟩
theorem rle3 {t : TypeId} {x y : T} {a b : T} (h : TLe x y) : RLes [.t (.ifc t x), .t a, .t b] [.t (.ifc t y), .t a, .t b] := .t (tle_ifc' h) (RLes.refl _)
/-- Writers: the cells that differ in shape. -/
theorem tle_wr {x1 x2 x3 a a' p n b f f' g0 g1 g2 g3 h0 h1 h2 h3 r1 r2 r3 o s s' k : T} (ha : TLe a a') (hf : TLe f f') (hs : TLe s s') :
    TLe (.agg [x1, x2, x3, a, p, n, b, f, g0, g1, g2, g3, h0, h1, h2, h3, r1, r2, r3, o, s, k]) (.agg [x1, x2, x3, a', p, n, b, f', g0, g1, g2, g3, h0, h1, h2, h3, r1, r2, r3, o, s', k]) :=
  tle_agg (.cons (tle_refl _) (.cons (tle_refl _) (.cons (tle_refl _) (.cons ha (.cons (tle_refl _) (.cons (tle_refl _) (.cons (tle_refl _) (.cons hf
    (.cons (tle_refl _) (.cons (tle_refl _) (.cons (tle_refl _) (.cons (tle_refl _) (.cons (tle_refl _) (.cons (tle_refl _) (.cons (tle_refl _) (.cons (tle_refl _)
    (.cons (tle_refl _) (.cons (tle_refl _) (.cons (tle_refl _) (.cons (tle_refl _) (.cons hs (TLes.refl _))))))))))))))))))))))
def beginR (ph : Int) (w : WR) : Prop := HoldsL 142 [wtB ph w] [.t (.ifc 68 (wtT w.begin)), .t (.agg (acL w.begin.act)), .t (bl w.begin.fin)]
theorem begin_holds (ph : Int) (w : WR) : beginR ph w := by
  obtain ⟨c, oc, ops, bag, free, gen, birth, root, old, seen⟩ := w
  unfold beginR
  cases ops with
  | nil => exact holds_res (rle3 (tle_wr (tle_slbox _ _ _) (tle_refl _) (tle_refl _))) (bg_fin1 ph bag free seen (gen 0) (gen 1) (gen 2) (gen 3) (birth 0) (birth 1) (birth 2) (birth 3) root.v root.a root.r old)
  | cons x r =>
    by_cases h : Int.tmod x 3 = 0
    · simp only [WR.begin, if_pos h]
      exact holds_res (rle3 (tle_wr (tle_slbox _ _ _) (tle_refl _) (tle_refl _))) (bg_adv ph bag free seen (gen 0) (gen 1) (gen 2) (gen 3) (birth 0) (birth 1) (birth 2) (birth 3) root.v root.a root.r old x r h)
    · cases free with
      | nil =>
        simp only [WR.begin, if_neg h, if_pos]
        exact holds_res (rle3 (tle_wr (tle_slbox _ _ _) (tle_refl _) (bs_out i1L []))) (bg_sw ph bag seen (gen 0) (gen 1) (gen 2) (gen 3) (birth 0) (birth 1) (birth 2) (birth 3) root.v root.a root.r old x r h)
      | cons b fr =>
        have hne : ¬ (b :: fr = []) := by simp
        simp only [WR.begin, if_neg h, if_neg hne]
        exact holds_res (rle3 (tle_wr (tle_slbox _ _ _) (tle_refl _) (tle_refl _))) (bg_up ph bag (b :: fr) seen (gen 0) (gen 1) (gen 2) (gen 3) (birth 0) (birth 1) (birth 2) (birth 3) root.v root.a root.r old x r h (by simp))
def WR.next (w : WR) (g : Gt) (gn : List Int) : WR := match w.c with
  | .fin => w
  | .a0 => { w with c := .a1 g.w }
  | .a1 _ => WR.begin { w with ops := w.ops.tail }
  | .u1 => match w.free with
    | [] => w
    | b :: fr => { w with c := .u2 w.root, free := fr, gen := upd w.gen b.toNat (w.gen b.toNat + 1), birth := upd w.birth b.toNat g.w.v, old := (w.root.v - 1) % 16, root := ⟨(w.gen b.toNat + 1) * 16 + b + 1, w.root.a + 1, 0⟩ }
  | .u2 _ => { w with c := .u3 }
  | .u3 => { w with c := .u4, bag := w.bag ++ [⟨w.old, w.birth w.old.toNat, g.w.v⟩], seen := [] }
  | .u4 => if w.seen.length < 2 then { w with seen := w.seen ++ [g.w.v] } else
      WR.begin { w with ops := w.ops.tail, bag := w.bag.filter fun i => wayB i (w.seen ++ [g.w.v]), free := w.free ++ gn, seen := w.seen ++ [g.w.v] }
/-- What the code asks for. -/
def WR.pre (w : WR) (g : Gt) : Prop := match w.c with
  | .fin => False
  | .a0 => 0 ≤ g.w.v ∧ g.w.v ≤ 1000000
  | .a1 _ => g.ok = true ∧ w.ops ≠ [] ∧ w.oc = opsS w.ops
  | .u1 => ∃ b fr, w.free = b :: fr ∧ (b = 0 ∨ b = 1 ∨ b = 2 ∨ b = 3) ∧ 1 ≤ w.root.v ∧ w.root.v ≤ 1000000000 ∧ 0 ≤ w.root.a ∧ w.root.a ≤ 1000000 ∧ 0 ≤ w.gen b.toNat ∧ w.gen b.toNat ≤ 1000000
  | .u2 _ => g.ok = true
  | .u3 => (w.old = 0 ∨ w.old = 1 ∨ w.old = 2 ∨ w.old = 3) ∧ w.bag.length ≤ 2 ∧ 0 ≤ w.birth w.old.toNat ∧ w.birth w.old.toNat ≤ g.w.v ∧ ∀ i ∈ w.bag, i.b ≠ w.old
  | .u4 => w.seen.length ≤ 2 ∧ w.bag.length ≤ 3 ∧ w.free.length ≤ 100 ∧ w.ops ≠ [] ∧ w.oc = opsS w.ops
def nextW (w : WR) (g : Gt) (gn : List Int) : Prop := HoldsL 141 [wtT w, .agg (gtL g)] [.t (.ifc 68 (wtT (w.next g gn))), .t (.agg (acL ((w.next g gn).act))), .t (bl (w.next g gn).fin)]
/-- The blocks that a sweep frees. -/
def swept (w : WR) (g : Gt) (gn : List Int) : Prop := gn.Perm ((w.bag.filter fun i => !wayB i (w.seen ++ [g.w.v])).map It.b)
theorem wr_next (w : WR) (g : Gt) (hp : w.pre g) : ∃ gn, (w.c = .u4 → 2 ≤ w.seen.length → swept w g gn) ∧ nextW w g gn := by
  obtain ⟨c, oc, ops, bag, free, gen, birth, root, old, seen⟩ := w
  obtain ⟨gw, gok⟩ := g
  cases c with
  | fin => exact hp.elim
  | a0 => exact ⟨[], fun h => (by cases h), wn_a0 bag free seen (gen 0) (gen 1) (gen 2) (gen 3) (birth 0) (birth 1) (birth 2) (birth 3) root.v root.a root.r old oc ⟨gw, gok⟩ hp.1 hp.2⟩
  | a1 o =>
    obtain ⟨h1, h2, h3⟩ := hp
    simp only at h1 h2 h3
    subst h1 h3
    cases ops with
    | nil => exact (h2 rfl).elim
    | cons x r =>
      exact ⟨[], fun h => (by cases h), wn_a1 bag free seen (gen 0) (gen 1) (gen 2) (gen 3) (birth 0) (birth 1) (birth 2) (birth 3) root.v root.a root.r old ⟨gw, true⟩ (o.v + 1) x r rfl _ _ _ (begin_holds 0 ⟨.a1 o, opsS (x :: r), r, bag, free, gen, birth, root, old, seen⟩)⟩
  | u1 =>
    obtain ⟨b, fr, h1, hb, h2, h3, h4, h5, h6, h7⟩ := hp
    simp only at h1 h2 h3 h4 h5 h6 h7
    subst h1
    rcases hb with rfl | rfl | rfl | rfl
    · exact ⟨[], fun h => (by cases h), wn_u1_0 bag fr seen (gen 0) (gen 1) (gen 2) (gen 3) (birth 0) (birth 1) (birth 2) (birth 3) root.v root.a root.r old oc ⟨gw, gok⟩ h2 h3 h4 h5 h6 h7⟩
    · exact ⟨[], fun h => (by cases h), wn_u1_1 bag fr seen (gen 0) (gen 1) (gen 2) (gen 3) (birth 0) (birth 1) (birth 2) (birth 3) root.v root.a root.r old oc ⟨gw, gok⟩ h2 h3 h4 h5 h6 h7⟩
    · exact ⟨[], fun h => (by cases h), wn_u1_2 bag fr seen (gen 0) (gen 1) (gen 2) (gen 3) (birth 0) (birth 1) (birth 2) (birth 3) root.v root.a root.r old oc ⟨gw, gok⟩ h2 h3 h4 h5 h6 h7⟩
    · exact ⟨[], fun h => (by cases h), wn_u1_3 bag fr seen (gen 0) (gen 1) (gen 2) (gen 3) (birth 0) (birth 1) (birth 2) (birth 3) root.v root.a root.r old oc ⟨gw, gok⟩ h2 h3 h4 h5 h6 h7⟩
  | u2 o =>
    have h1 : gok = true := hp
    subst h1
    exact ⟨[], fun h => (by cases h), wn_u2 bag free seen (gen 0) (gen 1) (gen 2) (gen 3) (birth 0) (birth 1) (birth 2) (birth 3) root.v root.a root.r old oc ⟨gw, true⟩ rfl⟩
  | u3 =>
    obtain ⟨ho, h1, h2, h3, h4⟩ := hp
    simp only at ho h1 h2 h3 h4
    rcases ho with rfl | rfl | rfl | rfl
    · exact ⟨[], fun h => (by cases h), holds_res (rle3 (tle_wr (tle_refl _) (tle_refl _) (bs_out i1L []))) (wn_u3_0 bag free seen (gen 0) (gen 1) (gen 2) (gen 3) (birth 0) (birth 1) (birth 2) (birth 3) root.v root.a root.r oc ⟨gw, gok⟩ h1 h2 h3 h4)⟩
    · exact ⟨[], fun h => (by cases h), holds_res (rle3 (tle_wr (tle_refl _) (tle_refl _) (bs_out i1L []))) (wn_u3_1 bag free seen (gen 0) (gen 1) (gen 2) (gen 3) (birth 0) (birth 1) (birth 2) (birth 3) root.v root.a root.r oc ⟨gw, gok⟩ h1 h2 h3 h4)⟩
    · exact ⟨[], fun h => (by cases h), holds_res (rle3 (tle_wr (tle_refl _) (tle_refl _) (bs_out i1L []))) (wn_u3_2 bag free seen (gen 0) (gen 1) (gen 2) (gen 3) (birth 0) (birth 1) (birth 2) (birth 3) root.v root.a root.r oc ⟨gw, gok⟩ h1 h2 h3 h4)⟩
    · exact ⟨[], fun h => (by cases h), holds_res (rle3 (tle_wr (tle_refl _) (tle_refl _) (bs_out i1L []))) (wn_u3_3 bag free seen (gen 0) (gen 1) (gen 2) (gen 3) (birth 0) (birth 1) (birth 2) (birth 3) root.v root.a root.r oc ⟨gw, gok⟩ h1 h2 h3 h4)⟩
  | u4 =>
    obtain ⟨h1, h2, h3, h4, h5⟩ := hp
    simp only at h1 h2 h3 h4 h5
    subst h5
    match seen, h1 with
    | [], _ => exact ⟨[], fun _ h => (by simp at h), holds_res (rle3 (tle_wr (tle_refl _) (tle_refl _) (bs_out i1L [gw.v]))) (wn_u4_0 bag free (gen 0) (gen 1) (gen 2) (gen 3) (birth 0) (birth 1) (birth 2) (birth 3) root.v root.a root.r old _ ⟨gw, gok⟩)⟩
    | [s0], _ => exact ⟨[], fun _ h => (by simp at h), holds_res (rle3 (tle_wr (tle_refl _) (tle_refl _) (bs_out i1L [s0, gw.v]))) (wn_u4_1 bag free (gen 0) (gen 1) (gen 2) (gen 3) (birth 0) (birth 1) (birth 2) (birth 3) root.v root.a root.r old s0 _ ⟨gw, gok⟩)⟩
    | [s0, s1], _ =>
      cases ops with
      | nil => exact (h4 rfl).elim
      | cons x r =>
        obtain ⟨gn, hperm, hsw⟩ := sweep_any bag h2 s0 s1 gw.v
        have hgl : gn.length ≤ 3 := by
          have := hperm.length_eq
          have h6 := List.length_filter_le (fun i => !wayB i [s0, s1, gw.v]) bag
          simp only [List.length_map] at this
          omega
        refine ⟨gn, fun _ _ => hperm, ?_⟩
        cases gn with
        | nil =>
          have hb := begin_holds 4 ⟨.u4, opsS (x :: r), r, bag.filter fun i => wayB i [s0, s1, gw.v], free, gen, birth, root, old, [s0, s1, gw.v]⟩
          have := wn_u4_e bag free (gen 0) (gen 1) (gen 2) (gen 3) (birth 0) (birth 1) (birth 2) (birth 3) root.v root.a root.r old s0 s1 ⟨gw, gok⟩ x r _ hsw _ _ _ (holds_args (.cons (tle_wr (tle_refl _) tle_clip (bs_out i1L [s0, s1, gw.v])) .nil) hb)
          unfold nextW
          simp only [WR.next, List.length_cons, List.length_nil, Nat.lt_irrefl, if_false, List.append_nil]
          exact this
        | cons a gn =>
          have hb := begin_holds 4 ⟨.u4, opsS (x :: r), r, bag.filter fun i => wayB i [s0, s1, gw.v], free ++ a :: gn, gen, birth, root, old, [s0, s1, gw.v]⟩
          have hl : freeS (free ++ a :: gn) = .sl (rows i1L (free ++ a :: gn)) (free.length + (a :: gn).length) false := by unfold freeS; rw [List.length_append]
          have := wn_u4_g bag free (gen 0) (gen 1) (gen 2) (gen 3) (birth 0) (birth 1) (birth 2) (birth 3) root.v root.a root.r old s0 s1 ⟨gw, gok⟩ x r _ (a :: gn) (by simp) h3 (by omega) hsw _ _ _ (holds_args (.cons (tle_wr (tle_refl _) (by rw [hl]; exact tle_refl _) (bs_out i1L [s0, s1, gw.v])) .nil) hb)
          exact this
end Go.Proofs.YtiegfchaepbnbaaGreatDoor
namespace Go.Proofs.YtiegfchaepbnbaaGreatDoor
open Go Go.RowKit Go.Va
set_option maxRecDepth 100000
set_option maxHeartbeats 400000
theorem gW_11 (x x' : T) (a a' : Ac) (l : List Gt) (g : Gt) (hll : l.length ≤ 100000) (hn : HoldsL 141 [x, .agg (gtL g)] [.t (.ifc 68 x'), .t (.agg (acL a')), .t (bl true)]) (he : l = []) : HoldsL 45 [(T.agg [(T.box (T.ifc 68 x)), (T.box (T.fn (.method "Next") [(T.ifc 68 x)] [])), (i64 a.op), (i64 ((a.ad : Nat) : Int)), (i64 a.o.v), (u32 a.o.a), (u32 a.o.r), (i64 a.n.v), (u32 a.n.a), (u32 a.n.r), (bsT gtL l)]), (T.agg [(i64 g.w.v), (u32 g.w.a), (u32 g.w.r), (bl g.ok)])] [(R.t (T.agg [(T.ifc 68 x'), nilF, (i64 0), (i64 0), (i64 0), (u32 0), (u32 0), (i64 0), (u32 0), (u32 0), (bsT gtL (l ++ [g]))]))] := by
  have e : runX Tryz.prog gG noF 20 45 [(T.agg [(T.box (T.ifc 68 x)), (T.box (T.fn (.method "Next") [(T.ifc 68 x)] [])), (i64 a.op), (i64 ((a.ad : Nat) : Int)), (i64 a.o.v), (u32 a.o.a), (u32 a.o.r), (i64 a.n.v), (u32 a.n.a), (u32 a.n.r), (bsT gtL l)]), (T.agg [(i64 g.w.v), (u32 g.w.a), (u32 g.w.r), (bl g.ok)])] [((45, 7), .call [(R.t (bl false))]), ((45, 10), .ub), ((45, 13), .call [(R.t nilS)]), ((45, 16), .axw 1 [(i64 g.w.v), (u32 g.w.a), (u32 g.w.r), (bl g.ok)] (bsT gtL (l ++ [g]))), ((45, 21), .call [(R.t (T.ifc 68 x')), (R.t (T.agg [(i64 a'.op), (i64 ((a'.ad : Nat) : Int)), (i64 a'.o.v), (u32 a'.o.a), (u32 a'.o.r), (i64 a'.n.v), (u32 a'.n.a), (u32 a'.n.r)])), (R.t (bl true))])] = some ([(R.t (T.agg [(T.ifc 68 x'), nilF, (i64 0), (i64 0), (i64 0), (u32 0), (u32 0), (i64 0), (u32 0), (u32 0), (bsT gtL (l ++ [g]))]))], [], [HoldsL 8 [(T.agg [(T.box (T.ifc 68 x)), (T.box (T.fn (.method "Next") [(T.ifc 68 x)] [])), (i64 a.op), (i64 ((a.ad : Nat) : Int)), (i64 a.o.v), (u32 a.o.a), (u32 a.o.r), (i64 a.n.v), (u32 a.n.a), (u32 a.n.r), (bsT gtL l)])] [(R.t (bl false))],
      HoldsL 70 [(bsT gtL l)] [(R.t nilS)],
      TLe (T.sl [(i64 g.w.v), (u32 g.w.a), (u32 g.w.r), (bl g.ok)] 1 false) (bsT gtL (l ++ [g])),
      List.length [(C.t (i64 g.w.v)), (C.t (u32 g.w.a)), (C.t (u32 g.w.r)), (C.t (bl g.ok))] = 1 * 4,
      1 ≠ 0,
      1 = 1,
      roomB 1 24 = true,
      [(C.t (i64 g.w.v)), (C.t (u32 g.w.a)), (C.t (u32 g.w.r)), (C.t (bl g.ok))] = [(C.t (i64 g.w.v)), (C.t (u32 g.w.a)), (C.t (u32 g.w.r)), (C.t (bl g.ok))],
      List.map C.t [(i64 g.w.v), (u32 g.w.a), (u32 g.w.r), (bl g.ok)] = List.map C.t [(i64 g.w.v), (u32 g.w.a), (u32 g.w.r), (bl g.ok)],
      List.length [(i64 g.w.v), (u32 g.w.a), (u32 g.w.r), (bl g.ok)] = 1 * 4,
      HoldsL 141 [x, (T.agg [(i64 g.w.v), (u32 g.w.a), (u32 g.w.r), (bl g.ok)])] [(R.t (T.ifc 68 x')), (R.t (T.agg [(i64 a'.op), (i64 ((a'.ad : Nat) : Int)), (i64 a'.o.v), (u32 a'.o.a), (u32 a'.o.r), (i64 a'.n.v), (u32 a'.n.a), (u32 a'.n.r)])), (R.t (bl true))]]) := by kernel_rfl
  exact sndL 20 _ _ _ _ _ _ e (.cons (done_no _ a l) (.cons (by rw [he]; exact clipG0) (.cons (by have := bs_sl gtL [] g 1 rfl; rw [he]; exact this) (.cons rfl (.cons (by decide) (.cons (by first | rfl | omega) (.cons (roomOk (by omega)) (.cons rfl (.cons rfl (.cons (by simp [] <;> omega) (.cons hn .nil)))))))))))
theorem gW_10 (x x' : T) (a a' : Ac) (l : List Gt) (g : Gt) (hll : l.length ≤ 100000) (hn : HoldsL 141 [x, .agg (gtL g)] [.t (.ifc 68 x'), .t (.agg (acL a')), .t (bl true)]) (he : l ≠ []) : HoldsL 45 [(T.agg [(T.box (T.ifc 68 x)), (T.box (T.fn (.method "Next") [(T.ifc 68 x)] [])), (i64 a.op), (i64 ((a.ad : Nat) : Int)), (i64 a.o.v), (u32 a.o.a), (u32 a.o.r), (i64 a.n.v), (u32 a.n.a), (u32 a.n.r), (bsT gtL l)]), (T.agg [(i64 g.w.v), (u32 g.w.a), (u32 g.w.r), (bl g.ok)])] [(R.t (T.agg [(T.ifc 68 x'), nilF, (i64 0), (i64 0), (i64 0), (u32 0), (u32 0), (i64 0), (u32 0), (u32 0), (bsT gtL (l ++ [g]))]))] := by
  have e : runX Tryz.prog gG noF 20 45 [(T.agg [(T.box (T.ifc 68 x)), (T.box (T.fn (.method "Next") [(T.ifc 68 x)] [])), (i64 a.op), (i64 ((a.ad : Nat) : Int)), (i64 a.o.v), (u32 a.o.a), (u32 a.o.r), (i64 a.n.v), (u32 a.n.a), (u32 a.n.r), (bsT gtL l)]), (T.agg [(i64 g.w.v), (u32 g.w.a), (u32 g.w.r), (bl g.ok)])] [((45, 7), .call [(R.t (bl false))]), ((45, 10), .ub), ((45, 13), .call [(R.t (T.sl (rows gtL l) l.length true))]), ((45, 16), .axw (l.length + 1) (rows gtL (l ++ [g])) (bsT gtL (l ++ [g]))), ((45, 21), .call [(R.t (T.ifc 68 x')), (R.t (T.agg [(i64 a'.op), (i64 ((a'.ad : Nat) : Int)), (i64 a'.o.v), (u32 a'.o.a), (u32 a'.o.r), (i64 a'.n.v), (u32 a'.n.a), (u32 a'.n.r)])), (R.t (bl true))])] = some ([(R.t (T.agg [(T.ifc 68 x'), nilF, (i64 0), (i64 0), (i64 0), (u32 0), (u32 0), (i64 0), (u32 0), (u32 0), (bsT gtL (l ++ [g]))]))], [], [HoldsL 8 [(T.agg [(T.box (T.ifc 68 x)), (T.box (T.fn (.method "Next") [(T.ifc 68 x)] [])), (i64 a.op), (i64 ((a.ad : Nat) : Int)), (i64 a.o.v), (u32 a.o.a), (u32 a.o.r), (i64 a.n.v), (u32 a.n.a), (u32 a.n.r), (bsT gtL l)])] [(R.t (bl false))],
      HoldsL 70 [(bsT gtL l)] [(R.t (T.sl (rows gtL l) l.length true))],
      TLe (T.sl (rows gtL (l ++ [g])) (l.length + 1) false) (bsT gtL (l ++ [g])),
      List.length [(C.t (i64 g.w.v)), (C.t (u32 g.w.a)), (C.t (u32 g.w.r)), (C.t (bl g.ok))] = 1 * 4,
      1 ≠ 0,
      l.length + 1 = (l.length + 1),
      true = true,
      List.length (rows gtL l) = l.length * 4,
      roomB (l.length + 1) 24 = true,
      List.map C.t (rows gtL l) ++ [(C.t (i64 g.w.v)), (C.t (u32 g.w.a)), (C.t (u32 g.w.r)), (C.t (bl g.ok))] = (List.map C.t (rows gtL (l ++ [g]))),
      List.map C.t (rows gtL (l ++ [g])) = List.map C.t (rows gtL (l ++ [g])),
      List.length (rows gtL (l ++ [g])) = (l.length + 1) * 4,
      HoldsL 141 [x, (T.agg [(i64 g.w.v), (u32 g.w.a), (u32 g.w.r), (bl g.ok)])] [(R.t (T.ifc 68 x')), (R.t (T.agg [(i64 a'.op), (i64 ((a'.ad : Nat) : Int)), (i64 a'.o.v), (u32 a'.o.a), (u32 a'.o.r), (i64 a'.n.v), (u32 a'.n.a), (u32 a'.n.r)])), (R.t (bl true))]]) := by kernel_rfl
  exact sndL 20 _ _ _ _ _ _ e (.cons (done_no _ a l) (.cons (clipG1 _ he) (.cons (bs_sl gtL l g _ (by simp)) (.cons rfl (.cons (by decide) (.cons (by first | rfl | omega) (.cons rfl (.cons (by simp [rows_len gtL_len] <;> omega) (.cons (roomOk (by omega)) (.cons (appRows l g rfl) (.cons rfl (.cons (by simp [rows_len gtL_len] <;> omega) (.cons hn .nil)))))))))))))
theorem gW_01 (x x' : T) (a a' : Ac) (l : List Gt) (g : Gt) (hll : l.length ≤ 100000) (hn : HoldsL 141 [x, .agg (gtL g)] [.t (.ifc 68 x'), .t (.agg (acL a')), .t (bl false)]) (he : l = []) : HoldsL 45 [(T.agg [(T.box (T.ifc 68 x)), (T.box (T.fn (.method "Next") [(T.ifc 68 x)] [])), (i64 a.op), (i64 ((a.ad : Nat) : Int)), (i64 a.o.v), (u32 a.o.a), (u32 a.o.r), (i64 a.n.v), (u32 a.n.a), (u32 a.n.r), (bsT gtL l)]), (T.agg [(i64 g.w.v), (u32 g.w.a), (u32 g.w.r), (bl g.ok)])] [(R.t (T.agg [(T.ifc 68 x'), (T.fn (.method "Next") [(T.ifc 68 x')] []), (i64 a'.op), (i64 ((a'.ad : Nat) : Int)), (i64 a'.o.v), (u32 a'.o.a), (u32 a'.o.r), (i64 a'.n.v), (u32 a'.n.a), (u32 a'.n.r), (bsT gtL (l ++ [g]))]))] := by
  have e : runX Tryz.prog gG noF 20 45 [(T.agg [(T.box (T.ifc 68 x)), (T.box (T.fn (.method "Next") [(T.ifc 68 x)] [])), (i64 a.op), (i64 ((a.ad : Nat) : Int)), (i64 a.o.v), (u32 a.o.a), (u32 a.o.r), (i64 a.n.v), (u32 a.n.a), (u32 a.n.r), (bsT gtL l)]), (T.agg [(i64 g.w.v), (u32 g.w.a), (u32 g.w.r), (bl g.ok)])] [((45, 7), .call [(R.t (bl false))]), ((45, 10), .ub), ((45, 13), .call [(R.t nilS)]), ((45, 16), .axw 1 [(i64 g.w.v), (u32 g.w.a), (u32 g.w.r), (bl g.ok)] (bsT gtL (l ++ [g]))), ((45, 21), .call [(R.t (T.ifc 68 x')), (R.t (T.agg [(i64 a'.op), (i64 ((a'.ad : Nat) : Int)), (i64 a'.o.v), (u32 a'.o.a), (u32 a'.o.r), (i64 a'.n.v), (u32 a'.n.a), (u32 a'.n.r)])), (R.t (bl false))])] = some ([(R.t (T.agg [(T.ifc 68 x'), (T.fn (.method "Next") [(T.ifc 68 x')] []), (i64 a'.op), (i64 ((a'.ad : Nat) : Int)), (i64 a'.o.v), (u32 a'.o.a), (u32 a'.o.r), (i64 a'.n.v), (u32 a'.n.a), (u32 a'.n.r), (bsT gtL (l ++ [g]))]))], [], [HoldsL 8 [(T.agg [(T.box (T.ifc 68 x)), (T.box (T.fn (.method "Next") [(T.ifc 68 x)] [])), (i64 a.op), (i64 ((a.ad : Nat) : Int)), (i64 a.o.v), (u32 a.o.a), (u32 a.o.r), (i64 a.n.v), (u32 a.n.a), (u32 a.n.r), (bsT gtL l)])] [(R.t (bl false))],
      HoldsL 70 [(bsT gtL l)] [(R.t nilS)],
      TLe (T.sl [(i64 g.w.v), (u32 g.w.a), (u32 g.w.r), (bl g.ok)] 1 false) (bsT gtL (l ++ [g])),
      List.length [(C.t (i64 g.w.v)), (C.t (u32 g.w.a)), (C.t (u32 g.w.r)), (C.t (bl g.ok))] = 1 * 4,
      1 ≠ 0,
      1 = 1,
      roomB 1 24 = true,
      [(C.t (i64 g.w.v)), (C.t (u32 g.w.a)), (C.t (u32 g.w.r)), (C.t (bl g.ok))] = [(C.t (i64 g.w.v)), (C.t (u32 g.w.a)), (C.t (u32 g.w.r)), (C.t (bl g.ok))],
      List.map C.t [(i64 g.w.v), (u32 g.w.a), (u32 g.w.r), (bl g.ok)] = List.map C.t [(i64 g.w.v), (u32 g.w.a), (u32 g.w.r), (bl g.ok)],
      List.length [(i64 g.w.v), (u32 g.w.a), (u32 g.w.r), (bl g.ok)] = 1 * 4,
      HoldsL 141 [x, (T.agg [(i64 g.w.v), (u32 g.w.a), (u32 g.w.r), (bl g.ok)])] [(R.t (T.ifc 68 x')), (R.t (T.agg [(i64 a'.op), (i64 ((a'.ad : Nat) : Int)), (i64 a'.o.v), (u32 a'.o.a), (u32 a'.o.r), (i64 a'.n.v), (u32 a'.n.a), (u32 a'.n.r)])), (R.t (bl false))]]) := by kernel_rfl
  exact sndL 20 _ _ _ _ _ _ e (.cons (done_no _ a l) (.cons (by rw [he]; exact clipG0) (.cons (by have := bs_sl gtL [] g 1 rfl; rw [he]; exact this) (.cons rfl (.cons (by decide) (.cons (by first | rfl | omega) (.cons (roomOk (by omega)) (.cons rfl (.cons rfl (.cons (by simp [] <;> omega) (.cons hn .nil)))))))))))
theorem gW_00 (x x' : T) (a a' : Ac) (l : List Gt) (g : Gt) (hll : l.length ≤ 100000) (hn : HoldsL 141 [x, .agg (gtL g)] [.t (.ifc 68 x'), .t (.agg (acL a')), .t (bl false)]) (he : l ≠ []) : HoldsL 45 [(T.agg [(T.box (T.ifc 68 x)), (T.box (T.fn (.method "Next") [(T.ifc 68 x)] [])), (i64 a.op), (i64 ((a.ad : Nat) : Int)), (i64 a.o.v), (u32 a.o.a), (u32 a.o.r), (i64 a.n.v), (u32 a.n.a), (u32 a.n.r), (bsT gtL l)]), (T.agg [(i64 g.w.v), (u32 g.w.a), (u32 g.w.r), (bl g.ok)])] [(R.t (T.agg [(T.ifc 68 x'), (T.fn (.method "Next") [(T.ifc 68 x')] []), (i64 a'.op), (i64 ((a'.ad : Nat) : Int)), (i64 a'.o.v), (u32 a'.o.a), (u32 a'.o.r), (i64 a'.n.v), (u32 a'.n.a), (u32 a'.n.r), (bsT gtL (l ++ [g]))]))] := by
  have e : runX Tryz.prog gG noF 20 45 [(T.agg [(T.box (T.ifc 68 x)), (T.box (T.fn (.method "Next") [(T.ifc 68 x)] [])), (i64 a.op), (i64 ((a.ad : Nat) : Int)), (i64 a.o.v), (u32 a.o.a), (u32 a.o.r), (i64 a.n.v), (u32 a.n.a), (u32 a.n.r), (bsT gtL l)]), (T.agg [(i64 g.w.v), (u32 g.w.a), (u32 g.w.r), (bl g.ok)])] [((45, 7), .call [(R.t (bl false))]), ((45, 10), .ub), ((45, 13), .call [(R.t (T.sl (rows gtL l) l.length true))]), ((45, 16), .axw (l.length + 1) (rows gtL (l ++ [g])) (bsT gtL (l ++ [g]))), ((45, 21), .call [(R.t (T.ifc 68 x')), (R.t (T.agg [(i64 a'.op), (i64 ((a'.ad : Nat) : Int)), (i64 a'.o.v), (u32 a'.o.a), (u32 a'.o.r), (i64 a'.n.v), (u32 a'.n.a), (u32 a'.n.r)])), (R.t (bl false))])] = some ([(R.t (T.agg [(T.ifc 68 x'), (T.fn (.method "Next") [(T.ifc 68 x')] []), (i64 a'.op), (i64 ((a'.ad : Nat) : Int)), (i64 a'.o.v), (u32 a'.o.a), (u32 a'.o.r), (i64 a'.n.v), (u32 a'.n.a), (u32 a'.n.r), (bsT gtL (l ++ [g]))]))], [], [HoldsL 8 [(T.agg [(T.box (T.ifc 68 x)), (T.box (T.fn (.method "Next") [(T.ifc 68 x)] [])), (i64 a.op), (i64 ((a.ad : Nat) : Int)), (i64 a.o.v), (u32 a.o.a), (u32 a.o.r), (i64 a.n.v), (u32 a.n.a), (u32 a.n.r), (bsT gtL l)])] [(R.t (bl false))],
      HoldsL 70 [(bsT gtL l)] [(R.t (T.sl (rows gtL l) l.length true))],
      TLe (T.sl (rows gtL (l ++ [g])) (l.length + 1) false) (bsT gtL (l ++ [g])),
      List.length [(C.t (i64 g.w.v)), (C.t (u32 g.w.a)), (C.t (u32 g.w.r)), (C.t (bl g.ok))] = 1 * 4,
      1 ≠ 0,
      l.length + 1 = (l.length + 1),
      true = true,
      List.length (rows gtL l) = l.length * 4,
      roomB (l.length + 1) 24 = true,
      List.map C.t (rows gtL l) ++ [(C.t (i64 g.w.v)), (C.t (u32 g.w.a)), (C.t (u32 g.w.r)), (C.t (bl g.ok))] = (List.map C.t (rows gtL (l ++ [g]))),
      List.map C.t (rows gtL (l ++ [g])) = List.map C.t (rows gtL (l ++ [g])),
      List.length (rows gtL (l ++ [g])) = (l.length + 1) * 4,
      HoldsL 141 [x, (T.agg [(i64 g.w.v), (u32 g.w.a), (u32 g.w.r), (bl g.ok)])] [(R.t (T.ifc 68 x')), (R.t (T.agg [(i64 a'.op), (i64 ((a'.ad : Nat) : Int)), (i64 a'.o.v), (u32 a'.o.a), (u32 a'.o.r), (i64 a'.n.v), (u32 a'.n.a), (u32 a'.n.r)])), (R.t (bl false))]]) := by kernel_rfl
  exact sndL 20 _ _ _ _ _ _ e (.cons (done_no _ a l) (.cons (clipG1 _ he) (.cons (bs_sl gtL l g _ (by simp)) (.cons rfl (.cons (by decide) (.cons (by first | rfl | omega) (.cons rfl (.cons (by simp [rows_len gtL_len] <;> omega) (.cons (roomOk (by omega)) (.cons (appRows l g rfl) (.cons rfl (.cons (by simp [rows_len gtL_len] <;> omega) (.cons hn .nil)))))))))))))
theorem gR_11 (x x' : T) (a a' : Ac) (l : List Gt) (g : Gt) (hll : l.length ≤ 100000) (hn : HoldsL 159 [x, .agg (gtL g)] [.t (.ifc 87 x'), .t (.agg (acL a')), .t (bl true)]) (he : l = []) : HoldsL 45 [(T.agg [(T.box (T.ifc 87 x)), (T.box (T.fn (.method "Next") [(T.ifc 87 x)] [])), (i64 a.op), (i64 ((a.ad : Nat) : Int)), (i64 a.o.v), (u32 a.o.a), (u32 a.o.r), (i64 a.n.v), (u32 a.n.a), (u32 a.n.r), (bsT gtL l)]), (T.agg [(i64 g.w.v), (u32 g.w.a), (u32 g.w.r), (bl g.ok)])] [(R.t (T.agg [(T.ifc 87 x'), nilF, (i64 0), (i64 0), (i64 0), (u32 0), (u32 0), (i64 0), (u32 0), (u32 0), (bsT gtL (l ++ [g]))]))] := by
  have e : runX Tryz.prog gG noF 20 45 [(T.agg [(T.box (T.ifc 87 x)), (T.box (T.fn (.method "Next") [(T.ifc 87 x)] [])), (i64 a.op), (i64 ((a.ad : Nat) : Int)), (i64 a.o.v), (u32 a.o.a), (u32 a.o.r), (i64 a.n.v), (u32 a.n.a), (u32 a.n.r), (bsT gtL l)]), (T.agg [(i64 g.w.v), (u32 g.w.a), (u32 g.w.r), (bl g.ok)])] [((45, 7), .call [(R.t (bl false))]), ((45, 10), .ub), ((45, 13), .call [(R.t nilS)]), ((45, 16), .axw 1 [(i64 g.w.v), (u32 g.w.a), (u32 g.w.r), (bl g.ok)] (bsT gtL (l ++ [g]))), ((45, 21), .call [(R.t (T.ifc 87 x')), (R.t (T.agg [(i64 a'.op), (i64 ((a'.ad : Nat) : Int)), (i64 a'.o.v), (u32 a'.o.a), (u32 a'.o.r), (i64 a'.n.v), (u32 a'.n.a), (u32 a'.n.r)])), (R.t (bl true))])] = some ([(R.t (T.agg [(T.ifc 87 x'), nilF, (i64 0), (i64 0), (i64 0), (u32 0), (u32 0), (i64 0), (u32 0), (u32 0), (bsT gtL (l ++ [g]))]))], [], [HoldsL 8 [(T.agg [(T.box (T.ifc 87 x)), (T.box (T.fn (.method "Next") [(T.ifc 87 x)] [])), (i64 a.op), (i64 ((a.ad : Nat) : Int)), (i64 a.o.v), (u32 a.o.a), (u32 a.o.r), (i64 a.n.v), (u32 a.n.a), (u32 a.n.r), (bsT gtL l)])] [(R.t (bl false))],
      HoldsL 70 [(bsT gtL l)] [(R.t nilS)],
      TLe (T.sl [(i64 g.w.v), (u32 g.w.a), (u32 g.w.r), (bl g.ok)] 1 false) (bsT gtL (l ++ [g])),
      List.length [(C.t (i64 g.w.v)), (C.t (u32 g.w.a)), (C.t (u32 g.w.r)), (C.t (bl g.ok))] = 1 * 4,
      1 ≠ 0,
      1 = 1,
      roomB 1 24 = true,
      [(C.t (i64 g.w.v)), (C.t (u32 g.w.a)), (C.t (u32 g.w.r)), (C.t (bl g.ok))] = [(C.t (i64 g.w.v)), (C.t (u32 g.w.a)), (C.t (u32 g.w.r)), (C.t (bl g.ok))],
      List.map C.t [(i64 g.w.v), (u32 g.w.a), (u32 g.w.r), (bl g.ok)] = List.map C.t [(i64 g.w.v), (u32 g.w.a), (u32 g.w.r), (bl g.ok)],
      List.length [(i64 g.w.v), (u32 g.w.a), (u32 g.w.r), (bl g.ok)] = 1 * 4,
      HoldsL 159 [x, (T.agg [(i64 g.w.v), (u32 g.w.a), (u32 g.w.r), (bl g.ok)])] [(R.t (T.ifc 87 x')), (R.t (T.agg [(i64 a'.op), (i64 ((a'.ad : Nat) : Int)), (i64 a'.o.v), (u32 a'.o.a), (u32 a'.o.r), (i64 a'.n.v), (u32 a'.n.a), (u32 a'.n.r)])), (R.t (bl true))]]) := by kernel_rfl
  exact sndL 20 _ _ _ _ _ _ e (.cons (done_no _ a l) (.cons (by rw [he]; exact clipG0) (.cons (by have := bs_sl gtL [] g 1 rfl; rw [he]; exact this) (.cons rfl (.cons (by decide) (.cons (by first | rfl | omega) (.cons (roomOk (by omega)) (.cons rfl (.cons rfl (.cons (by simp [] <;> omega) (.cons hn .nil)))))))))))
theorem gR_10 (x x' : T) (a a' : Ac) (l : List Gt) (g : Gt) (hll : l.length ≤ 100000) (hn : HoldsL 159 [x, .agg (gtL g)] [.t (.ifc 87 x'), .t (.agg (acL a')), .t (bl true)]) (he : l ≠ []) : HoldsL 45 [(T.agg [(T.box (T.ifc 87 x)), (T.box (T.fn (.method "Next") [(T.ifc 87 x)] [])), (i64 a.op), (i64 ((a.ad : Nat) : Int)), (i64 a.o.v), (u32 a.o.a), (u32 a.o.r), (i64 a.n.v), (u32 a.n.a), (u32 a.n.r), (bsT gtL l)]), (T.agg [(i64 g.w.v), (u32 g.w.a), (u32 g.w.r), (bl g.ok)])] [(R.t (T.agg [(T.ifc 87 x'), nilF, (i64 0), (i64 0), (i64 0), (u32 0), (u32 0), (i64 0), (u32 0), (u32 0), (bsT gtL (l ++ [g]))]))] := by
  have e : runX Tryz.prog gG noF 20 45 [(T.agg [(T.box (T.ifc 87 x)), (T.box (T.fn (.method "Next") [(T.ifc 87 x)] [])), (i64 a.op), (i64 ((a.ad : Nat) : Int)), (i64 a.o.v), (u32 a.o.a), (u32 a.o.r), (i64 a.n.v), (u32 a.n.a), (u32 a.n.r), (bsT gtL l)]), (T.agg [(i64 g.w.v), (u32 g.w.a), (u32 g.w.r), (bl g.ok)])] [((45, 7), .call [(R.t (bl false))]), ((45, 10), .ub), ((45, 13), .call [(R.t (T.sl (rows gtL l) l.length true))]), ((45, 16), .axw (l.length + 1) (rows gtL (l ++ [g])) (bsT gtL (l ++ [g]))), ((45, 21), .call [(R.t (T.ifc 87 x')), (R.t (T.agg [(i64 a'.op), (i64 ((a'.ad : Nat) : Int)), (i64 a'.o.v), (u32 a'.o.a), (u32 a'.o.r), (i64 a'.n.v), (u32 a'.n.a), (u32 a'.n.r)])), (R.t (bl true))])] = some ([(R.t (T.agg [(T.ifc 87 x'), nilF, (i64 0), (i64 0), (i64 0), (u32 0), (u32 0), (i64 0), (u32 0), (u32 0), (bsT gtL (l ++ [g]))]))], [], [HoldsL 8 [(T.agg [(T.box (T.ifc 87 x)), (T.box (T.fn (.method "Next") [(T.ifc 87 x)] [])), (i64 a.op), (i64 ((a.ad : Nat) : Int)), (i64 a.o.v), (u32 a.o.a), (u32 a.o.r), (i64 a.n.v), (u32 a.n.a), (u32 a.n.r), (bsT gtL l)])] [(R.t (bl false))],
      HoldsL 70 [(bsT gtL l)] [(R.t (T.sl (rows gtL l) l.length true))],
      TLe (T.sl (rows gtL (l ++ [g])) (l.length + 1) false) (bsT gtL (l ++ [g])),
      List.length [(C.t (i64 g.w.v)), (C.t (u32 g.w.a)), (C.t (u32 g.w.r)), (C.t (bl g.ok))] = 1 * 4,
      1 ≠ 0,
      l.length + 1 = (l.length + 1),
      true = true,
      List.length (rows gtL l) = l.length * 4,
      roomB (l.length + 1) 24 = true,
      List.map C.t (rows gtL l) ++ [(C.t (i64 g.w.v)), (C.t (u32 g.w.a)), (C.t (u32 g.w.r)), (C.t (bl g.ok))] = (List.map C.t (rows gtL (l ++ [g]))),
      List.map C.t (rows gtL (l ++ [g])) = List.map C.t (rows gtL (l ++ [g])),
      List.length (rows gtL (l ++ [g])) = (l.length + 1) * 4,
      HoldsL 159 [x, (T.agg [(i64 g.w.v), (u32 g.w.a), (u32 g.w.r), (bl g.ok)])] [(R.t (T.ifc 87 x')), (R.t (T.agg [(i64 a'.op), (i64 ((a'.ad : Nat) : Int)), (i64 a'.o.v), (u32 a'.o.a), (u32 a'.o.r), (i64 a'.n.v), (u32 a'.n.a), (u32 a'.n.r)])), (R.t (bl true))]]) := by kernel_rfl
  exact sndL 20 _ _ _ _ _ _ e (.cons (done_no _ a l) (.cons (clipG1 _ he) (.cons (bs_sl gtL l g _ (by simp)) (.cons rfl (.cons (by decide) (.cons (by first | rfl | omega) (.cons rfl (.cons (by simp [rows_len gtL_len] <;> omega) (.cons (roomOk (by omega)) (.cons (appRows l g rfl) (.cons rfl (.cons (by simp [rows_len gtL_len] <;> omega) (.cons hn .nil)))))))))))))
theorem gR_01 (x x' : T) (a a' : Ac) (l : List Gt) (g : Gt) (hll : l.length ≤ 100000) (hn : HoldsL 159 [x, .agg (gtL g)] [.t (.ifc 87 x'), .t (.agg (acL a')), .t (bl false)]) (he : l = []) : HoldsL 45 [(T.agg [(T.box (T.ifc 87 x)), (T.box (T.fn (.method "Next") [(T.ifc 87 x)] [])), (i64 a.op), (i64 ((a.ad : Nat) : Int)), (i64 a.o.v), (u32 a.o.a), (u32 a.o.r), (i64 a.n.v), (u32 a.n.a), (u32 a.n.r), (bsT gtL l)]), (T.agg [(i64 g.w.v), (u32 g.w.a), (u32 g.w.r), (bl g.ok)])] [(R.t (T.agg [(T.ifc 87 x'), (T.fn (.method "Next") [(T.ifc 87 x')] []), (i64 a'.op), (i64 ((a'.ad : Nat) : Int)), (i64 a'.o.v), (u32 a'.o.a), (u32 a'.o.r), (i64 a'.n.v), (u32 a'.n.a), (u32 a'.n.r), (bsT gtL (l ++ [g]))]))] := by
  have e : runX Tryz.prog gG noF 20 45 [(T.agg [(T.box (T.ifc 87 x)), (T.box (T.fn (.method "Next") [(T.ifc 87 x)] [])), (i64 a.op), (i64 ((a.ad : Nat) : Int)), (i64 a.o.v), (u32 a.o.a), (u32 a.o.r), (i64 a.n.v), (u32 a.n.a), (u32 a.n.r), (bsT gtL l)]), (T.agg [(i64 g.w.v), (u32 g.w.a), (u32 g.w.r), (bl g.ok)])] [((45, 7), .call [(R.t (bl false))]), ((45, 10), .ub), ((45, 13), .call [(R.t nilS)]), ((45, 16), .axw 1 [(i64 g.w.v), (u32 g.w.a), (u32 g.w.r), (bl g.ok)] (bsT gtL (l ++ [g]))), ((45, 21), .call [(R.t (T.ifc 87 x')), (R.t (T.agg [(i64 a'.op), (i64 ((a'.ad : Nat) : Int)), (i64 a'.o.v), (u32 a'.o.a), (u32 a'.o.r), (i64 a'.n.v), (u32 a'.n.a), (u32 a'.n.r)])), (R.t (bl false))])] = some ([(R.t (T.agg [(T.ifc 87 x'), (T.fn (.method "Next") [(T.ifc 87 x')] []), (i64 a'.op), (i64 ((a'.ad : Nat) : Int)), (i64 a'.o.v), (u32 a'.o.a), (u32 a'.o.r), (i64 a'.n.v), (u32 a'.n.a), (u32 a'.n.r), (bsT gtL (l ++ [g]))]))], [], [HoldsL 8 [(T.agg [(T.box (T.ifc 87 x)), (T.box (T.fn (.method "Next") [(T.ifc 87 x)] [])), (i64 a.op), (i64 ((a.ad : Nat) : Int)), (i64 a.o.v), (u32 a.o.a), (u32 a.o.r), (i64 a.n.v), (u32 a.n.a), (u32 a.n.r), (bsT gtL l)])] [(R.t (bl false))],
      HoldsL 70 [(bsT gtL l)] [(R.t nilS)],
      TLe (T.sl [(i64 g.w.v), (u32 g.w.a), (u32 g.w.r), (bl g.ok)] 1 false) (bsT gtL (l ++ [g])),
      List.length [(C.t (i64 g.w.v)), (C.t (u32 g.w.a)), (C.t (u32 g.w.r)), (C.t (bl g.ok))] = 1 * 4,
      1 ≠ 0,
      1 = 1,
      roomB 1 24 = true,
      [(C.t (i64 g.w.v)), (C.t (u32 g.w.a)), (C.t (u32 g.w.r)), (C.t (bl g.ok))] = [(C.t (i64 g.w.v)), (C.t (u32 g.w.a)), (C.t (u32 g.w.r)), (C.t (bl g.ok))],
      List.map C.t [(i64 g.w.v), (u32 g.w.a), (u32 g.w.r), (bl g.ok)] = List.map C.t [(i64 g.w.v), (u32 g.w.a), (u32 g.w.r), (bl g.ok)],
      List.length [(i64 g.w.v), (u32 g.w.a), (u32 g.w.r), (bl g.ok)] = 1 * 4,
      HoldsL 159 [x, (T.agg [(i64 g.w.v), (u32 g.w.a), (u32 g.w.r), (bl g.ok)])] [(R.t (T.ifc 87 x')), (R.t (T.agg [(i64 a'.op), (i64 ((a'.ad : Nat) : Int)), (i64 a'.o.v), (u32 a'.o.a), (u32 a'.o.r), (i64 a'.n.v), (u32 a'.n.a), (u32 a'.n.r)])), (R.t (bl false))]]) := by kernel_rfl
  exact sndL 20 _ _ _ _ _ _ e (.cons (done_no _ a l) (.cons (by rw [he]; exact clipG0) (.cons (by have := bs_sl gtL [] g 1 rfl; rw [he]; exact this) (.cons rfl (.cons (by decide) (.cons (by first | rfl | omega) (.cons (roomOk (by omega)) (.cons rfl (.cons rfl (.cons (by simp [] <;> omega) (.cons hn .nil)))))))))))
theorem gR_00 (x x' : T) (a a' : Ac) (l : List Gt) (g : Gt) (hll : l.length ≤ 100000) (hn : HoldsL 159 [x, .agg (gtL g)] [.t (.ifc 87 x'), .t (.agg (acL a')), .t (bl false)]) (he : l ≠ []) : HoldsL 45 [(T.agg [(T.box (T.ifc 87 x)), (T.box (T.fn (.method "Next") [(T.ifc 87 x)] [])), (i64 a.op), (i64 ((a.ad : Nat) : Int)), (i64 a.o.v), (u32 a.o.a), (u32 a.o.r), (i64 a.n.v), (u32 a.n.a), (u32 a.n.r), (bsT gtL l)]), (T.agg [(i64 g.w.v), (u32 g.w.a), (u32 g.w.r), (bl g.ok)])] [(R.t (T.agg [(T.ifc 87 x'), (T.fn (.method "Next") [(T.ifc 87 x')] []), (i64 a'.op), (i64 ((a'.ad : Nat) : Int)), (i64 a'.o.v), (u32 a'.o.a), (u32 a'.o.r), (i64 a'.n.v), (u32 a'.n.a), (u32 a'.n.r), (bsT gtL (l ++ [g]))]))] := by
  have e : runX Tryz.prog gG noF 20 45 [(T.agg [(T.box (T.ifc 87 x)), (T.box (T.fn (.method "Next") [(T.ifc 87 x)] [])), (i64 a.op), (i64 ((a.ad : Nat) : Int)), (i64 a.o.v), (u32 a.o.a), (u32 a.o.r), (i64 a.n.v), (u32 a.n.a), (u32 a.n.r), (bsT gtL l)]), (T.agg [(i64 g.w.v), (u32 g.w.a), (u32 g.w.r), (bl g.ok)])] [((45, 7), .call [(R.t (bl false))]), ((45, 10), .ub), ((45, 13), .call [(R.t (T.sl (rows gtL l) l.length true))]), ((45, 16), .axw (l.length + 1) (rows gtL (l ++ [g])) (bsT gtL (l ++ [g]))), ((45, 21), .call [(R.t (T.ifc 87 x')), (R.t (T.agg [(i64 a'.op), (i64 ((a'.ad : Nat) : Int)), (i64 a'.o.v), (u32 a'.o.a), (u32 a'.o.r), (i64 a'.n.v), (u32 a'.n.a), (u32 a'.n.r)])), (R.t (bl false))])] = some ([(R.t (T.agg [(T.ifc 87 x'), (T.fn (.method "Next") [(T.ifc 87 x')] []), (i64 a'.op), (i64 ((a'.ad : Nat) : Int)), (i64 a'.o.v), (u32 a'.o.a), (u32 a'.o.r), (i64 a'.n.v), (u32 a'.n.a), (u32 a'.n.r), (bsT gtL (l ++ [g]))]))], [], [HoldsL 8 [(T.agg [(T.box (T.ifc 87 x)), (T.box (T.fn (.method "Next") [(T.ifc 87 x)] [])), (i64 a.op), (i64 ((a.ad : Nat) : Int)), (i64 a.o.v), (u32 a.o.a), (u32 a.o.r), (i64 a.n.v), (u32 a.n.a), (u32 a.n.r), (bsT gtL l)])] [(R.t (bl false))],
      HoldsL 70 [(bsT gtL l)] [(R.t (T.sl (rows gtL l) l.length true))],
      TLe (T.sl (rows gtL (l ++ [g])) (l.length + 1) false) (bsT gtL (l ++ [g])),
      List.length [(C.t (i64 g.w.v)), (C.t (u32 g.w.a)), (C.t (u32 g.w.r)), (C.t (bl g.ok))] = 1 * 4,
      1 ≠ 0,
      l.length + 1 = (l.length + 1),
      true = true,
      List.length (rows gtL l) = l.length * 4,
      roomB (l.length + 1) 24 = true,
      List.map C.t (rows gtL l) ++ [(C.t (i64 g.w.v)), (C.t (u32 g.w.a)), (C.t (u32 g.w.r)), (C.t (bl g.ok))] = (List.map C.t (rows gtL (l ++ [g]))),
      List.map C.t (rows gtL (l ++ [g])) = List.map C.t (rows gtL (l ++ [g])),
      List.length (rows gtL (l ++ [g])) = (l.length + 1) * 4,
      HoldsL 159 [x, (T.agg [(i64 g.w.v), (u32 g.w.a), (u32 g.w.r), (bl g.ok)])] [(R.t (T.ifc 87 x')), (R.t (T.agg [(i64 a'.op), (i64 ((a'.ad : Nat) : Int)), (i64 a'.o.v), (u32 a'.o.a), (u32 a'.o.r), (i64 a'.n.v), (u32 a'.n.a), (u32 a'.n.r)])), (R.t (bl false))]]) := by kernel_rfl
  exact sndL 20 _ _ _ _ _ _ e (.cons (done_no _ a l) (.cons (clipG1 _ he) (.cons (bs_sl gtL l g _ (by simp)) (.cons rfl (.cons (by decide) (.cons (by first | rfl | omega) (.cons rfl (.cons (by simp [rows_len gtL_len] <;> omega) (.cons (roomOk (by omega)) (.cons (appRows l g rfl) (.cons rfl (.cons (by simp [rows_len gtL_len] <;> omega) (.cons hn .nil)))))))))))))

theorem give_any {nx : FuncId} {ty : TypeId} (x x' : T) (a a' : Ac) (d : Bool) (l : List Gt) (g : Gt)
    (raw1 : d = true → l = [] → HoldsL 45 [.agg (tkL (told ty x a false l)), .agg (gtL g)] [.t (.agg [.ifc ty x', nilF, i64 0, i64 0, i64 0, u32 0, u32 0, i64 0, u32 0, u32 0, bsT gtL (l ++ [g])])])
    (raw2 : d = true → l ≠ [] → HoldsL 45 [.agg (tkL (told ty x a false l)), .agg (gtL g)] [.t (.agg [.ifc ty x', nilF, i64 0, i64 0, i64 0, u32 0, u32 0, i64 0, u32 0, u32 0, bsT gtL (l ++ [g])])])
    (raw3 : d = false → l = [] → HoldsL 45 [.agg (tkL (told ty x a false l)), .agg (gtL g)] [.t (.agg [.ifc ty x', nextT (.ifc ty x'), i64 a'.op, i64 a'.ad, i64 a'.o.v, u32 a'.o.a, u32 a'.o.r, i64 a'.n.v, u32 a'.n.a, u32 a'.n.r, bsT gtL (l ++ [g])])])
    (raw4 : d = false → l ≠ [] → HoldsL 45 [.agg (tkL (told ty x a false l)), .agg (gtL g)] [.t (.agg [.ifc ty x', nextT (.ifc ty x'), i64 a'.op, i64 a'.ad, i64 a'.o.v, u32 a'.o.a, u32 a'.o.r, i64 a'.n.v, u32 a'.n.a, u32 a'.n.r, bsT gtL (l ++ [g])])]) :
    HoldsL 45 [.agg (tkL (told ty x a false l)), .agg (gtL g)] [.t (.agg (tkL (told ty x' a' d (l ++ [g]))))] := by
  cases d with
  | true =>
    by_cases h : l = []
    · exact holds_res (boxTask (tle_ifc _ _) tle_nilF) (raw1 rfl h)
    · exact holds_res (boxTask (tle_ifc _ _) tle_nilF) (raw2 rfl h)
  | false =>
    by_cases h : l = []
    · exact holds_res (boxTask (tle_ifc _ _) (tle_fn _ _ _)) (raw3 rfl h)
    · exact holds_res (boxTask (tle_ifc _ _) (tle_fn _ _ _)) (raw4 rfl h)
theorem give_W (x x' : T) (a a' : Ac) (d : Bool) (l : List Gt) (g : Gt) (hll : l.length ≤ 100000) (hn : HoldsL 141 [x, .agg (gtL g)] [.t (.ifc 68 x'), .t (.agg (acL a')), .t (bl d)]) :
    HoldsL 45 [.agg (tkL (told 68 x a false l)), .agg (gtL g)] [.t (.agg (tkL (told 68 x' a' d (l ++ [g]))))] :=
  give_any (nx := 141) x x' a a' d l g (fun hd h => gW_11 x x' a a' l g hll (hd ▸ hn) h) (fun hd h => gW_10 x x' a a' l g hll (hd ▸ hn) h) (fun hd h => gW_01 x x' a a' l g hll (hd ▸ hn) h) (fun hd h => gW_00 x x' a a' l g hll (hd ▸ hn) h)
theorem give_R (x x' : T) (a a' : Ac) (d : Bool) (l : List Gt) (g : Gt) (hll : l.length ≤ 100000) (hn : HoldsL 159 [x, .agg (gtL g)] [.t (.ifc 87 x'), .t (.agg (acL a')), .t (bl d)]) :
    HoldsL 45 [.agg (tkL (told 87 x a false l)), .agg (gtL g)] [.t (.agg (tkL (told 87 x' a' d (l ++ [g]))))] :=
  give_any (nx := 159) x x' a a' d l g (fun hd h => gR_11 x x' a a' l g hll (hd ▸ hn) h) (fun hd h => gR_10 x x' a a' l g hll (hd ▸ hn) h) (fun hd h => gR_01 x x' a a' l g hll (hd ▸ hn) h) (fun hd h => gR_00 x x' a a' l g hll (hd ▸ hn) h)
/-- What an act gives and leaves. -/
def gotOf (f : Nat → Wd) (a : Ac) : Gt := if a.op = 5 then ⟨f a.ad, true⟩ else if a.op = 6 then ⟨a.o, true⟩ else ⟨⟨0, 0, 0⟩, true⟩
def memOf (f : Nat → Wd) (a : Ac) : Nat → Wd := if a.op = 4 ∨ a.op = 6 then upd f a.ad a.n else f
def actOk (f : Nat → Wd) (a : Ac) : Prop := (a.op = 5 ∧ a.ad < 376) ∨ (a.op = 4 ∧ a.ad < 375) ∨ (a.op = 6 ∧ a.ad < 375 ∧ f a.ad = a.o) ∨ a = ac0
theorem do_any {q : Mach} {f : Nat → Wd} {n t : Nat} {a : Ac} (h : MOk q f n) (hn : n < 90000) (ht : t < 3) (ha : actOk f a) : ∃ q', MOk q' (memOf f a) (n + 1) ∧ ∀ (c : Int), HoldsL 43 [machT q, i64 ((t + 1 : Nat) : Int), .agg (acL a), i64 c] [.t (machT q'), .t (.agg (gtL (gotOf f a))), .t (i64 0)] := by
  obtain ⟨op, ad, o, w⟩ := a
  rcases ha with ⟨h1, h2⟩ | ⟨h1, h2⟩ | ⟨h1, h2, h3⟩ | h1
  · simp only at h1 h2
    subst h1
    obtain ⟨q', g1, g2⟩ := h.look hn ht h2
    exact ⟨q', g1, fun c => g2 o w c⟩
  · simp only at h1 h2
    subst h1
    obtain ⟨q', g1, g2⟩ := h.release hn ht h2 w
    exact ⟨q', g1, fun c => g2 o c⟩
  · simp only at h1 h2 h3
    subst h1
    obtain ⟨q', g1, g2⟩ := h.swap hn ht h2 o w h3
    exact ⟨q', g1, fun c => g2 c⟩
  · rw [h1]
    obtain ⟨q', g1, g2⟩ := h.rest hn ht
    exact ⟨q', g1, fun c => g2 c⟩
theorem done_told (ty : TypeId) (x : T) (a : Ac) (d : Bool) (l : List Gt) : HoldsL 8 [.agg (tkL (told ty x a d l))] [.t (bl d)] := by
  cases d with
  | true => exact done_yes _ ac0 l
  | false => exact done_no _ a l
/-- A step of a task that is not done. -/
theorem wstep (x : Wld) (f : Nat → Wd) (n i : Nat) (ty : TypeId) (y : T) (a : Ac) (l : List Gt) (k' : TK) (hq : MOk x.q f n) (hn : n < 90000) (hi : i < 3) (ht : x.tasks[i]? = some (told ty y a false l)) (htl : x.tasks.length = 3) (hs : x.stopped = [false, false, false]) (ha : actOk f a)
    (hg : HoldsL 45 [.agg (tkL (told ty y a false l)), .agg (gtL (gotOf f a))] [.t (.agg (tkL k'))]) :
    ∃ q', MOk q' (memOf f a) (n + 1) ∧ ∀ c : Int, HoldsL 6 [worldT x, .agg [i64 0, i64 ((i + 1 : Nat) : Int), i64 c]] [.t (worldT ⟨q', x.tasks.set i k', x.stopped⟩), .t (bl true)] := by
  obtain ⟨q', g1, g2⟩ := do_any (t := i) hq hn hi ha
  refine ⟨q', g1, fun c => ?_⟩
  exact step_live x i c (told ty y a false l) k' q' (gotOf f a) ht (by omega) (done_told _ _ _ _ _) (g2 c) hg (by rw [hs]; match i, hi with | 0, _ => rfl | 1, _ => rfl | 2, _ => rfl) (by rw [hq.nv]; omega)
/-- No step: done, or no such thread. -/
theorem wstay (x : Wld) (f : Nat → Wd) (n i : Nat) (ty : TypeId) (y : T) (a : Ac) (l : List Gt) (hq : MOk x.q f n) (hi : i < 3) (ht : x.tasks[i]? = some (told ty y a true l)) (htl : x.tasks.length = 3) (hs : x.stopped = [false, false, false]) (c : Int) :
    HoldsL 6 [worldT x, .agg [i64 0, i64 ((i + 1 : Nat) : Int), i64 c]] [.t (worldT x), .t (bl false)] :=
  step_none x 0 _ c (by decide) (by rw [hq.nv]; omega) (takes_done x i _ ht (by omega) (by rw [hs]; match i, hi with | 0, _ => rfl | 1, _ => rfl | 2, _ => rfl) (done_told _ _ _ _ _))
theorem wout (x : Wld) (f : Nat → Wd) (n : Nat) (t : Int) (hq : MOk x.q f n) (htl : x.tasks.length = 3) (h : t < 1 ∨ 3 < t) (c : Int) :
    HoldsL 6 [worldT x, .agg [i64 0, i64 t, i64 c]] [.t (worldT x), .t (bl false)] := by
  refine step_none x 0 _ c (by decide) (by rw [hq.nv]; omega) ?_
  rcases h with h | h
  · exact takes_low x t h
  · by_cases h1 : t < 1
    · exact takes_low x t h1
    · exact takes_high x t (by omega) (by rw [htl]; exact h)
end Go.Proofs.YtiegfchaepbnbaaGreatDoor
