/- The law AdviseChanges: the picks, pick by pick. -/
import Derived.Test.YtfceedfmjhclaaaCh14
namespace Go.Proofs.Ytfceedfmjhclaaa
open Go Go.RowKit Go.Va
set_option maxRecDepth 100000
set_option maxHeartbeats 400000
def GStep (a : A8) (g : G4) (k k' : TK) : Prop := ∃ ty x bg gc gk ty' x' a' d gc' gk', k = tkOf false ty x a bg gc gk ∧ k' = tkOf d ty' x' a' true gc' gk' ∧ Holds Try.prog noG 11 [.agg k.l, .agg g.l] [.t (.agg k'.l)]
def Still (k : TK) : Prop := ∃ ty x a bg gc gk, k = tkOf true ty x a bg gc gk
/-- What the machine does at an act. -/
def DoIs (t : Nat) (q : MR) (b : Bool) (a : A8) (q' : MR) (b' : Bool) (g : G4) : Prop := ∀ (s1 s2 s3 cr : Int) (cs : Bool), Holds Try.prog noG 47 [machT q b s1 s2 s3 cr cs, i64 t, .agg a.l, i64 0] [.t (machT q' b' (bump t 1 s1) (bump t 2 s2) (bump t 3 s3) cr false), .t (.agg (G4.l g)), .t (i64 0)]

theorem wstep1 {a : A8} {g : G4} {k1 k' : TK} (h : GStep a g k1 k') {q q' : MR} {b b' : Bool} (hd : DoIs 1 q b a q' b' g) (s1 s2 s3 cr : Int) (cs : Bool) (k2 k3 : TK) (ct cst : Bool) :
    Holds Try.prog noG 16 [Wd q b s1 s2 s3 cr cs k1 k2 k3 ct cst, .agg [i64 0, i64 (1 : Nat), i64 0]] [.t (Wd q' b' (bump 1 1 s1) (bump 1 2 s2) (bump 1 3 s3) cr false k' k2 k3 false cst), .t (bl true)] := by
  obtain ⟨ty, x, bg, gc, gk, ty', x', a', d, gc', gk', rfl, rfl, h⟩ := h
  exact sndC 20 _ _ _ _ _ _ (step1 q q' b b' s1 s2 s3 cr _ _ _ cs k2 k3 ct cst ty ty' x x' a a' g bg d gc gc' gk gk') (.cons (hd s1 s2 s3 cr cs) (.cons h .nil))
theorem wstill1 {k1 : TK} (h : Still k1) (q : MR) (b : Bool) (s1 s2 s3 cr : Int) (cs : Bool) (k2 k3 : TK) (ct cst : Bool) :
    Holds Try.prog noG 16 [Wd q b s1 s2 s3 cr cs k1 k2 k3 ct cst, .agg [i64 0, i64 (1 : Nat), i64 0]] [.t (Wd q b s1 s2 s3 cr cs k1 k2 k3 ct cst), .t (bl false)] := by
  obtain ⟨ty, x, a, bg, gc, gk, rfl⟩ := h
  exact sndC 20 _ _ _ _ _ _ (still1 q b s1 s2 s3 cr cs k2 k3 ct cst ty x a bg gc gk) .nil
theorem wstep2 {a : A8} {g : G4} {k2 k' : TK} (h : GStep a g k2 k') {q q' : MR} {b b' : Bool} (hd : DoIs 2 q b a q' b' g) (s1 s2 s3 cr : Int) (cs : Bool) (k1 k3 : TK) (ct cst : Bool) :
    Holds Try.prog noG 16 [Wd q b s1 s2 s3 cr cs k1 k2 k3 ct cst, .agg [i64 0, i64 (2 : Nat), i64 0]] [.t (Wd q' b' (bump 2 1 s1) (bump 2 2 s2) (bump 2 3 s3) cr false k1 k' k3 false cst), .t (bl true)] := by
  obtain ⟨ty, x, bg, gc, gk, ty', x', a', d, gc', gk', rfl, rfl, h⟩ := h
  exact sndC 20 _ _ _ _ _ _ (step2 q q' b b' s1 s2 s3 cr _ _ _ cs k1 k3 ct cst ty ty' x x' a a' g bg d gc gc' gk gk') (.cons (hd s1 s2 s3 cr cs) (.cons h .nil))
theorem wstill2 {k2 : TK} (h : Still k2) (q : MR) (b : Bool) (s1 s2 s3 cr : Int) (cs : Bool) (k1 k3 : TK) (ct cst : Bool) :
    Holds Try.prog noG 16 [Wd q b s1 s2 s3 cr cs k1 k2 k3 ct cst, .agg [i64 0, i64 (2 : Nat), i64 0]] [.t (Wd q b s1 s2 s3 cr cs k1 k2 k3 ct cst), .t (bl false)] := by
  obtain ⟨ty, x, a, bg, gc, gk, rfl⟩ := h
  exact sndC 20 _ _ _ _ _ _ (still2 q b s1 s2 s3 cr cs k1 k3 ct cst ty x a bg gc gk) .nil
theorem wstep3 {a : A8} {g : G4} {k3 k' : TK} (h : GStep a g k3 k') {q q' : MR} {b b' : Bool} (hd : DoIs 3 q b a q' b' g) (s1 s2 s3 cr : Int) (cs : Bool) (k1 k2 : TK) (ct cst : Bool) :
    Holds Try.prog noG 16 [Wd q b s1 s2 s3 cr cs k1 k2 k3 ct cst, .agg [i64 0, i64 (3 : Nat), i64 0]] [.t (Wd q' b' (bump 3 1 s1) (bump 3 2 s2) (bump 3 3 s3) cr false k1 k2 k' false cst), .t (bl true)] := by
  obtain ⟨ty, x, bg, gc, gk, ty', x', a', d, gc', gk', rfl, rfl, h⟩ := h
  exact sndC 20 _ _ _ _ _ _ (step3 q q' b b' s1 s2 s3 cr _ _ _ cs k1 k2 ct cst ty ty' x x' a a' g bg d gc gc' gk gk') (.cons (hd s1 s2 s3 cr cs) (.cons h .nil))
theorem wstill3 {k3 : TK} (h : Still k3) (q : MR) (b : Bool) (s1 s2 s3 cr : Int) (cs : Bool) (k1 k2 : TK) (ct cst : Bool) :
    Holds Try.prog noG 16 [Wd q b s1 s2 s3 cr cs k1 k2 k3 ct cst, .agg [i64 0, i64 (3 : Nat), i64 0]] [.t (Wd q b s1 s2 s3 cr cs k1 k2 k3 ct cst), .t (bl false)] := by
  obtain ⟨ty, x, a, bg, gc, gk, rfl⟩ := h
  exact sndC 20 _ _ _ _ _ _ (still3 q b s1 s2 s3 cr cs k1 k2 ct cst ty x a bg gc gk) .nil

/-- A task and its wrapped twin, where e rests are still to come, behind j picks. -/
def Rel (n : Int) (e j : Nat) (ka kb : TK) : Prop := ∃ (s s' : AC) (a a' : A8) (d' : Bool) (o i : Nat) (ob ib bg bh : Bool) (gc gd : List T) (gk gl : Nat), ka = tkOf s.done 104 s.t a bg gc gk ∧ kb = tkOf d' 98 (ww s'.c o i ob ib) a' bh gd gl ∧ GOk bg gc gk ∧ gk ≤ j ∧ GOk bh gd gl ∧ gl ≤ j ∧ s.begun = true ∧ (s.done = false → AOk a) ∧ WK n e s' o i ob ib a' d' ∧ o ≤ 60 ∧ i ≤ 60 ∧ (0 < e → s = cB n ∧ a = .look) ∧ (e = 0 → s' = s ∧ a' = a ∧ d' = s.done)
theorem Rel.mono {n : Int} {e j j' : Nat} {ka kb : TK} (h : Rel n e j ka kb) (hj : j ≤ j') : Rel n e j' ka kb := by
  obtain ⟨s, s', a, a', d', o, i, ob, ib, bg, bh, gc, gd, gk, gl, h1, h2, h3, h4, h5, h6, h7⟩ := h
  exact ⟨s, s', a, a', d', o, i, ob, ib, bg, bh, gc, gd, gk, gl, h1, h2, h3, by omega, h5, by omega, h7⟩
theorem Rel.rest {n : Int} {e j : Nat} {ka kb : TK} (h : Rel n (e + 1) j ka kb) (hj : j ≤ 1000) (g : G4) : ∃ kb', Rel n e (j + 1) ka kb' ∧ GStep .zero g kb kb' := by
  obtain ⟨s, s', a, a', d', o, i, ob, ib, bg, bh, gc, gd, gk, gl, rfl, rfl, h3, h4, h5, h6, h7, h8, h9, h10, h11, h12, h13⟩ := h
  obtain ⟨rfl, rfl, rfl, s2, o2, i2, ob2, ib2, a2, w1, w2, w3, w4, w5, w6⟩ := wk_next h9 h10 h11 g
  obtain ⟨rfl, rfl⟩ := h12 (by omega)
  refine ⟨tkOf false 98 (ww s2.c o2 i2 ob2 ib2) a2 true (gd ++ g.l) (gl + 1), ⟨cB n, s2, .look, a2, false, o2, i2, ob2, ib2, bg, true, gc, gd ++ g.l, gk, gl + 1, rfl, rfl, h3, by omega, h5.next g, by omega, rfl, h8, w1, w2, w3, fun _ => ⟨rfl, rfl⟩, fun h => ?_⟩, ?_⟩
  · obtain ⟨rfl, rfl⟩ := w5 h
    exact ⟨rfl, rfl, rfl⟩
  · exact ⟨98, _, bh, gd, gl, 98, _, a2, false, _, _, rfl, rfl, give_tk 98 109 (.inr ⟨rfl, rfl⟩) _ .zero g h5 (by omega) 98 _ a2 false (fun h => by cases h) w6⟩
/-- No rest is to come: both are done, or both move alike. -/
theorem Rel.move {n : Int} {j : Nat} {ka kb : TK} (h : Rel n 0 j ka kb) (hj : j ≤ 1000) : (Still ka ∧ Still kb) ∨ ∃ a, AOk a ∧ ∀ g, ∃ ka' kb', Rel n 0 (j + 1) ka' kb' ∧ GStep a g ka ka' ∧ GStep a g kb kb' := by
  obtain ⟨s, s', a, a', d', o, i, ob, ib, bg, bh, gc, gd, gk, gl, rfl, rfl, h3, h4, h5, h6, h7, h8, h9, h10, h11, h12, h13⟩ := h
  obtain ⟨rfl, rfl, rfl⟩ := h13 rfl
  generalize he : 0 = e0 at h9
  cases h9 with
  | out => omega
  | inn => omega
  | run =>
    rcases Bool.eq_false_or_eq_true s'.done with hd | hd
    · rw [hd]
      exact .inl ⟨⟨_, _, _, _, _, _, rfl⟩, ⟨_, _, _, _, _, _, rfl⟩⟩
    · refine .inr ⟨a', h8 hd, fun g => ?_⟩
      obtain ⟨r1, r2, r3, r4⟩ := next_run s' g h7 hd
      rw [hd]
      refine ⟨tkOf (nextM s' g).2.2 104 (nextM s' g).1.t (nextM s' g).2.1 true (gc ++ g.l) (gk + 1), tkOf (nextM s' g).2.2 98 (ww (nextM s' g).1.c 0 0 true true) (nextM s' g).2.1 true (gd ++ g.l) (gl + 1), ?_, ?_, ?_⟩
      · exact ⟨(nextM s' g).1, (nextM s' g).1, (nextM s' g).2.1, (nextM s' g).2.1, (nextM s' g).2.2, 0, 0, true, true, true, true, _, _, _, _, by rw [r2], rfl, h3.next g, by omega, h5.next g, by omega, r1, fun h => r3 (by rw [← r2]; exact h), .run _ _ _, by omega, by omega, fun h => by omega, fun _ => ⟨rfl, rfl, r2.symm⟩⟩
      · exact ⟨104, _, bg, gc, gk, 104, _, _, _, _, _, rfl, rfl, give_tk 104 110 (.inl ⟨rfl, rfl⟩) _ a' g h3 (by omega) 104 _ _ _ r4 (next_atom s' g)⟩
      · exact ⟨98, _, bh, gd, gl, 98, _, _, _, _, _, rfl, rfl, give_tk 98 109 (.inr ⟨rfl, rfl⟩) _ a' g h5 (by omega) 98 _ _ _ r4 (next_ww s' g)⟩
end Go.Proofs.Ytfceedfmjhclaaa
