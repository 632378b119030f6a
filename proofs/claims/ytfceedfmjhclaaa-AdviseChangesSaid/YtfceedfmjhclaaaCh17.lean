/- The law AdviseChanges answers true, whatever it is handed. -/
import Derived.Test.YtfceedfmjhclaaaCh16
namespace Go.Proofs.Ytfceedfmjhclaaa
open Go Go.RowKit Go.Va
set_option maxRecDepth 100000
set_option maxHeartbeats 400000
theorem rel_ans {n : Int} {e j : Nat} {ka kb : TK} (h : Rel n e j ka kb) : ∃ (f f' : Bool) (x y : T) (o i : Int) (ob ib : Bool) (a z : A8) (bg bh : Bool) (gc gd : List T) (gk gl : Nat) (w : Int) (u : Bool),
    ka = tkOf f 104 x a bg gc gk ∧ kb = tkOf f' 98 (wr (.ifc 98 (wr (.ifc 104 y) i ib)) o ob) z bh gd gl ∧ Holds Try.prog noG 12 [.ifc 104 x] [.t (i64 w), .t (bl u)] ∧ Holds Try.prog noG 12 [.ifc 104 y] [.t (i64 w), .t (bl u)] := by
  obtain ⟨s, s', a, a', d', o, i, ob, ib, bg, bh, gc, gd, gk, gl, rfl, rfl, h3, h4, h5, h6, h7, h8, h9, h10, h11, h12, h13⟩ := h
  refine ⟨s.done, d', s.t, s'.t, o, i, ob, ib, a, a', bg, bh, gc, gd, gk, gl, ansV s, s.done, rfl, rfl, answer_holds s, ?_⟩
  rcases Nat.eq_zero_or_pos e with rfl | he
  · rw [(h13 rfl).1]; exact answer_holds s
  · obtain ⟨rfl, rfl⟩ := h12 he
    have : s' = cA n := by
      cases h9 with
      | out => rfl
      | inn => rfl
      | run => omega
    rw [this]
    exact answer_holds (cA n)
theorem same_if (w : Int) (u : Bool) : (if (w != w) = true then some (C.t (.lit (.bool true))) else some (C.t (.lit (.bool (!(u == u)))))) = some (C.t (bl false)) := by
  rw [if_neg (by simp)]
  simp [bl]
/-- Behind the picks the law answers true. -/
theorem after_true {n1 n2 n3 : Int} {ln : Nat} (hln : ln ≤ 1000) {s : S} (h : After n1 n2 n3 ln s) : ∃ s', ExecS Try.prog noG Try.f4.ntmps (c2 tail4) s .ret s' ∧ retR Try.prog Try.f4 s' = some [.t (bl true)] := by
  obtain ⟨q, b, s1, s2, s3, cr, v1, v2, v3, cv, cs, cu, k1, k2, k3, j1, j2, j3, ct, cst, dt, dst, e1, e2, e3, ht, hM, h1, h2, h3⟩ := h
  obtain ⟨pre, m, k, c, m1, m2, m3, _, _⟩ := hM
  have hwa := word_holds q pre m k c b m1 m2 (by omega) s1 s2 s3 cr cs
  have hwb := word_holds q pre m k c b m1 m2 (by omega) v1 v2 v3 cv cu
  obtain ⟨u1, o1, o2⟩ := tidied_some (wordA q q b b s1 s2 s3 cr v1 v2 v3 cv cs cu k1 k2 k3 j1 j2 j3 ct cst dt dst m.v m.a m.r)
  obtain ⟨u2, p1, p2⟩ := tidied_some (wordB q q b b s1 s2 s3 cr v1 v2 v3 cv cs cu k1 k2 k3 j1 j2 j3 ct cst dt dst m.v m.a m.r m.v m.a m.r)
  obtain ⟨u3, q1, q2⟩ := tidied_some (startQ q q b b s1 s2 s3 cr v1 v2 v3 cv cs cu k1 k2 k3 j1 j2 j3 ct cst dt dst m.v m.a m.r m.v m.a m.r)
  have hloop : ∃ s', Rounds Try.prog noG Try.f4.ntmps loopQ ks9 (S9 (Wd q b s1 s2 s3 cr cs k1 k2 k3 ct cst) (Wd q b v1 v2 v3 cv cu j1 j2 j3 dt dst) (wT m.v m.a m.r) (wT m.v m.a m.r) 0) (.exit 6) s' ∧
      tidy [22, 24] s' = some ⟨[(22, .loc 0 0), (24, .loc 1 0)], [some (.cells (cellsT (wT m.v m.a m.r)) false), some (.cells (cellsT (wT m.v m.a m.r)) false)]⟩ := by
    obtain ⟨u7, l1, l2⟩ := tidied_some (outQ q q b b s1 s2 s3 cr v1 v2 v3 cv cs cu k1 k2 k3 j1 j2 j3 ct cst dt dst m.v m.a m.r m.v m.a m.r)
    refine ⟨u7, ?_, l2⟩
    have hout : Rounds Try.prog noG Try.f4.ntmps loopQ ks9 (S9 (Wd q b s1 s2 s3 cr cs k1 k2 k3 ct cst) (Wd q b v1 v2 v3 cv cu j1 j2 j3 dt dst) (wT m.v m.a m.r) (wT m.v m.a m.r) 3) (.exit 6) u7 := .out (by simp) (execX_sound mixed sndX4 4 10 _ _ _ _ _ _ _ l1 .nil)
    have hr3 : Rounds Try.prog noG Try.f4.ntmps loopQ ks9 (S9 (Wd q b s1 s2 s3 cr cs k1 k2 k3 ct cst) (Wd q b v1 v2 v3 cv cu j1 j2 j3 dt dst) (wT m.v m.a m.r) (wT m.v m.a m.r) 2) (.exit 6) u7 := by
      obtain ⟨f, f', x, y, o, i, ob, ib, a, z, bg, bh, gc, gd, gk, gl, w, u, rfl, rfl, ha, hb⟩ := rel_ans h3
      obtain ⟨u0, g1, g2⟩ := tidied_some (same3 q q b b s1 s2 s3 cr v1 v2 v3 cv cs cu k1 j1 k2 j2 f f' x y o i ob ib a z bg bh gc gd gk gl ct cst dt dst m.v m.a m.r m.v m.a m.r w u)
      exact .round (execX_sound mixed sndX4 4 10 _ _ _ _ _ _ _ g1 (.cons ha (.cons hb (.cons (by simp) (.cons (by simp) (.cons (by simp) (.cons (same_if w u) .nil))))))) g2 hout
    have hr2 : Rounds Try.prog noG Try.f4.ntmps loopQ ks9 (S9 (Wd q b s1 s2 s3 cr cs k1 k2 k3 ct cst) (Wd q b v1 v2 v3 cv cu j1 j2 j3 dt dst) (wT m.v m.a m.r) (wT m.v m.a m.r) 1) (.exit 6) u7 := by
      obtain ⟨f, f', x, y, o, i, ob, ib, a, z, bg, bh, gc, gd, gk, gl, w, u, rfl, rfl, ha, hb⟩ := rel_ans h2
      obtain ⟨u0, g1, g2⟩ := tidied_some (same2 q q b b s1 s2 s3 cr v1 v2 v3 cv cs cu k1 j1 k3 j3 f f' x y o i ob ib a z bg bh gc gd gk gl ct cst dt dst m.v m.a m.r m.v m.a m.r w u)
      exact .round (execX_sound mixed sndX4 4 10 _ _ _ _ _ _ _ g1 (.cons ha (.cons hb (.cons (by simp) (.cons (by simp) (.cons (by simp) (.cons (same_if w u) .nil))))))) g2 hr3
    have hr1 : Rounds Try.prog noG Try.f4.ntmps loopQ ks9 (S9 (Wd q b s1 s2 s3 cr cs k1 k2 k3 ct cst) (Wd q b v1 v2 v3 cv cu j1 j2 j3 dt dst) (wT m.v m.a m.r) (wT m.v m.a m.r) 0) (.exit 6) u7 := by
      obtain ⟨f, f', x, y, o, i, ob, ib, a, z, bg, bh, gc, gd, gk, gl, w, u, rfl, rfl, ha, hb⟩ := rel_ans h1
      obtain ⟨u0, g1, g2⟩ := tidied_some (same1 q q b b s1 s2 s3 cr v1 v2 v3 cv cs cu k2 j2 k3 j3 f f' x y o i ob ib a z bg bh gc gd gk gl ct cst dt dst m.v m.a m.r m.v m.a m.r w u)
      exact .round (execX_sound mixed sndX4 4 10 _ _ _ _ _ _ _ g1 (.cons ha (.cons hb (.cons (by simp) (.cons (by simp) (.cons (by simp) (.cons (same_if w u) .nil))))))) g2 hr2
    exact hr1
  obtain ⟨s8, r1, r2⟩ := hloop
  obtain ⟨s9, f1, f2⟩ := last4 m.v m.a m.r
  refine ⟨s9, ?_, f2⟩
  refine ExecS.tidy ht ?_
  have hc : c2 tail4 = .seq (c1 (c2 tail4)) (.seq (c1 (c2 (c2 tail4))) (.seq (.seq (c1 (c1 (c2 (c2 (c2 tail4))))) (.block 6 (.loop loopQ))) (c2 (c2 (c2 (c2 tail4)))))) := by kernel_rfl
  rw [hc]
  refine .seq (execX_sound mixed sndX4 4 10 _ _ _ _ _ _ _ o1 (.cons hwa .nil)) (ExecS.tidy o2 ?_)
  refine .seq (execX_sound mixed sndX4 4 10 _ _ _ _ _ _ _ p1 (.cons hwb .nil)) (ExecS.tidy p2 ?_)
  refine .seq (.seq (execX_sound mixed sndX4 4 10 _ _ _ _ _ _ _ q1 .nil) (ExecS.tidy q2 (.blockIn r1.loop))) (ExecS.tidy r2 ?_)
  exact execX_sound mixed sndX4 4 10 _ _ _ _ _ _ _ f1 (.cons (eql_word _ _ _ _ _) .nil)
theorem u8c_small (r k : Int) (h0 : 0 ≤ r) (hk : 0 < k) (hk5 : k ≤ 5) : u8c r k = Int.tmod r k ∧ 0 ≤ Int.tmod r k ∧ Int.tmod r k < 5 := by
  have h1 : 0 ≤ Int.tmod r k := Int.tmod_nonneg k h0
  have h2 : Int.tmod r k < k := Int.tmod_lt_of_pos r hk
  refine ⟨?_, h1, by omega⟩
  show w64 (Int.tmod r k) = _
  exact w64_id _ h1 (by omega)
theorem Lx_small (x : Int) (h0 : 0 ≤ x) (h5 : x < 5) : Lx x = x := by
  unfold Lx
  rw [if_neg (by omega : ¬ (64 < x))]
  split <;> omega
theorem start_Y4 (n : Int) : Holds Try.prog noG 9 [(cA n).c] [.t (startT 104 (cB n).t .look)] := start_holds 104 110 (.inl ⟨rfl, rfl⟩) _ 104 _ .look false (next_atom (cA n) .zero)
/-- What a wrapped task is at its start. -/
theorem start_ww (n r : Int) (h0 : 0 ≤ r) : ∃ (e : Nat) (x : T) (a : A8), leftE r = e ∧ e ≤ 200 ∧ Holds Try.prog noG 9 [wwT n r] [.t (startT 98 x a)] ∧ Rel (w64 n) e 0 (tkOf false 104 (cB (w64 n)).t .look false [] 0) (tkOf false 98 x a false [] 0) := by
  obtain ⟨a1, a2, a3⟩ := u8c_small r 5 h0 (by omega) (by omega)
  obtain ⟨b1, b2, b3⟩ := u8c_small r 3 h0 (by omega) (by omega)
  obtain ⟨i, hi⟩ : ∃ i : Nat, Int.tmod r 5 = i := ⟨(Int.tmod r 5).toNat, by omega⟩
  obtain ⟨o, ho⟩ : ∃ o : Nat, Int.tmod r 3 = o := ⟨(Int.tmod r 3).toNat, by omega⟩
  have hw := WK.out (n := w64 n) o i
  rw [show o + 1 + i = (o + i) + 1 by omega] at hw
  obtain ⟨_, _, _, s2, o2, i2, ob2, ib2, ac2, w1, w2, w3, w4, w5, w6⟩ := wk_next hw (by omega) (by omega) .zero
  refine ⟨o + i, ww s2.c o2 i2 ob2 ib2, ac2, ?_, by omega, ?_, cB (w64 n), s2, .look, ac2, false, o2, i2, ob2, ib2, false, false, [], [], 0, 0, rfl, rfl, .inr ⟨rfl, rfl, rfl⟩, Nat.le_refl _, .inr ⟨rfl, rfl, rfl⟩, Nat.le_refl _, rfl, fun _ => .inl rfl, w1, w2, w3, fun _ => ⟨rfl, rfl⟩, fun h => ?_⟩
  · unfold leftE
    rw [a1, b1, hi, ho, w64_id _ (by omega) (by omega)]
    omega
  · have hx : wwT n r = .ifc 98 (ww (cA (w64 n)).c o i false false) := by
      unfold wwT ww cN
      rw [a1, b1, Lx_small _ a2 a3, Lx_small _ b2 b3, hi, ho]
    rw [hx]
    exact start_holds 98 109 (.inr ⟨rfl, rfl⟩) _ 98 _ ac2 false w6
  · obtain ⟨rfl, rfl⟩ := w5 h
    exact ⟨rfl, rfl, rfl⟩
theorem changes_true (n1 n2 n3 r1 r2 r3 : Int) (g1 : 0 ≤ r1) (g2 : 0 ≤ r2) (g3 : 0 ≤ r3) (xs : List Int) (hx : ∀ x, x ∈ xs → 0 ≤ x) {lT : T} (hl : IsL lT (xs.map u8) xs.length) :
    Holds Try.prog noG 4 [.agg [i8 n1, i8 n2, i8 n3], .agg [u8 r1, u8 r2, u8 r3], lT] [.t (bl true)] := by
  by_cases hlen : xs.length > 150
  · exact runX_sound mixed noF_snd 11 _ _ _ _ _ _ (early4 hl n1 n2 n3 r1 r2 r3) (.cons awake_holds (.cons (decide_eq_true (by omega)) .nil))
  · obtain ⟨e1, x1, a1, l1, m1, st1, rel1⟩ := start_ww n1 r1 g1
    obtain ⟨e2, x2, a2, l2, m2, st2, rel2⟩ := start_ww n2 r2 g2
    obtain ⟨e3, x3, a3, l3, m3, st3, rel3⟩ := start_ww n3 r3 g3
    obtain ⟨s1, p1, p2⟩ := tidiedP_some (prefix4L hl n1 n2 n3 r1 r2 r3 (tkOf false 104 (cB (w64 n1)).t .look false [] 0) (tkOf false 104 (cB (w64 n2)).t .look false [] 0) (tkOf false 104 (cB (w64 n3)).t .look false [] 0) (tkOf false 98 x1 a1 false [] 0) (tkOf false 98 x2 a2 false [] 0) (tkOf false 98 x3 a3 false [] 0))
    have hnew := sndC 20 _ _ _ _ _ _ new_run .nil
    have hma := sndC 20 _ _ _ _ _ _ (make_run 104 104 104 (cB (w64 n1)).t (cB (w64 n2)).t (cB (w64 n3)).t 104 104 104 (cA (w64 n1)).t (cA (w64 n2)).t (cA (w64 n3)).t .look .look .look false) (.cons (start_Y4 (w64 n1)) (.cons (start_Y4 (w64 n2)) (.cons (start_Y4 (w64 n3)) .nil)))
    have hmb := sndC 20 _ _ _ _ _ _ (make_run 98 98 98 x1 x2 x3 98 98 98 _ _ _ a1 a2 a3 false) (.cons st1 (.cons st2 (.cons st3 .nil)))
    obtain ⟨s2, o1, o2⟩ := tidied_some (start4 hl m0 m0 false false 0 0 0 0 0 0 0 0 false false (tkOf false 104 (cB (w64 n1)).t .look false [] 0) (tkOf false 104 (cB (w64 n2)).t .look false [] 0) (tkOf false 104 (cB (w64 n3)).t .look false [] 0) (tkOf false 98 x1 a1 false [] 0) (tkOf false 98 x2 a2 false [] 0) (tkOf false 98 x3 a3 false [] 0) false false false false e1 e2 e3)
    obtain ⟨s3, q1, q2⟩ := picks xs hl hx (by omega) (w64 n1) (w64 n2) (w64 n3) xs.length 0 m0 false 0 0 0 0 0 0 0 0 false false _ _ _ _ _ _ false false false false e1 e2 e3 (by omega) .zero rel1 rel2 rel3 m1 m2 m3
    obtain ⟨s4, u1, u2⟩ := after_true (by omega) q2
    rw [l1, l2, l3] at p2
    refine holds_of_ExecS (c := body4) (x := .ret) (s' := s4) Try.func4 (by kernel_rfl) (of_decide_eq_true (by kernel_rfl)) ?_ (.inr rfl) u2
    refine preX_sound mixed sndX4 p1 (.cons awake_holds (.cons (decide_eq_false (by omega)) (.cons hnew (.cons hma (.cons hmb .nil))))) ?_
    refine ExecS.tidy p2 ?_
    have htail : restC 11 body4 = tail4 := rfl
    have htl : tail4 = .seq (.seq (c1 (c1 tail4)) (.block 4 (.loop loopP))) (c2 tail4) := by kernel_rfl
    rw [htail, htl]
    exact .seq (.seq (execX_sound mixed sndX4 4 10 _ _ _ _ _ _ _ o1 .nil) (ExecS.tidy o2 (.blockIn q1.loop))) u1
end Go.Proofs.Ytfceedfmjhclaaa
