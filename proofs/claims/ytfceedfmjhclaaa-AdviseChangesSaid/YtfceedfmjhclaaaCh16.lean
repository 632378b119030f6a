/- The law AdviseChanges: the loop of the picks. -/
import Derived.Test.YtfceedfmjhclaaaCh15
namespace Go.Proofs.Ytfceedfmjhclaaa
open Go Go.RowKit Go.Va
set_option maxRecDepth 100000
set_option maxHeartbeats 400000
theorem index_u8 (lc : List T) (ln : Nat) (cl : Bool) (i : Nat) (h : i < ln) : indexAddrC Try.prog 52 (.t (.sl lc ln cl)) i = some ⟨.t (.ptr lc i), [], []⟩ := by
  obtain ⟨hu⟩ : Nonempty (Try.prog.underlying 52 = some (.slice 5)) := ⟨by kernel_rfl⟩
  obtain ⟨ii, hi, hs⟩ : ∃ ii, Try.prog.info? 5 = some ii ∧ ii.size = 1 := ⟨_, rfl, by kernel_rfl⟩
  unfold indexAddrC
  simp only [hu, hi, hs]
  rw [if_pos ⟨by omega, by omega⟩]
  simp
theorem part_u8 (xs : List Int) (i : Nat) (x : Int) (h : xs[i]? = some x) : partC Try.prog 5 ((xs.map u8).map .t) i = some (.t (u8 x)) := by
  obtain ⟨d, ii, hd, hi, ha, hs⟩ : ∃ d ii, Try.prog.underlying 5 = some d ∧ Try.prog.info? 5 = some ii ∧ isAggB d = false ∧ ii.size = 1 := ⟨_, _, rfl, rfl, by kernel_rfl, by kernel_rfl⟩
  unfold partC
  simp only [hd, hi, ha, hs]
  simp [h]
theorem sndX4 : SndX Try.prog noG (runX Try.prog noG noF 10) := runX_sound mixed noF_snd 10
/-- The worlds of both sides behind the picks. -/
def After (n1 n2 n3 : Int) (ln : Nat) (s : S) : Prop := ∃ (q : MR) (b : Bool) (s1 s2 s3 cr v1 v2 v3 cv : Int) (cs cu : Bool) (k1 k2 k3 j1 j2 j3 : TK) (ct cst dt dst : Bool) (e1 e2 e3 : Nat),
  tidy [14, 16] s = some (S6 (Wd q b s1 s2 s3 cr cs k1 k2 k3 ct cst) (Wd q b v1 v2 v3 cv cu j1 j2 j3 dt dst)) ∧ MOk ln q b ∧ Rel n1 e1 ln k1 j1 ∧ Rel n2 e2 ln k2 j2 ∧ Rel n3 e3 ln k3 j3
theorem picks (xs : List Int) {lT : T} (hl : IsL lT (xs.map u8) xs.length) (hx : ∀ x, x ∈ xs → 0 ≤ x) (hmany : xs.length ≤ 150) (n1 n2 n3 : Int) : ∀ (m i : Nat) (q : MR) (b : Bool) (s1 s2 s3 cr v1 v2 v3 cv : Int) (cs cu : Bool) (k1 k2 k3 j1 j2 j3 : TK) (ct cst dt dst : Bool) (e1 e2 e3 : Nat),
    i + m = xs.length → MOk i q b → Rel n1 e1 i k1 j1 → Rel n2 e2 i k2 j2 → Rel n3 e3 i k3 j3 → e1 ≤ 200 → e2 ≤ 200 → e3 ≤ 200 →
    ∃ s', Rounds Try.prog noG Try.f4.ntmps loopP ks5 (S5 lT (Wd q b s1 s2 s3 cr cs k1 k2 k3 ct cst) (Wd q b v1 v2 v3 cv cu j1 j2 j3 dt dst) e1 e2 e3 i) (.exit 4) s' ∧ After n1 n2 n3 xs.length s'
  | 0, i, q, b, s1, s2, s3, cr, v1, v2, v3, cv, cs, cu, k1, k2, k3, j1, j2, j3, ct, cst, dt, dst, e1, e2, e3, he, hM, h1, h2, h3, _, _, _ => by
    obtain ⟨s, o1, o2⟩ := tidied_some (outP hl i q q b b s1 s2 s3 cr v1 v2 v3 cv cs cu k1 k2 k3 j1 j2 j3 ct cst dt dst e1 e2 e3)
    have hi : i = xs.length := by omega
    subst hi
    exact ⟨s, .out (by simp) (execX_sound mixed sndX4 4 10 _ _ _ _ _ _ _ o1 (.cons (by simp) .nil)), q, b, s1, s2, s3, cr, v1, v2, v3, cv, cs, cu, k1, k2, k3, j1, j2, j3, ct, cst, dt, dst, e1, e2, e3, o2, hM, h1, h2, h3⟩
  | m + 1, i, q, b, s1, s2, s3, cr, v1, v2, v3, cv, cs, cu, k1, k2, k3, j1, j2, j3, ct, cst, dt, dst, e1, e2, e3, he, hM, h1, h2, h3, g1, g2, g3 => by
    have hi : i < xs.length := by omega
    have hg : xs[i]? = some xs[i] := List.getElem?_eq_getElem hi
    have hx0 := hx _ (List.getElem_mem hi)
    have hlT : ∃ cl, lT = .sl (xs.map u8) xs.length cl := by
      rcases hl with h | ⟨_, _, h⟩
      · exact h
      · omega
    obtain ⟨cl, rfl⟩ := hlT
    have c1 := index_u8 (xs.map u8) xs.length cl i hi
    have c2 := part_u8 xs i _ hg
    have c3 := rem3 (.tmp 123) (.const (.int .u8 3)) xs[i]
    have c4 := bin_add (.tmp 118) (.const (.int .i64 1)) i (by omega) (by omega)
    have c0 : decide ((i : Int) < ((xs.length : Nat) : Int)) = true := by simp; omega
    have hcase : Int.tmod xs[i] 3 = 0 ∨ Int.tmod xs[i] 3 = 1 ∨ Int.tmod xs[i] 3 = 2 := by
      rw [Int.tmod_eq_emod_of_nonneg hx0]; omega
    have hcast : ((i + 1 : Nat) : Int) = (i : Int) + 1 := by omega
    generalize hy : xs[i] = x at c2 c3 hcase
    rcases hcase with hc | hc | hc <;> rw [hc] at c3
    · cases e1 with
      | succ e1 =>
        obtain ⟨kb, hr, hgs⟩ := h1.rest (by omega) ⟨0, 0, 0, true⟩
        obtain ⟨s', r1, r2⟩ := picks xs hl hx hmany n1 n2 n3 m (i + 1) q b s1 s2 s3 cr (bump 1 1 v1) (bump 1 2 v2) (bump 1 3 v3) cv cs false k1 k2 k3 kb j2 j3 ct cst false dst e1 e2 e3 (by omega) (hM.mono (Nat.le_succ i)) hr (h2.mono (Nat.le_succ i)) (h3.mono (Nat.le_succ i)) (by omega) g2 g3
        refine ⟨s', ?_, r2⟩
        have hst := wstep1 hgs (fun s1 s2 s3 cr cs => do_rest q b s1 s2 s3 cr cs 1 (by omega)) v1 v2 v3 cv cu j2 j3 dt dst
        obtain ⟨s0, p1, p2⟩ := tidied_some (rest1 (xs.map u8) xs.length cl i x q q q b b b s1 s2 s3 cr v1 v2 v3 cv (bump 1 1 v1) (bump 1 2 v2) (bump 1 3 v3) cv cs cu false k1 k2 k3 j1 j2 j3 kb j2 j3 ct cst dt dst false dst true ((e1 + 1 : Nat) : Int) e2 e3)
        have hsub : ((e1 + 1 : Nat) : Int) - 1 = e1 := by omega
        refine .round (execX_sound mixed sndX4 4 10 _ _ _ _ _ _ _ p1 (.cons c0 (.cons c1 (.cons c2 (.cons c3 (.cons hst (.cons (decide_eq_true (by omega)) (.cons (sub1 _ _ e1 (by omega)) (.cons c4 .nil))))))))) p2 ?_
        rw [hsub, ← hcast]
        exact r1
      | zero =>
        rcases h1.move (by omega) with ⟨ha, hb⟩ | ⟨a, hA, hmove⟩
        · obtain ⟨s', r1, r2⟩ := picks xs hl hx hmany n1 n2 n3 m (i + 1) q b s1 s2 s3 cr v1 v2 v3 cv cs cu k1 k2 k3 j1 j2 j3 ct cst dt dst 0 e2 e3 (by omega) (hM.mono (Nat.le_succ i)) (h1.mono (Nat.le_succ i)) (h2.mono (Nat.le_succ i)) (h3.mono (Nat.le_succ i)) (by omega) g2 g3
          refine ⟨s', ?_, r2⟩
          obtain ⟨s0, p1, p2⟩ := tidied_some (move1 (xs.map u8) xs.length cl i x q q q q b b b b s1 s2 s3 cr s1 s2 s3 cr v1 v2 v3 cv v1 v2 v3 cv cs cs cu cu k1 k2 k3 k1 k2 k3 j1 j2 j3 j1 j2 j3 ct cst ct cst dt dst dt dst false false ((0 : Nat) : Int) e2 e3)
          refine .round (execX_sound mixed sndX4 4 10 _ _ _ _ _ _ _ p1 (.cons c0 (.cons c1 (.cons c2 (.cons c3 (.cons (wstill1 hb q b v1 v2 v3 cv cu j2 j3 dt dst) (.cons (by simp) (.cons (wstill1 ha q b s1 s2 s3 cr cs k2 k3 ct cst) (.cons c4 .nil))))))))) p2 ?_
          rw [← hcast]
          exact r1
        · obtain ⟨q', b', g, hM', hdo⟩ := do_any hM (by omega) hA 1 (by omega)
          obtain ⟨ka, kb, hr, hga, hgb⟩ := hmove g
          obtain ⟨s', r1, r2⟩ := picks xs hl hx hmany n1 n2 n3 m (i + 1) q' b' (bump 1 1 s1) (bump 1 2 s2) (bump 1 3 s3) cr (bump 1 1 v1) (bump 1 2 v2) (bump 1 3 v3) cv false false ka k2 k3 kb j2 j3 false cst false dst 0 e2 e3 (by omega) hM' hr (h2.mono (Nat.le_succ i)) (h3.mono (Nat.le_succ i)) (by omega) g2 g3
          refine ⟨s', ?_, r2⟩
          obtain ⟨s0, p1, p2⟩ := tidied_some (move1 (xs.map u8) xs.length cl i x q q' q q' b b' b b' s1 s2 s3 cr (bump 1 1 s1) (bump 1 2 s2) (bump 1 3 s3) cr v1 v2 v3 cv (bump 1 1 v1) (bump 1 2 v2) (bump 1 3 v3) cv cs false cu false k1 k2 k3 ka k2 k3 j1 j2 j3 kb j2 j3 ct cst false cst dt dst false dst true true ((0 : Nat) : Int) e2 e3)
          refine .round (execX_sound mixed sndX4 4 10 _ _ _ _ _ _ _ p1 (.cons c0 (.cons c1 (.cons c2 (.cons c3 (.cons (wstep1 hgb hdo v1 v2 v3 cv cu j2 j3 dt dst) (.cons (by simp) (.cons (wstep1 hga hdo s1 s2 s3 cr cs k2 k3 ct cst) (.cons c4 .nil))))))))) p2 ?_
          rw [← hcast]
          exact r1
    · cases e2 with
      | succ e2 =>
        obtain ⟨kb, hr, hgs⟩ := h2.rest (by omega) ⟨0, 0, 0, true⟩
        obtain ⟨s', r1, r2⟩ := picks xs hl hx hmany n1 n2 n3 m (i + 1) q b s1 s2 s3 cr (bump 2 1 v1) (bump 2 2 v2) (bump 2 3 v3) cv cs false k1 k2 k3 j1 kb j3 ct cst false dst e1 e2 e3 (by omega) (hM.mono (Nat.le_succ i)) (h1.mono (Nat.le_succ i)) hr (h3.mono (Nat.le_succ i)) g1 (by omega) g3
        refine ⟨s', ?_, r2⟩
        have hst := wstep2 hgs (fun s1 s2 s3 cr cs => do_rest q b s1 s2 s3 cr cs 2 (by omega)) v1 v2 v3 cv cu j1 j3 dt dst
        obtain ⟨s0, p1, p2⟩ := tidied_some (rest2 (xs.map u8) xs.length cl i x q q q b b b s1 s2 s3 cr v1 v2 v3 cv (bump 2 1 v1) (bump 2 2 v2) (bump 2 3 v3) cv cs cu false k1 k2 k3 j1 j2 j3 j1 kb j3 ct cst dt dst false dst true e1 ((e2 + 1 : Nat) : Int) e3)
        have hsub : ((e2 + 1 : Nat) : Int) - 1 = e2 := by omega
        refine .round (execX_sound mixed sndX4 4 10 _ _ _ _ _ _ _ p1 (.cons c0 (.cons c1 (.cons c2 (.cons c3 (.cons hst (.cons (decide_eq_true (by omega)) (.cons (sub1 _ _ e2 (by omega)) (.cons c4 .nil))))))))) p2 ?_
        rw [hsub, ← hcast]
        exact r1
      | zero =>
        rcases h2.move (by omega) with ⟨ha, hb⟩ | ⟨a, hA, hmove⟩
        · obtain ⟨s', r1, r2⟩ := picks xs hl hx hmany n1 n2 n3 m (i + 1) q b s1 s2 s3 cr v1 v2 v3 cv cs cu k1 k2 k3 j1 j2 j3 ct cst dt dst e1 0 e3 (by omega) (hM.mono (Nat.le_succ i)) (h1.mono (Nat.le_succ i)) (h2.mono (Nat.le_succ i)) (h3.mono (Nat.le_succ i)) g1 (by omega) g3
          refine ⟨s', ?_, r2⟩
          obtain ⟨s0, p1, p2⟩ := tidied_some (move2 (xs.map u8) xs.length cl i x q q q q b b b b s1 s2 s3 cr s1 s2 s3 cr v1 v2 v3 cv v1 v2 v3 cv cs cs cu cu k1 k2 k3 k1 k2 k3 j1 j2 j3 j1 j2 j3 ct cst ct cst dt dst dt dst false false e1 ((0 : Nat) : Int) e3)
          refine .round (execX_sound mixed sndX4 4 10 _ _ _ _ _ _ _ p1 (.cons c0 (.cons c1 (.cons c2 (.cons c3 (.cons (wstill2 hb q b v1 v2 v3 cv cu j1 j3 dt dst) (.cons (by simp) (.cons (wstill2 ha q b s1 s2 s3 cr cs k1 k3 ct cst) (.cons c4 .nil))))))))) p2 ?_
          rw [← hcast]
          exact r1
        · obtain ⟨q', b', g, hM', hdo⟩ := do_any hM (by omega) hA 2 (by omega)
          obtain ⟨ka, kb, hr, hga, hgb⟩ := hmove g
          obtain ⟨s', r1, r2⟩ := picks xs hl hx hmany n1 n2 n3 m (i + 1) q' b' (bump 2 1 s1) (bump 2 2 s2) (bump 2 3 s3) cr (bump 2 1 v1) (bump 2 2 v2) (bump 2 3 v3) cv false false k1 ka k3 j1 kb j3 false cst false dst e1 0 e3 (by omega) hM' (h1.mono (Nat.le_succ i)) hr (h3.mono (Nat.le_succ i)) g1 (by omega) g3
          refine ⟨s', ?_, r2⟩
          obtain ⟨s0, p1, p2⟩ := tidied_some (move2 (xs.map u8) xs.length cl i x q q' q q' b b' b b' s1 s2 s3 cr (bump 2 1 s1) (bump 2 2 s2) (bump 2 3 s3) cr v1 v2 v3 cv (bump 2 1 v1) (bump 2 2 v2) (bump 2 3 v3) cv cs false cu false k1 k2 k3 k1 ka k3 j1 j2 j3 j1 kb j3 ct cst false cst dt dst false dst true true e1 ((0 : Nat) : Int) e3)
          refine .round (execX_sound mixed sndX4 4 10 _ _ _ _ _ _ _ p1 (.cons c0 (.cons c1 (.cons c2 (.cons c3 (.cons (wstep2 hgb hdo v1 v2 v3 cv cu j1 j3 dt dst) (.cons (by simp) (.cons (wstep2 hga hdo s1 s2 s3 cr cs k1 k3 ct cst) (.cons c4 .nil))))))))) p2 ?_
          rw [← hcast]
          exact r1
    · cases e3 with
      | succ e3 =>
        obtain ⟨kb, hr, hgs⟩ := h3.rest (by omega) ⟨0, 0, 0, true⟩
        obtain ⟨s', r1, r2⟩ := picks xs hl hx hmany n1 n2 n3 m (i + 1) q b s1 s2 s3 cr (bump 3 1 v1) (bump 3 2 v2) (bump 3 3 v3) cv cs false k1 k2 k3 j1 j2 kb ct cst false dst e1 e2 e3 (by omega) (hM.mono (Nat.le_succ i)) (h1.mono (Nat.le_succ i)) (h2.mono (Nat.le_succ i)) hr g1 g2 (by omega)
        refine ⟨s', ?_, r2⟩
        have hst := wstep3 hgs (fun s1 s2 s3 cr cs => do_rest q b s1 s2 s3 cr cs 3 (by omega)) v1 v2 v3 cv cu j1 j2 dt dst
        obtain ⟨s0, p1, p2⟩ := tidied_some (rest3 (xs.map u8) xs.length cl i x q q q b b b s1 s2 s3 cr v1 v2 v3 cv (bump 3 1 v1) (bump 3 2 v2) (bump 3 3 v3) cv cs cu false k1 k2 k3 j1 j2 j3 j1 j2 kb ct cst dt dst false dst true e1 e2 ((e3 + 1 : Nat) : Int))
        have hsub : ((e3 + 1 : Nat) : Int) - 1 = e3 := by omega
        refine .round (execX_sound mixed sndX4 4 10 _ _ _ _ _ _ _ p1 (.cons c0 (.cons c1 (.cons c2 (.cons c3 (.cons hst (.cons (decide_eq_true (by omega)) (.cons (sub1 _ _ e3 (by omega)) (.cons c4 .nil))))))))) p2 ?_
        rw [hsub, ← hcast]
        exact r1
      | zero =>
        rcases h3.move (by omega) with ⟨ha, hb⟩ | ⟨a, hA, hmove⟩
        · obtain ⟨s', r1, r2⟩ := picks xs hl hx hmany n1 n2 n3 m (i + 1) q b s1 s2 s3 cr v1 v2 v3 cv cs cu k1 k2 k3 j1 j2 j3 ct cst dt dst e1 e2 0 (by omega) (hM.mono (Nat.le_succ i)) (h1.mono (Nat.le_succ i)) (h2.mono (Nat.le_succ i)) (h3.mono (Nat.le_succ i)) g1 g2 (by omega)
          refine ⟨s', ?_, r2⟩
          obtain ⟨s0, p1, p2⟩ := tidied_some (move3 (xs.map u8) xs.length cl i x q q q q b b b b s1 s2 s3 cr s1 s2 s3 cr v1 v2 v3 cv v1 v2 v3 cv cs cs cu cu k1 k2 k3 k1 k2 k3 j1 j2 j3 j1 j2 j3 ct cst ct cst dt dst dt dst false false e1 e2 ((0 : Nat) : Int))
          refine .round (execX_sound mixed sndX4 4 10 _ _ _ _ _ _ _ p1 (.cons c0 (.cons c1 (.cons c2 (.cons c3 (.cons (wstill3 hb q b v1 v2 v3 cv cu j1 j2 dt dst) (.cons (by simp) (.cons (wstill3 ha q b s1 s2 s3 cr cs k1 k2 ct cst) (.cons c4 .nil))))))))) p2 ?_
          rw [← hcast]
          exact r1
        · obtain ⟨q', b', g, hM', hdo⟩ := do_any hM (by omega) hA 3 (by omega)
          obtain ⟨ka, kb, hr, hga, hgb⟩ := hmove g
          obtain ⟨s', r1, r2⟩ := picks xs hl hx hmany n1 n2 n3 m (i + 1) q' b' (bump 3 1 s1) (bump 3 2 s2) (bump 3 3 s3) cr (bump 3 1 v1) (bump 3 2 v2) (bump 3 3 v3) cv false false k1 k2 ka j1 j2 kb false cst false dst e1 e2 0 (by omega) hM' (h1.mono (Nat.le_succ i)) (h2.mono (Nat.le_succ i)) hr g1 g2 (by omega)
          refine ⟨s', ?_, r2⟩
          obtain ⟨s0, p1, p2⟩ := tidied_some (move3 (xs.map u8) xs.length cl i x q q' q q' b b' b b' s1 s2 s3 cr (bump 3 1 s1) (bump 3 2 s2) (bump 3 3 s3) cr v1 v2 v3 cv (bump 3 1 v1) (bump 3 2 v2) (bump 3 3 v3) cv cs false cu false k1 k2 k3 k1 k2 ka j1 j2 j3 j1 j2 kb ct cst false cst dt dst false dst true true e1 e2 ((0 : Nat) : Int))
          refine .round (execX_sound mixed sndX4 4 10 _ _ _ _ _ _ _ p1 (.cons c0 (.cons c1 (.cons c2 (.cons c3 (.cons (wstep3 hgb hdo v1 v2 v3 cv cu j1 j2 dt dst) (.cons (by simp) (.cons (wstep3 hga hdo s1 s2 s3 cr cs k1 k2 ct cst) (.cons c4 .nil))))))))) p2 ?_
          rw [← hcast]
          exact r1
end Go.Proofs.Ytfceedfmjhclaaa
