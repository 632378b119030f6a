/- The law AdviseWraps answers true, whatever it is handed. -/
import Derived.Test.YtfceedfmjhclaaaAd5
namespace Go.Proofs.Ytfceedfmjhclaaa
open Go Go.RowKit Go.Va
set_option maxRecDepth 100000
set_option maxHeartbeats 400000

def tidiedP (ks : List Nat) (o : Option (S × Va.Tape × List Prop)) : Option (S × Va.Tape × List Prop) :=
  match o with
  | some (s, tp, ps) => match tidy ks s with
    | some s' => some (s', tp, ps)
    | none => none
  | none => none
theorem tidiedP_some {ks : List Nat} {o : Option (S × Va.Tape × List Prop)} {s' : S} {tp : Va.Tape} {ps : List Prop} (h : tidiedP ks o = some (s', tp, ps)) : ∃ s, o = some (s, tp, ps) ∧ tidy ks s = some s' := by
  unfold tidiedP at h
  split at h
  · split at h
    · rename_i s' ht
      cases h
      exact ⟨_, rfl, ht⟩
    · cases h
  · cases h

def Lx (rest : Int) : Int := if (if 64 < rest then 64 else rest) > 0 then (if 64 < rest then 64 else rest) else 0
def nilT : T := .lit (.slice none 0 0)

theorem prefix3 {lT : T} {lc : List T} {ln : Nat} (hl : IsL lT lc ln) (n rest : Int) (x0 y0 : T) (a0 ay : A8) :
    tidiedP [2, 10, 11, 12] (preX Try.prog noG (runX Try.prog noG noF 10) 3 Try.f3.ntmps 10 8 body3 ⟨initE [.lit (.int .i8 n), i64 rest, lT] 0, []⟩
      [((3, 25), .call [.t (bl true)]), ((3, 29), .b false), ((3, 57), .call [.t (tsk (.ifc 98 x0) a0 nilT)]), ((3, 59), .call [.t (tsk (.ifc 104 y0) ay nilT)])]) =
    some (S0 lT (Lx rest) (tsk (.ifc 98 x0) a0 nilT) (tsk (.ifc 104 y0) ay nilT), [],
      [Holds Try.prog noG 5 [] [.t (bl true)], decide ((ln : Int) > 100) = false, Holds Try.prog noG 9 [.ifc 98 (wr (cA (w64 n)).c (Lx rest) false)] [.t (tsk (.ifc 98 x0) a0 nilT)], Holds Try.prog noG 9 [(cA (w64 n)).c] [.t (tsk (.ifc 104 y0) ay nilT)]]) := by
  rcases hl with ⟨cl, rfl⟩ | ⟨rfl, rfl, rfl⟩ <;> kernel_rfl
theorem early3 {lT : T} {lc : List T} {ln : Nat} (hl : IsL lT lc ln) (n rest : Int) :
    runX Try.prog noG noF 11 3 [.lit (.int .i8 n), i64 rest, lT] [((3, 25), .call [.t (bl true)]), ((3, 29), .b true)] =
    some ([.t (bl true)], [], [Holds Try.prog noG 5 [] [.t (bl true)], decide ((ln : Int) > 100) = true]) := by
  rcases hl with ⟨cl, rfl⟩ | ⟨rfl, rfl, rfl⟩ <;> kernel_rfl
theorem start1 (lT : T) (L : Int) (x y : T) (ax ay : A8) : X3 (c1 (c1 tail3)) (S0 lT L (tsk (.ifc 98 x) ax nilT) (tsk (.ifc 104 y) ay nilT)) [] = some (.normal, S1 lT L (tsk (.ifc 98 x) ax nilT) (tsk (.ifc 104 y) ay nilT) 0, [], []) := by kernel_rfl
theorem start2 (lT : T) (x y : T) (ax ay : A8) (b1 b2 : Bool) (gx gy : List T) (kx ky : Nat) :
    X3 (c1 (c1 (c2 tail3))) ⟨[(2, .t lT), (11, .loc 0 0), (12, .loc 1 0)], [some (.cells (cellsT (tsk (.ifc 98 x) ax (gT b1 gx kx))) false), some (.cells (cellsT (tsk (.ifc 104 y) ay (gT b2 gy ky))) false)]⟩ [] =
      some (.normal, S2 lT (tsk (.ifc 98 x) ax (gT b1 gx kx)) (tsk (.ifc 104 y) ay (gT b2 gy ky)) 0, [], []) := by cases b1 <;> cases b2 <;> kernel_rfl
theorem last3 : ∃ s, X3 (c2 (c2 tail3)) ⟨[], []⟩ [] = some (.ret, s, [], []) ∧ retR Try.prog Try.f3 s = some [.t (bl true)] := by
  refine ⟨⟨[(6, .t (bl true))], []⟩, by kernel_rfl, by kernel_rfl⟩

/-! ## The list -/
theorem row_get : ∀ (gs : List G4) (i : Nat) (g : G4), gs[i]? = some g → ((gs.flatMap G4.l).drop (i * 4)).take 4 = g.l
  | [], i, g, h => by simp at h
  | x :: gs, 0, g, h => by
    simp at h
    subst h
    simp [G4.l]
  | x :: gs, i + 1, g, h => by
    have hl : (G4.l x).length = 4 := rfl
    rw [List.flatMap_cons, show (i + 1) * 4 = (G4.l x).length + i * 4 by omega, ← List.drop_drop, List.drop_left]
    exact row_get gs i g (by simpa using h)
theorem row_len (gs : List G4) : (gs.flatMap G4.l).length = gs.length * 4 := by
  induction gs with
  | nil => rfl
  | cons g gs ih => simp [ih, G4.l]; omega
theorem part_row (gs : List G4) (i : Nat) (g : G4) (h : gs[i]? = some g) : partC Try.prog 45 ((gs.flatMap G4.l).map .t) (i * 4) = some (.agg (g.l.map .t)) := by
  obtain ⟨d, ii, hd, hi, ha, hs⟩ : ∃ d ii, Try.prog.underlying 45 = some d ∧ Try.prog.info? 45 = some ii ∧ isAggB d = true ∧ ii.size = 4 := ⟨_, _, rfl, rfl, by kernel_rfl, by kernel_rfl⟩
  have hlt := (List.getElem?_eq_some_iff.1 h).1
  unfold partC
  simp only [hd, hi, ha, if_true, hs]
  rw [if_pos (by rw [List.length_map, row_len]; omega), ← List.map_drop, ← List.map_take, row_get gs i g h]
theorem index_row (gs : List G4) (cl : Bool) (i : Nat) (h : i < gs.length) : indexAddrC Try.prog 23 (.t (.sl (gs.flatMap G4.l) gs.length cl)) i = some ⟨ptrL (gs.flatMap G4.l) (i * 4), [], []⟩ := by
  obtain ⟨hu⟩ : Nonempty (Try.prog.underlying 23 = some (.slice 45)) := ⟨by kernel_rfl⟩
  obtain ⟨ii, hi, hs⟩ : ∃ ii, Try.prog.info? 45 = some ii ∧ ii.size = 4 := ⟨_, rfl, by kernel_rfl⟩
  unfold indexAddrC
  simp only [hu, hi, hs]
  rw [if_pos ⟨by omega, by omega⟩]
  simp [ptrL]

theorem next_done (s : AC) (g : G4) (h : s.done = false) : (nextM s g).1.done = (nextM s g).2.2 := by
  unfold nextM
  simp only [h, Bool.false_eq_true, if_false]
  cases s.begun <;> cases s.swapped <;> cases g.ok <;> simp <;> (try split) <;> simp_all

theorem told_X (s : AC) (a : A8) (d : Bool) (g : T) : told (.ifc 98 (wr s.c 0 true)) a d g = Xt d s a g := by cases d <;> rfl
theorem told_Y (s : AC) (a : A8) (d : Bool) (g : T) : told s.c a d g = Yt d s a g := by cases d <;> rfl
theorem gT_true (cells : List T) (k : Nat) : gT true cells k = .sl cells k false := rfl

theorem loopB_rounds (gs : List G4) {lT : T} (hl : IsL lT (gs.flatMap G4.l) gs.length) (hmany : gs.length ≤ 100) : ∀ (m i : Nat) (s : AC) (a : A8) (b1 b2 : Bool) (gx gy : List T) (kx ky : Nat), i + m = gs.length → GOk b1 gx kx → GOk b2 gy ky → kx ≤ 64 + i → ky ≤ i →
    ∃ s', Rounds Try.prog noG Try.f3.ntmps loopB ks2 (S2 lT (Xt s.done s a (gT b1 gx kx)) (Yt s.done s a (gT b2 gy ky)) i) (.exit 2) s' ∧ tidy [] s' = some ⟨[], []⟩
  | 0, i, s, a, b1, b2, gx, gy, kx, ky, he, h1, h2, hx, hy => by
    obtain ⟨s', o1, o2⟩ := tidied_some (outB hl (i + 1) s s.done a b1 b2 gx gy kx ky)
    refine ⟨s', ?_, o2⟩
    have hout : Rounds Try.prog noG Try.f3.ntmps loopB ks2 (S2 lT (Xt s.done s a (gT b1 gx kx)) (Yt s.done s a (gT b2 gy ky)) (i + 1)) (.exit 2) s' :=
      .out (by simp) (execX_sound mixed sndX3 3 10 _ _ _ _ _ _ _ o1 (.cons (by simp; omega) .nil))
    obtain ⟨n, tr, ans, bg, sw, d⟩ := s
    cases d
    · obtain ⟨s1, g1, g2⟩ := tidied_some (lastB hl i n tr ans bg sw a b1 b2 gx gy kx ky)
      exact .round (execX_sound mixed sndX3 3 10 _ _ _ _ _ _ _ g1 (.cons (by simp; omega) (.cons (neq_act _ _ a) (.cons (by simp; omega) (.cons (bin_add _ _ _ (by omega) (by omega)) .nil))))) g2 hout
    · obtain ⟨s1, g1, g2⟩ := tidied_some (lastBD hl i n tr ans bg sw a b1 b2 gx gy kx ky)
      exact .round (execX_sound mixed sndX3 3 10 _ _ _ _ _ _ _ g1 (.cons (by simp; omega) (.cons (by simp) (.cons (by simp) (.cons (by simp) (.cons (by simp [bl]) (.cons (by simp; omega) (.cons (bin_add _ _ _ (by omega) (by omega)) .nil)))))))) g2 hout
  | m + 1, i, s, a, b1, b2, gx, gy, kx, ky, he, h1, h2, hx, hy => by
    have hi : i < gs.length := by omega
    have hg : gs[i]? = some gs[i] := List.getElem?_eq_getElem hi
    have hlT : ∃ cl, lT = .sl (gs.flatMap G4.l) gs.length cl := by
      rcases hl with h | ⟨_, _, h⟩
      · exact h
      · omega
    obtain ⟨cl, rfl⟩ := hlT
    have e1 : ((i + 1 : Nat) : Int) = (i : Int) + 1 := by omega
    by_cases hd : s.done = true
    · obtain ⟨s', r1, r2⟩ := loopB_rounds gs hl hmany m (i + 1) s a b1 b2 gx gy kx ky (by omega) h1 h2 (by omega) (by omega)
      refine ⟨s', ?_, r2⟩
      obtain ⟨n, tr, ans, bg, sw, d⟩ := s
      simp only at hd
      subst hd
      obtain ⟨s1, g1, g2⟩ := tidied_some (roundBD (gs.flatMap G4.l) gs.length cl i n tr ans bg sw a gs[i] b1 b2 gx gy kx ky)
      rw [e1] at r1
      exact .round (execX_sound mixed sndX3 3 10 _ _ _ _ _ _ _ g1 (.cons (by simp; omega) (.cons (by simp) (.cons (by simp) (.cons (by simp) (.cons (by simp [bl]) (.cons (by simp; omega)
        (.cons (index_row gs cl i hi) (.cons (part_row gs i _ hg) (.cons (index_row gs cl i hi) (.cons (part_row gs i _ hg) (.cons (bin_add _ _ _ (by omega) (by omega)) .nil)))))))))))) g2 r1
    · have hd : s.done = false := by simpa using hd
      have hnd := next_done s gs[i] hd
      obtain ⟨s', r1, r2⟩ := loopB_rounds gs hl hmany m (i + 1) (nextM s gs[i]).1 (nextM s gs[i]).2.1 true true (gx ++ G4.l gs[i]) (gy ++ G4.l gs[i]) (kx + 1) (ky + 1) (by omega) (h1.next _) (h2.next _) (by omega) (by omega)
      refine ⟨s', ?_, r2⟩
      have hX := give_g 98 109 (.inr ⟨rfl, rfl⟩) (wr s.c 0 true) a gs[i] h1 (by omega) 98 _ _ _ (next_inner s gs[i])
      have hY := give_g 104 110 (.inl ⟨rfl, rfl⟩) s.t a gs[i] h2 (by omega) 104 _ _ _ (next_atom s gs[i])
      rw [told_X] at hX
      change Holds Try.prog noG 11 _ [.t (told (nextM s gs[i]).1.c _ _ _)] at hY
      rw [told_Y] at hY
      rw [hnd, gT_true, gT_true] at r1
      rw [e1] at r1
      generalize hn : nextM s gs[i] = q at *
      obtain ⟨q1, a', d'⟩ := q
      obtain ⟨n', tr', ans', bg', sw', d1⟩ := q1
      simp only at hnd r1 hX hY
      subst hnd
      obtain ⟨n, tr, ans, bg, sw, d⟩ := s
      simp only at hd
      subst hd
      obtain ⟨s1, g1, g2⟩ := tidied_some (roundB (gs.flatMap G4.l) gs.length cl i n tr ans n' tr' ans' bg sw bg' sw' d1 a a' gs[i] b1 b2 gx gy (gx ++ G4.l gs[i]) (gy ++ G4.l gs[i]) kx ky (kx + 1) (ky + 1))
      exact .round (execX_sound mixed sndX3 3 10 _ _ _ _ _ _ _ g1 (.cons (by simp; omega) (.cons (neq_act _ _ a) (.cons (by simp; omega)
        (.cons (index_row gs cl i hi) (.cons (part_row gs i _ hg) (.cons hX (.cons (index_row gs cl i hi) (.cons (part_row gs i _ hg) (.cons hY (.cons (bin_add _ _ _ (by omega) (by omega)) .nil))))))))))) g2 r1
end Go.Proofs.Ytfceedfmjhclaaa
