/- Loops whose rows have no known length. -/
import Derived.Test.YtaomebcmmjhplaaGreatDoorVa19
namespace Go.Va
open Go Go.RowKit

/-- What is known may be forgotten, and the blocks be numbered anew. -/
def Weak (G : Nat → Option (List T)) (nt : Nat) (s s' : S) : Prop := ∀ (base : Nat) (w0 : Base) (ρ : Nat → Option Nat) (I : Nat → Prop) (a : Act) (w : World), SimS G base w0 nt ρ I s a w → ∃ ρ', SimS G base w0 nt ρ' I s' a w
def tidyO (ord opq ks : List Nat) (s : S) : Option S :=
  if ord.Nodup then some ⟨(s.env.filter fun x => ks.contains x.1).map fun x => (x.1, renC ord deep x.2), ord.map fun b => if opq.contains b then s.h b else (s.h b).map (renB ord)⟩ else none
def OpqB (k : Blk) : Prop := ∃ xs fz, k = .cells (List.map C.t xs) fz
theorem map_t_any {ρ ρ' : Nat → Option Nat} {h : Array Obj} {I : Nat → Prop} : ∀ (xs : List T) (vs : List Value), RCs ρ h I (xs.map .t) vs → RCs ρ' h I (xs.map .t) vs
  | [], vs, hr => by simpa only [RCs, List.map_nil] using hr
  | x :: xs, vs, hr => by
    simp only [RCs, RC, List.map_cons] at hr ⊢
    obtain ⟨v, rest, rfl, h1, h2⟩ := hr
    exact ⟨v, rest, rfl, h1, map_t_any xs rest h2⟩
theorem opqB_any {ρ ρ' : Nat → Option Nat} {h : Array Obj} {I : Nat → Prop} {r : Nat} {k : Blk} (hk : OpqB k) (hr : RB ρ h I r k) : RB ρ' h I r k := by
  obtain ⟨xs, fz, rfl⟩ := hk
  simp only [RB] at hr ⊢
  obtain ⟨c, e, h1, h2, h3, h4⟩ := hr
  exact ⟨c, e, h1, h2, map_t_any _ _ h3, h4⟩
theorem tidyO_weak {G : Nat → Option (List T)} {nt : Nat} {s s' : S} {ord opq ks : List Nat} (h : tidyO ord opq ks s = some s') (ho : ∀ b, b ∈ opq → ∀ k, s.h b = some k → OpqB k) : Weak G nt s s' := by
  intro base w0 ρ I a w hs
  unfold tidyO at h
  split at h
  case isFalse => cases h
  rename_i hn
  cases h
  obtain ⟨⟨hm, hd, ht, he⟩, hnone⟩ := hs
  let f : Nat → Blk → Blk := fun b k => if opq.contains b then k else renB ord k
  have hget : ∀ b k, (S.mk ((s.env.filter fun x => ks.contains x.1).map fun x => (x.1, renC ord deep x.2)) (ord.map fun b => if opq.contains b then s.h b else (s.h b).map (renB ord))).h b = some k →
      ∃ c k0, ord[b]? = some c ∧ s.h c = some k0 ∧ k = f c k0 := fun b k hk => by
    simp only [S.h, List.getElem?_map] at hk
    cases hc : ord[b]? with
    | none => simp [hc] at hk
    | some c =>
      simp only [hc, Option.map_some, Option.join_some] at hk
      change (if opq.contains c then s.h c else (s.h c).map (renB ord)) = some k at hk
      cases h0 : s.h c with
      | none => simp [h0] at hk
      | some k0 =>
        refine ⟨c, k0, rfl, h0, ?_⟩
        simp only [h0, Option.map_some] at hk
        simp only [f]
        split at hk <;> rename_i hq
        · rw [if_pos hq]; exact (Option.some.inj hk).symm
        · rw [if_neg hq]; exact (Option.some.inj hk).symm
  have hf : ∀ c k0, isFz (f c k0) = isFz k0 := fun c k0 => by
    simp only [f]
    split
    · rfl
    · exact renB_fz ord k0
  refine ⟨reρ ord ρ, ⟨⟨hm.below, hm.ilt, hm.glob, fun b k hk => ?_, fun b b' k k' r h1 h2 h3 h4 => ?_, fun b r hr => ?_, hm.io⟩, hd, ht, fun k c hc => ?_⟩, fun b hb => ?_⟩
  · obtain ⟨c, k0, g1, g2, rfl⟩ := hget b k hk
    obtain ⟨r, t1, t2, t3, t4, t5⟩ := hm.blk c k0 g2
    refine ⟨r, by unfold reρ; rw [g1]; exact t1, t2, ?_, by rw [hf]; exact t4, by rw [hf]; exact t5⟩
    simp only [f]
    split
    · rename_i hq
      exact opqB_any (ho c (by simpa using hq) k0 g2) t3
    · exact renB_sound ord t3
  · obtain ⟨c, k0, g1, g2, _⟩ := hget b k h1
    obtain ⟨c', k0', g1', g2', _⟩ := hget b' k' h2
    unfold reρ at h3 h4
    rw [g1] at h3
    rw [g1'] at h4
    have := hm.inj c c' k0 k0' r g2 g2' h3 h4
    subst this
    exact nodup_get hn g1 g1'
  · unfold reρ at hr
    obtain ⟨c, _, h2⟩ := Option.bind_eq_some_iff.1 hr
    exact hm.rlt c r h2
  · obtain ⟨c0, g1, rfl⟩ := look_map (renC ord deep) _ k c hc
    exact renC_sound ord deep c0 _ (he k c0 (look_filter _ _ _ _ g1))
  · unfold reρ
    rw [List.getElem?_eq_none (by simpa using hb)]
    rfl
def tidiedO (ord opq ks : List Nat) (o : Option (Ex × S × Tape × List Prop)) : Option (Ex × S × Tape × List Prop × List (Option Blk)) :=
  match o with
  | some (x, s, tp, ps) => match tidyO ord opq ks s with
    | some s' => some (x, s', tp, ps, opq.map s.h)
    | none => none
  | none => none
theorem tidiedO_some {G : Nat → Option (List T)} {nt : Nat} {ord opq ks : List Nat} {o : Option (Ex × S × Tape × List Prop)} {x : Ex} {s' : S} {tp : Tape} {ps : List Prop} {bs : List (Option Blk)} (h : tidiedO ord opq ks o = some (x, s', tp, ps, bs)) (hb : ∀ k, some k ∈ bs → OpqB k) :
    ∃ s, o = some (x, s, tp, ps) ∧ Weak G nt s s' := by
  unfold tidiedO at h
  split at h
  · rename_i x0 s tp0 ps0
    split at h
    · rename_i s1 ht
      simp only [Option.some.injEq, Prod.mk.injEq] at h
      obtain ⟨rfl, rfl, rfl, rfl, rfl⟩ := h
      exact ⟨_, rfl, tidyO_weak ht fun b hb1 k hk => hb k (List.mem_map.2 ⟨b, hb1, hk⟩)⟩
    · cases h
  · cases h
theorem ExecS.weak {P : Program} {G : Nat → Option (List T)} {nt : Nat} {c : Code} {s s1 s' : S} {x : Ex} (hw : Weak G nt s s1) (h : ExecS P G nt c s1 x s') : ExecS P G nt c s x s' := by
  intro base w0 ρ I a w Q hb hs hQ
  obtain ⟨ρ', hs'⟩ := hw base w0 ρ I a w hs
  exact h base w0 ρ' I a w Q hb hs' hQ
theorem tidy_weak {G : Nat → Option (List T)} {nt : Nat} {s s' : S} {ks : List Nat} (h : tidy ks s = some s') : Weak G nt s s' := fun _ _ _ _ _ _ hs => tidy_sound hs h
/-- The rounds of a loop. -/
inductive RoundsW (P : Program) (G : Nat → Option (List T)) (nt : Nat) (b : Code) : S → Ex → S → Prop
  | out {s s' : S} {z : Ex} (hz : z ≠ .normal) (h : ExecS P G nt b s z s') : RoundsW P G nt b s z s'
  | round {s s1 s2 s' : S} {z : Ex} (h : ExecS P G nt b s .normal s1) (hw : Weak G nt s1 s2) (r : RoundsW P G nt b s2 z s') : RoundsW P G nt b s z s'
theorem RoundsW.count {P : Program} {G : Nat → Option (List T)} {nt : Nat} {b : Code} {s s' : S} {z : Ex} (h : RoundsW P G nt b s z s') : ∃ n, ∀ (base : Nat) (w0 : Base) (ρ : Nat → Option Nat) (I : Nat → Prop) (a : Act) (w : World) (Q : Exit → Act → World → Prop), base ≤ w0.w.heap.size → SimS G base w0 nt ρ I s a w →
    (∀ ρ' I' a' w', SimS G base w0 nt ρ' I' s' a' w' → Q (exitOf z) a' w') → Code.rounds P b Q n a w := by
  induction h with
  | @out s s' z hz h =>
    refine ⟨1, fun base w0 ρ I a w Q hb hs hq => ?_⟩
    rw [rounds_succ]
    refine h base w0 ρ I a w _ hb hs fun ρ' I' a' w' hs' => ?_
    have := hq ρ' I' a' w' hs'
    cases z with
    | normal => exact (hz rfl).elim
    | exit id => exact this
    | ret => exact this
  | @round s s1 s2 s' z h ht hr ih =>
    obtain ⟨n, hn⟩ := ih
    refine ⟨n + 1, fun base w0 ρ I a w Q hb hs hq => ?_⟩
    rw [rounds_succ]
    refine h base w0 ρ I a w _ hb hs fun ρ' I' a' w' hs' => ?_
    obtain ⟨ρ'', hs''⟩ := ht base w0 ρ' I' a' w' hs'
    exact hn base w0 ρ'' I' a' w' Q hb hs'' hq
theorem RoundsW.loop {P : Program} {G : Nat → Option (List T)} {nt : Nat} {b : Code} {s s' : S} {z : Ex} (h : RoundsW P G nt b s z s') : ExecS P G nt (.loop b) s z s' := by
  obtain ⟨n, hn⟩ := h.count
  exact fun base w0 ρ I a w Q hb hs hq => wp_loop_rounds n (hn base w0 ρ I a w Q hb hs hq)
end Go.Va
