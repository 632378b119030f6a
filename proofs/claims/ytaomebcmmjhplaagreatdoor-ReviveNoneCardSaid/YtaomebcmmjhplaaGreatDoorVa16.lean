/- Rounds of a loop, whole bodies, and the law of the interpreter: what it hands back, the call hands back. -/
import Derived.Test.YtaomebcmmjhplaaGreatDoorVa15
import Derived.LoopN
namespace Go.Va
open Go Go.RowKit

section
variable {P : Program} {G : Nat → Option (List T)} {base nt : Nat} {w0 : Base} {w : World} {ρ : Nat → Option Nat} {I : Nat → Prop} {e : Nat → Option C} {H : Nat → Option Blk} {a : Act}

/-! ## Numbered anew -/
theorem map_RCs {ρ' : Nat → Option Nat} {h : Array Obj} {f : C → C} (hf : ∀ c v, RC ρ h I c v → RC ρ' h I (f c) v) : ∀ (cs : List C) (vs : List Value), RCs ρ h I cs vs → RCs ρ' h I (cs.map f) vs
  | [], vs, hr => by simpa only [RCs, List.map_nil] using hr
  | c :: cs, vs, hr => by
    simp only [RCs, List.map_cons] at hr ⊢
    obtain ⟨v, rest, rfl, h1, h2⟩ := hr
    exact ⟨v, rest, rfl, hf _ _ h1, map_RCs hf cs rest h2⟩

theorem idxOf_get {ord : List Nat} {b i : Nat} (h : ord.idxOf? b = some i) : ord[i]? = some b := by
  unfold List.idxOf? at h
  obtain ⟨hlt, hp, _⟩ := List.findIdx?_eq_some_iff_getElem.1 h
  rw [List.getElem?_eq_getElem hlt]
  simpa using hp

def reρ (ord : List Nat) (ρ : Nat → Option Nat) : Nat → Option Nat := fun i => (ord[i]?).bind ρ
theorem reρ_of {ord : List Nat} {b i r : Nat} (h : ord.idxOf? b = some i) (hr : ρ b = some r) : reρ ord ρ i = some r := by
  unfold reρ
  rw [idxOf_get h]
  exact hr

theorem renC_sound (ord : List Nat) {h : Array Obj} : ∀ (n : Nat) (c : C) (v : Value), RC ρ h I c v → RC (reρ ord ρ) h I (renC ord n c) v
  | 0, c, v, hr => by simp only [renC, RC]
  | n + 1, .bad, v, hr => by simp only [renC, RC]
  | n + 1, .t x, v, hr => by simpa only [renC, RC] using hr
  | n + 1, .loc b off, v, hr => by
    simp only [RC] at hr
    obtain ⟨r, h1, h2⟩ := hr
    simp only [renC]
    split
    · rename_i i hi
      simp only [RC]
      exact ⟨r, reρ_of hi h1, h2⟩
    · simp only [RC]
  | n + 1, .osl b k sz, v, hr => by
    simp only [RC] at hr
    obtain ⟨r, cap, c, e, fr, h1, h2⟩ := hr
    simp only [renC]
    split
    · rename_i i hi
      simp only [RC]
      exact ⟨r, cap, c, e, fr, reρ_of hi h1, h2⟩
    · simp only [RC]
  | n + 1, .omp b, v, hr => by
    simp only [RC] at hr
    obtain ⟨r, h1, h2⟩ := hr
    simp only [renC]
    split
    · rename_i i hi
      simp only [RC]
      exact ⟨r, reρ_of hi h1, h2⟩
    · simp only [RC]
  | n + 1, .agg cs, v, hr => by
    simp only [renC, RC] at hr ⊢
    obtain ⟨vs, rfl, h1⟩ := hr
    exact ⟨vs, rfl, map_RCs (renC_sound ord n) _ _ h1⟩
  | n + 1, .tup cs, v, hr => by
    simp only [renC, RC] at hr ⊢
    obtain ⟨vs, rfl, h1⟩ := hr
    exact ⟨vs, rfl, map_RCs (renC_sound ord n) _ _ h1⟩
  | n + 1, .fn f x y, v, hr => by
    simp only [renC, RC] at hr ⊢
    obtain ⟨as, bs, rfl, h1, h2⟩ := hr
    exact ⟨as, bs, rfl, map_RCs (renC_sound ord n) _ _ h1, map_RCs (renC_sound ord n) _ _ h2⟩

theorem renB_fz (ord : List Nat) (k : Blk) : isFz (renB ord k) = isFz k := by cases k <;> rfl
theorem renB_sound (ord : List Nat) {h : Array Obj} {r : Nat} : ∀ {k : Blk}, RB ρ h I r k → RB (reρ ord ρ) h I r (renB ord k)
  | .cells cs fz, hr => by
    simp only [renB, RB] at hr ⊢
    obtain ⟨c, e, h1, h2, h3, h4⟩ := hr
    exact ⟨c, e, h1, by simpa using h2, by rw [List.length_map]; exact map_RCs (renC_sound ord deep) _ _ h3, by rw [List.length_map]; exact h4⟩
  | .map ks vs fz, hr => by
    simp only [renB, RB] at hr ⊢
    obtain ⟨es, clk, l, h1, hl, h2, h3⟩ := hr
    exact ⟨es, clk, l, h1, hl, h2, map_RCs (renC_sound ord deep) _ _ h3⟩
  | .iter .., hr => hr
  | .dead, hr => hr

theorem look_map (f : C → C) : ∀ (l : Env) (k : Nat) (c : C), look (l.map fun x => (x.1, f x.2)) k = some c → ∃ c0, look l k = some c0 ∧ c = f c0
  | [], k, c, h => by simp [look] at h
  | (j, d) :: l, k, c, h => by
    simp only [List.map_cons, look] at h ⊢
    split at h
    · cases h
      exact ⟨d, by simp [*], rfl⟩
    · obtain ⟨c0, h1, h2⟩ := look_map f l k c h
      exact ⟨c0, by simp [*], h2⟩
theorem look_filter (p : Nat → Bool) : ∀ (l : Env) (k : Nat) (c : C), look (l.filter fun x => p x.1) k = some c → look l k = some c
  | [], k, c, h => by simp [look] at h
  | (j, d) :: l, k, c, h => by
    rw [List.filter_cons] at h
    split at h
    · simp only [look] at h ⊢
      split at h
      · simp [*]
      · rw [if_neg (by assumption)]
        exact look_filter p l k c h
    · rename_i hp
      have h' := look_filter p l k c h
      simp only [look]
      split
      · rename_i hkj
        exfalso
        subst hkj
        have : ∀ (l : Env), look (l.filter fun x => p x.1) k = none := fun l => by
          induction l with
          | nil => simp [look]
          | cons x l ih =>
            obtain ⟨j, d⟩ := x
            rw [List.filter_cons]
            split
            · rename_i hq
              simp only [look]
              split
              · rename_i hh
                subst hh
                exact (hp hq).elim
              · exact ih
            · exact ih
        rw [this] at h
        cases h
      · exact h'

theorem nodup_get {l : List Nat} (h : l.Nodup) {i j b : Nat} (h1 : l[i]? = some b) (h2 : l[j]? = some b) : i = j := by
  obtain ⟨a1, a2⟩ := List.getElem?_eq_some_iff.1 h1
  obtain ⟨b1, b2⟩ := List.getElem?_eq_some_iff.1 h2
  have hp := List.pairwise_iff_getElem.1 h
  rcases Nat.lt_trichotomy i j with hij | hij | hij
  · exact (hp i j a1 b1 hij (a2.trans b2.symm)).elim
  · exact hij
  · exact (hp j i b1 a1 hij (b2.trans a2.symm)).elim

theorem tidy_sound {s s' : S} {ks : List Nat} (hs : SimS G base w0 nt ρ I s a w) (h : tidy ks s = some s') : ∃ ρ', SimS G base w0 nt ρ' I s' a w := by
  unfold tidy at h
  simp only at h
  generalize hord : reach s.h 4000 ((s.env.filter fun x => ks.contains x.1).flatMap fun x => idsC deep x.2) [] = ord at h
  split at h
  case isFalse => cases h
  rename_i hn
  cases h
  obtain ⟨⟨hm, hd, ht, he⟩, hnone⟩ := hs
  have hget : ∀ b k, (S.mk ((s.env.filter fun x => ks.contains x.1).map fun x => (x.1, renC ord deep x.2)) (ord.map fun b => (s.h b).map (renB ord))).h b = some k →
      ∃ c k0, ord[b]? = some c ∧ s.h c = some k0 ∧ k = renB ord k0 := fun b k hk => by
    simp only [S.h, List.getElem?_map] at hk
    cases hc : ord[b]? with
    | none => simp [hc] at hk
    | some c =>
      simp only [hc, Option.map_some, Option.join_some] at hk
      change ((s.h c).map (renB ord)) = some k at hk
      cases h0 : s.h c with
      | none => simp [h0] at hk
      | some k0 =>
        simp only [h0, Option.map_some, Option.some.injEq] at hk
        exact ⟨c, k0, rfl, h0, hk.symm⟩
  refine ⟨reρ ord ρ, ⟨⟨hm.below, hm.ilt, hm.glob, fun b k hk => ?_, fun b b' k k' r h1 h2 h3 h4 => ?_, fun b r hr => ?_, hm.io⟩, hd, ht, fun k c hc => ?_⟩, fun b hb => ?_⟩
  · obtain ⟨c, k0, g1, g2, rfl⟩ := hget b k hk
    obtain ⟨r, t1, t2, t3, t4, t5⟩ := hm.blk c k0 g2
    exact ⟨r, by unfold reρ; rw [g1]; exact t1, t2, renB_sound ord t3, by rw [renB_fz]; exact t4, by rw [renB_fz]; exact t5⟩
  · obtain ⟨c, k0, g1, g2, _⟩ := hget b k h1
    obtain ⟨c', k0', g1', g2', _⟩ := hget b' k' h2
    unfold reρ at h3 h4
    rw [g1] at h3
    rw [g1'] at h4
    have := hm.inj c c' k0 k0' r g2 g2' h3 h4
    subst this
    exact nodup_get hn g1 g1'
  · unfold reρ at hr
    obtain ⟨c, _, h2⟩ := Option.bind_eq_some_iff.1 hr
    exact hm.rlt c r h2
  · obtain ⟨c0, g1, rfl⟩ := look_map (renC ord deep) _ k c hc
    exact renC_sound ord deep c0 _ (he k c0 (look_filter _ _ _ _ g1))
  · unfold reρ
    rw [List.getElem?_eq_none (by simpa using hb)]
    rfl

/-! ## Bodies -/
def exitOf : Ex → Exit
  | .normal => .normal
  | .exit id => .exit id
  | .ret => .ret

theorem iter_sound {f : S → Option (Ex × S)} {c : Code} {Q : Exit → Act → World → Prop} {x : Ex} {s' : S} {ks : List Nat} (hq : ∀ ρ' I' a' w', SimS G base w0 nt ρ' I' s' a' w' → Q (exitOf x) a' w')
    (hf : ∀ (s : S) (y : Ex) (s1 : S) ρ I a w (R : Exit → Act → World → Prop), f s = some (y, s1) → SimS G base w0 nt ρ I s a w → (∀ ρ' I' a' w', SimS G base w0 nt ρ' I' s1 a' w' → R (exitOf y) a' w') → c.wp P R a w) :
    ∀ (m : Nat) (s : S) ρ I a w, iter f ks m s = some (x, s') → SimS G base w0 nt ρ I s a w → Code.rounds P c Q m a w
  | 0, s, ρ, I, a, w, h, hs => by simp [iter] at h
  | m + 1, s, ρ, I, a, w, h, hs => by
    rw [rounds_succ]
    simp only [iter] at h
    split at h
    · rename_i s1 h1
      split at h
      · rename_i s2 h2
        refine hf s .normal s1 ρ I a w _ h1 hs fun ρ' I' a' w' hs' => ?_
        obtain ⟨ρ'', hs''⟩ := tidy_sound hs' h2
        exact iter_sound hq hf m s2 ρ'' I' a' w' h hs''
      · cases h
    · rename_i hne
      refine hf s x s' ρ I a w _ h hs fun ρ' I' a' w' hs' => ?_
      have := hq ρ' I' a' w' hs'
      cases x with
      | normal => exact (hne _ h).elim
      | exit id => exact this
      | ret => exact this

theorem exec_sound {rc : FuncId → List T → Option (List R)} (hm : P.follows .mixedOrders = true) (hrc : ∀ f args rs, rc f args = some rs → Holds P G f args rs) (hb : base ≤ w0.w.heap.size) (n : Nat) :
    ∀ (c : Code) (s : S) (x : Ex) (s' : S) ρ I a w (Q : Exit → Act → World → Prop), exec P G rc nt n c s = some (x, s') → SimS G base w0 nt ρ I s a w →
      (∀ ρ' I' a' w', SimS G base w0 nt ρ' I' s' a' w' → Q (exitOf x) a' w') → c.wp P Q a w := by
  intro c
  induction c with
  | skip =>
    intro s x s' ρ I a w Q h hs hq
    simp only [exec, Option.some.injEq, Prod.mk.injEq] at h
    obtain ⟨rfl, rfl⟩ := h
    exact wp_skip (hq _ _ _ _ hs)
  | label l =>
    intro s x s' ρ I a w Q h hs hq
    simp only [exec, Option.some.injEq, Prod.mk.injEq] at h
    obtain ⟨rfl, rfl⟩ := h
    exact wp_label (hq _ _ _ _ hs)
  | region id ops draw =>
    intro s x s' ρ I a w Q h hs hq
    simp only [exec] at h
    cases hr : region P G rc nt ops draw s with
    | none => simp [hr] at h
    | some s1 =>
      simp only [hr, Option.map_some, Option.some.injEq, Prod.mk.injEq] at h
      obtain ⟨rfl, rfl⟩ := h
      exact region_sound hm hb hs (region_RegionR hrc hr) hq
  | seq x y ihx ihy =>
    intro s z s' ρ I a w Q h hs hq
    simp only [exec] at h
    refine wp_seq ?_
    split at h
    · rename_i s1 h1
      exact ihx s .normal s1 ρ I a w _ h1 hs fun ρ' I' a' w' hs' => ihy s1 z s' ρ' I' a' w' Q h hs' hq
    · rename_i hne
      refine ihx s z s' ρ I a w _ h hs fun ρ' I' a' w' hs' => ?_
      have := hq ρ' I' a' w' hs'
      cases z with
      | normal => exact (hne _ h).elim
      | exit id => exact this
      | ret => exact this
  | cond c x y ihx ihy =>
    intro s z s' ρ I a w Q h hs hq
    simp only [exec] at h
    split at h
    · rename_i b hc
      have hv := ev_sound hs.1 hc
      simp only [RC, RT] at hv
      refine wp_cond (t := b) hv.1 ?_
      cases b with
      | true => exact ihx s z s' ρ I a w Q h hs hq
      | false => exact ihy s z s' ρ I a w Q h hs hq
    · cases h
  | block id b ih =>
    intro s z s' ρ I a w Q h hs hq
    simp only [exec] at h
    refine wp_block ?_
    split at h
    · rename_i j s1 h1
      refine ih s (.exit j) s1 ρ I a w _ h1 hs fun ρ' I' a' w' hs' => ?_
      show (if j = id then Q .normal a' w' else Q (.exit j) a' w')
      split at h <;> cases h
      · rename_i hj
        rw [if_pos hj]
        exact hq ρ' I' a' w' hs'
      · rename_i hj
        rw [if_neg hj]
        exact hq ρ' I' a' w' hs'
    · rename_i hne
      refine ih s z s' ρ I a w _ h hs fun ρ' I' a' w' hs' => ?_
      have := hq ρ' I' a' w' hs'
      cases z with
      | normal => exact this
      | exit id => exact (hne _ _ h).elim
      | ret => exact this
  | loop b ih =>
    intro s z s' ρ I a w Q h hs hq
    simp only [exec] at h
    exact wp_loop_rounds n (iter_sound hq (fun s y s1 ρ I a w R h1 hs1 hq1 => ih s y s1 ρ I a w R h1 hs1 hq1) n s ρ I a w h hs)
  | exit id =>
    intro s x s' ρ I a w Q h hs hq
    simp only [exec, Option.some.injEq, Prod.mk.injEq] at h
    obtain ⟨rfl, rfl⟩ := h
    exact wp_exit (hq _ _ _ _ hs)
  | ret =>
    intro s x s' ρ I a w Q h hs hq
    simp only [exec, Option.some.injEq, Prod.mk.injEq] at h
    obtain ⟨rfl, rfl⟩ := h
    exact wp_ret (hq _ _ _ _ hs)
  | _ => intro s x s' ρ I a w Q h hs hq; simp only [exec] at h; cases h

/-! ## What is handed back -/
theorem resC_sound (hs : Sim G base w0 nt ρ I e H a w) : ∀ {l : List ResultVar} {cs : List C}, resC P e H l = some cs →
    ∃ vs, (l.mapM fun r => (match r with | .tmp t => pure (a.tmps.getD t undef) | .cell x t => (do loadVar t (← asAddr (a.tmps.getD x undef))) : Sem Value)).run P w = .ok vs w ∧ RCs ρ w.heap I cs vs
  | [], cs, h => by simp only [resC, Option.some.injEq] at h; subst h; exact ⟨[], by simp, by simp only [RCs]⟩
  | .tmp t :: l, cs, h => by
    simp only [resC] at h
    split at h
    · rename_i c cs' h1 h2
      cases h
      obtain ⟨vs, g1, g2⟩ := resC_sound hs h2
      refine ⟨a.tmps.getD t undef :: vs, ?_, by simp only [RCs]; exact ⟨_, _, rfl, hs.env t c h1, g2⟩⟩
      rw [List.mapM_cons]
      simp only [Sem.run_bind, Sem.run_pure, Result.andThen_ok, g1]
    · cases h
  | .cell x ty :: l, cs, h => by
    simp only [resC] at h
    split at h
    · rename_i b off cs' h1 h2
      split at h
      · rename_i xs fz h3
        cases hp : partC P ty xs off with
        | none => simp [hp] at h
        | some c =>
          simp only [hp, Option.map_some, Option.some.injEq] at h
          subst h
          obtain ⟨vs, g1, g2⟩ := resC_sound hs h2
          have hx := hs.env x _ h1
          simp only [RC] at hx
          obtain ⟨r, hr, hv⟩ := hx
          obtain ⟨r', hr', _, hrb, _⟩ := hs.mem.blk b _ h3
          rw [hr] at hr'
          cases hr'
          simp only [RB] at hrb
          obtain ⟨c0, e0, t1, t2, t3, t4⟩ := hrb
          obtain ⟨v, v1, v2⟩ := loadVar_part hp t1 t3
          rw [Nat.zero_add] at v1
          refine ⟨v :: vs, ?_, by simp only [RCs]; exact ⟨_, _, rfl, v2, g2⟩⟩
          rw [List.mapM_cons]
          simp only [hv, asAddr, Sem.run_bind, Sem.run_pure, Result.andThen_ok, v1]
          erw [g1]
          simp only [Result.andThen_ok, Sem.run_pure]
      · cases h
    · cases h

theorem ext_sub {w : World} {I K : Nat → Prop} (h : ∀ b, I b → K b) : Ext I K w.heap w.heap := ⟨fun _ _ => rfl, h, fun _ c e fr hb => ⟨c, e, fr, hb, Nat.le_refl _⟩⟩

/-- The blocks handed over, and where they are. -/
def Owns (ρ : Nat → Option Nat) (H : Nat → Option Blk) (os os' : List Nat) : Prop := os.map ρ = os'.map some ∧ ∀ b, b ∈ os → ∃ k, H b = some k ∧ isFz k = false

theorem toR_sound (hs : SimH G base w0 ρ I H w) {c : C} {x : R} {os ms : List Nat} (h : toR H c = some (x, os, ms)) {v : Value} (hv : RC ρ w.heap I c v) :
    (∀ b, b ∈ ms → ∃ k, H b = some k) ∧ ∃ os', Owns ρ H os os' ∧ ∀ (K : Nat → Prop), (∀ b, J ρ I ms b → K b) → (∀ o, o ∈ os' → ¬ K o) → ∀ rs vs os2, RR w.heap K base rs vs os2 → RR w.heap K base (x :: rs) (v :: vs) (os' ++ os2) := by
  have plain : ∀ {x os ms}, ((frz H deep c).map fun (t, ms) => (R.t t, ([] : List Nat), ms)) = some (x, os, ms) →
      (∀ b, b ∈ ms → ∃ k, H b = some k) ∧ ∃ os', Owns ρ H os os' ∧ ∀ (K : Nat → Prop), (∀ b, J ρ I ms b → K b) → (∀ o, o ∈ os' → ¬ K o) → ∀ rs vs os2, RR w.heap K base rs vs os2 → RR w.heap K base (x :: rs) (v :: vs) (os' ++ os2) := by
    intro x os ms h
    cases hf : frz H deep c with
    | none => simp [hf] at h
    | some q =>
      obtain ⟨t, ns⟩ := q
      simp only [hf, Option.map_some, Option.some.injEq, Prod.mk.injEq] at h
      obtain ⟨rfl, rfl, rfl⟩ := h
      obtain ⟨g1, g2⟩ := frz_sound hs deep c t ns hf
      refine ⟨g1, [], ⟨rfl, fun b hb => by cases hb⟩, fun K hK _ rs vs os2 hr => ?_⟩
      simp only [RR, List.nil_append]
      exact ⟨v, vs, rfl, RT.mono (ext_sub hK) _ _ (g2 v hv), hr⟩
  unfold toR at h
  split at h
  · rename_i b n sz
    split at h
    · rename_i cs hb
      split at h
      · rename_i hlen
        cases hf : frzL (frz H deep) cs with
        | none => simp [hf] at h
        | some q =>
          obtain ⟨ts, ns⟩ := q
          simp only [hf, Option.map_some, Option.some.injEq, Prod.mk.injEq] at h
          obtain ⟨rfl, rfl, rfl⟩ := h
          obtain ⟨g1, g2, g3⟩ := frzL_sound (frz_sound hs deep) cs ts ns hf
          simp only [RC] at hv
          obtain ⟨r, cap, c0, e0, fr0, hr, rfl, hcap, hh, hsz⟩ := hv
          obtain ⟨r', hr', hbr, hrb, _, hnI⟩ := hs.blk b _ hb
          rw [hr] at hr'
          cases hr'
          simp only [RB] at hrb
          obtain ⟨c1, e1, t1, t2, t3, t4⟩ := hrb
          rw [hh] at t1
          cases t1
          refine ⟨g1, [r], ⟨by simp [hr], fun x hx => by rw [List.mem_singleton] at hx; subst hx; exact ⟨_, hb, rfl⟩⟩, fun K hK ho rs vs os2 hR => ?_⟩
          simp only [RR]
          refine ⟨r, cap, _, _, vs, os2, rfl, rfl, hcap, hsz, hh, by rw [g2]; exact t2, ?_, by rw [g2]; exact t4, hbr, ho r (by simp), hR⟩
          rw [g2]
          exact RTs.mono (ext_sub hK) _ _ (g3 _ t3)
      · cases h
    · exact plain h
  · rename_i b
    split at h
    · rename_i ks us hb
      cases hf : frzL (frz H deep) us with
      | none => simp [hf] at h
      | some q =>
        obtain ⟨ts, ns⟩ := q
        simp only [hf, Option.map_some, Option.some.injEq, Prod.mk.injEq] at h
        obtain ⟨rfl, rfl, rfl⟩ := h
        obtain ⟨g1, g2, g3⟩ := frzL_sound (frz_sound hs deep) us ts ns hf
        simp only [RC] at hv
        obtain ⟨r, hr, rfl⟩ := hv
        obtain ⟨r', hr', hbr, hrb, _, hnI⟩ := hs.blk b _ hb
        rw [hr] at hr'
        cases hr'
        simp only [RB] at hrb
        obtain ⟨es, clk, l, t1, hl, t2, t3⟩ := hrb
        refine ⟨g1, [r], ⟨by simp [hr], fun x hx => by rw [List.mem_singleton] at hx; subst hx; exact ⟨_, hb, rfl⟩⟩, fun K hK ho rs vs os2 hR => ?_⟩
        simp only [RR]
        exact ⟨r, es, clk, l, vs, os2, rfl, rfl, t1, hl, t2, RTs.mono (ext_sub hK) _ _ (g3 _ t3), hbr, ho r (by simp), hR⟩
    · exact plain h
  · exact plain h

theorem toRs_sound (hs : SimH G base w0 ρ I H w) : ∀ {cs : List C} {rs : List R} {os ms : List Nat}, toRs H cs = some (rs, os, ms) → ∀ {vs : List Value}, RCs ρ w.heap I cs vs →
    (∀ b, b ∈ ms → ∃ k, H b = some k) ∧ ∃ os', Owns ρ H os os' ∧ ∀ (K : Nat → Prop), (∀ b, J ρ I ms b → K b) → (∀ o, o ∈ os' → ¬ K o) → RR w.heap K base rs vs os'
  | [], rs, os, ms, h, vs, hv => by
    simp only [toRs, Option.some.injEq, Prod.mk.injEq] at h
    obtain ⟨rfl, rfl, rfl⟩ := h
    simp only [RCs] at hv
    subst hv
    exact ⟨(fun b hb => by cases hb), [], ⟨rfl, fun b hb => by cases hb⟩, fun K _ _ => by simp only [RR]; exact ⟨trivial, trivial⟩⟩
  | c :: cs, rs, os, ms, h, vs, hv => by
    simp only [toRs] at h
    split at h
    · rename_i x o m xs os1 ms1 h1 h2
      simp only [Option.some.injEq, Prod.mk.injEq] at h
      obtain ⟨rfl, rfl, rfl⟩ := h
      simp only [RCs] at hv
      obtain ⟨v, rest, rfl, hv1, hv2⟩ := hv
      obtain ⟨d1, o1, w1, k1⟩ := toR_sound hs h1 hv1
      obtain ⟨d2, o2, w2, k2⟩ := toRs_sound hs h2 hv2
      refine ⟨fun b hb => (List.mem_append.1 hb).elim (d1 b) (d2 b), o1 ++ o2, ⟨by simp [w1.1, w2.1], fun b hb => (List.mem_append.1 hb).elim (w1.2 b) (w2.2 b)⟩, fun K hK ho => ?_⟩
      refine k1 K (fun b hb => hK b ?_) (fun o' ho' => ho o' (List.mem_append.2 (.inl ho'))) _ _ _ (k2 K (fun b hb => hK b ?_) (fun o' ho' => ho o' (List.mem_append.2 (.inr ho'))))
      · rcases hb with hb | ⟨y, hy, hr⟩
        · exact .inl hb
        · exact .inr ⟨y, List.mem_append.2 (.inl hy), hr⟩
      · rcases hb with hb | ⟨y, hy, hr⟩
        · exact .inl hb
        · exact .inr ⟨y, List.mem_append.2 (.inr hy), hr⟩
    · cases h

theorem owns_get {os os' : List Nat} (h : os.map ρ = os'.map some) {i r : Nat} (hr : os'[i]? = some r) : ∃ b, os[i]? = some b ∧ ρ b = some r := by
  have : (os.map ρ)[i]? = (os'.map some)[i]? := by rw [h]
  simp only [List.getElem?_map, hr, Option.map_some] at this
  cases hb : os[i]? with
  | none => simp [hb] at this
  | some b => simp only [hb, Option.map_some, Option.some.injEq] at this; exact ⟨b, rfl, this⟩

theorem retR_sound (hb : base = w0.w.heap.size) {fn : Func} {s : S} {rs : List R} (h : retR P fn s = some rs) (hs : SimS G base w0 nt ρ I s a w) :
    ∃ outs os K, (results fn a.tmps).run P w = .ok (retV outs) w ∧ (∀ b, w0.I0 b → K b) ∧ (∀ b, K b → w0.I0 b ∨ (base ≤ b ∧ b < w.heap.size)) ∧ RR w.heap K base rs outs os ∧ os.Nodup := by
  unfold retR at h
  split at h
  case h_2 => cases h
  rename_i cs hcs
  split at h
  case h_2 => cases h
  rename_i rs' os ms hto
  split at h
  case isFalse => cases h
  rename_i hn
  cases h
  obtain ⟨hn1, hn2⟩ := hn
  obtain ⟨vs, g1, g2⟩ := resC_sound hs.1 hcs
  obtain ⟨d, os', ho, hk⟩ := toRs_sound hs.1.mem hto g2
  refine ⟨vs, os', J ρ I ms, ?_, fun b hb => .inl (hs.1.mem.io.1 b hb), fun b hb => ?_, hk _ (fun _ h => h) (fun o ho' hJ => ?_), ?_⟩
  · unfold results
    rw [Array.mapM_eq_mapM_toList]
    have g1' : (fn.results.toList.mapM fun r => (match r with | .tmp t => pure (a.tmps.getD t undef) | .cell x t => (do loadVar t (← asAddr (a.tmps.getD x undef))) : Sem Value)).run P w = .ok vs w := g1
    simp only [Sem.run_bind, Sem.run_map]
    erw [g1']
    simp only [Result.andThen_ok, Sem.run_pure]
    unfold retV
    rcases vs with _ | ⟨v, _ | ⟨v', vs⟩⟩ <;> simp
  · rcases hb with hb | ⟨y, hy, hr⟩
    · rcases hs.1.mem.io.2 b hb with h1 | h1
      · exact .inl h1
      · exact .inr ⟨h1, hs.1.mem.ilt b hb⟩
    · obtain ⟨k, hk⟩ := d y hy
      obtain ⟨r, t1, t2, t3, _⟩ := hs.1.mem.blk y k hk
      rw [hr] at t1
      cases t1
      exact .inr ⟨t2, t3.lt⟩
  · obtain ⟨i, hi⟩ := List.mem_iff_getElem?.1 ho'
    obtain ⟨b, hb1, hb2⟩ := owns_get ho.1 hi
    have hbm : b ∈ os := List.mem_iff_getElem?.2 ⟨i, hb1⟩
    obtain ⟨k, hk1, hk2⟩ := ho.2 b hbm
    obtain ⟨r, t1, t2, t3, t4, t5⟩ := hs.1.mem.blk b k hk1
    rw [hb2] at t1
    cases t1
    rcases hJ with hJ | ⟨y, hy, hr⟩
    · exact t5 hk2 hJ
    · obtain ⟨k', hk'⟩ := d y hy
      have := hs.1.mem.inj b y k k' _ hk1 hk' hb2 hr
      subst this
      have := List.all_eq_true.1 hn2 b hbm
      simp [hy] at this
  · refine List.pairwise_iff_getElem.2 fun i j hi1 hj1 hij he => ?_
    have hi' : os'[i]? = some os'[i] := List.getElem?_eq_getElem hi1
    have hj' : os'[j]? = some os'[i] := by rw [he]; exact List.getElem?_eq_getElem hj1
    obtain ⟨b, hb1, hb2⟩ := owns_get ho.1 hi'
    obtain ⟨b', hb1', hb2'⟩ := owns_get ho.1 hj'
    obtain ⟨k, hk1, _⟩ := ho.2 b (List.mem_iff_getElem?.2 ⟨i, hb1⟩)
    obtain ⟨k', hk1', _⟩ := ho.2 b' (List.mem_iff_getElem?.2 ⟨j, hb1'⟩)
    have := hs.1.mem.inj b b' k k' _ hk1 hk1' hb2 hb2'
    subst this
    have := nodup_get hn1 hb1 hb1'
    omega

theorem initE_look : ∀ (args : List T) (k j : Nat) (c : C), look (initE args k) j = some c → ∃ t, k ≤ j ∧ args[j - k]? = some t ∧ c = .t t
  | [], k, j, c, h => by simp [initE, look] at h
  | x :: r, k, j, c, h => by
    simp only [initE, look] at h
    split at h
    · rename_i hj
      cases h
      subst hj
      exact ⟨x, Nat.le_refl _, by simp, rfl⟩
    · obtain ⟨t, h1, h2, h3⟩ := initE_look r (k + 1) j c h
      refine ⟨t, by omega, ?_, h3⟩
      have : j - k = (j - (k + 1)) + 1 := by omega
      rw [this, List.getElem?_cons_succ]
      exact h2

/-- THE LAW OF THE INTERPRETER. -/
theorem run_sound (hm : P.follows .mixedOrders = true) {intr : FuncId → List T → Option (List R)} (hi : ∀ f args rs, intr f args = some rs → Holds P G f args rs) :
    ∀ (n : Nat) (f : FuncId) (args : List T) (rs : List R), run P G intr n f args = some rs → Holds P G f args rs
  | 0, f, args, rs, h => by simp [run] at h
  | n + 1, f, args, rs, h => by
    simp only [run] at h
    split at h
    · rename_i r hr
      cases h
      exact hi f args _ hr
    · split at h
      case h_2 => cases h
      rename_i fn hfn
      split at h
      case h_2 => cases h
      rename_i c hc
      split at h
      case isFalse => cases h
      rename_i hlen
      intro w I vs hg hlt hargs
      refine calls_of_wp hfn hc ?_
      have hvl := hargs.length
      have hst : SimS G w.heap.size ⟨w, I⟩ fn.ntmps (fun _ => none) I ⟨initE args 0, []⟩ { tmps := vs.toArray ++ Array.replicate (fn.ntmps - vs.toArray.size) undef, defers := [] } w := by
        refine ⟨⟨⟨Below.refl _ _, hlt, hg, (fun b k hk => by simp [S.h] at hk), (fun b b' k k' r h1 => by simp [S.h] at h1), (fun b r hr => by cases hr), fun b hb => hb, fun b hb => .inl hb⟩, rfl, ?_, fun k c hk => ?_⟩, fun _ _ => rfl⟩
        · simp [hvl]; omega
        · obtain ⟨t, _, h2, rfl⟩ := initE_look args 0 k c hk
          rw [Nat.sub_zero] at h2
          obtain ⟨v, v1, v2⟩ := hargs.get h2
          have hk' := (List.getElem?_eq_some_iff.1 v1).1
          have : (vs.toArray ++ Array.replicate (fn.ntmps - vs.toArray.size) undef).getD k undef = v := by
            simp only [Array.getD_eq_getD_getElem?]
            rw [Array.getElem?_append_left (by simpa using hk')]
            simp [v1]
          simp only [RC]
          rw [this]
          exact v2
      have fin : ∀ s', retR P fn s' = some rs → ∀ ρ' I' a' w', SimS G w.heap.size ⟨w, I⟩ fn.ntmps ρ' I' s' a' w' →
          a'.defers = [] ∧ ∃ v, (results fn a'.tmps).run P w' = .ok v w' ∧ ∃ outs J os, Ending.returned v = .returned (retV outs) ∧ Below w.heap.size w w' ∧ (∀ b, I b → J b) ∧ (∀ b, J b → I b ∨ (w.heap.size ≤ b ∧ b < w'.heap.size)) ∧
            RR w'.heap J w.heap.size rs outs os ∧ os.Nodup := fun s' hr ρ' I' a' w' hs' => by
        obtain ⟨outs, os, K, k1, k2, k3, k4, k5⟩ := retR_sound (w0 := ⟨w, I⟩) rfl hr hs'
        exact ⟨hs'.1.defers, _, k1, outs, K, os, rfl, hs'.1.mem.below, k2, k3, k4, k5⟩
      split at h
      · rename_i s' hex
        exact exec_sound (w0 := ⟨w, I⟩) hm (run_sound hm hi n) (Nat.le_refl w.heap.size) n c _ .normal s' _ _ _ _ _ hex hst fun ρ' I' a' w' hs' => fin s' h ρ' I' a' w' hs'
      · rename_i s' hex
        exact exec_sound (w0 := ⟨w, I⟩) hm (run_sound hm hi n) (Nat.le_refl w.heap.size) n c _ .ret s' _ _ _ _ _ hex hst fun ρ' I' a' w' hs' => fin s' h ρ' I' a' w' hs'
      · cases h
end
end Go.Va
