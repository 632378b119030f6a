/- Rounds of a loop, whole bodies, and the law of the interpreter: what it hands back, the call hands back. The interpreter led by a tape: where a Bool, a value or a call's results are not to be reckoned, the tape says them, and what is to be shown for it is written down. -/
import Derived.Test.YtiegfchaepbnbaaGreatDoorP7
import Derived.LoopN
namespace Go.Va
open Go Go.RowKit

section
variable {P : Program} {G : Nat → Option (List T)} {base nt : Nat} {w0 : Base} {w : World} {ρ : Nat → Option Nat} {I : Nat → Prop} {e : Nat → Option C} {H : Nat → Option Blk} {a : Act}

/-! ## Numbered anew -/
theorem map_RCs {ρ' : Nat → Option Nat} {h : Array Obj} {f : C → C} (hf : ∀ c v, RC ρ h I c v → RC ρ' h I (f c) v) : ∀ (cs : List C) (vs : List Value), RCs ρ h I cs vs → RCs ρ' h I (cs.map f) vs
  | [], vs, hr => by simpa only [RCs, List.map_nil] using hr
  | c :: cs, vs, hr => by
    simp only [RCs, List.map_cons] at hr ⊢
    obtain ⟨v, rest, rfl, h1, h2⟩ := hr
    exact ⟨v, rest, rfl, hf _ _ h1, map_RCs hf cs rest h2⟩

theorem idxOf_get {ord : List Nat} {b i : Nat} (h : ord.idxOf? b = some i) : ord[i]? = some b := by
  unfold List.idxOf? at h
  obtain ⟨hlt, hp, _⟩ := List.findIdx?_eq_some_iff_getElem.1 h
  rw [List.getElem?_eq_getElem hlt]
  simpa using hp

def reρ (ord : List Nat) (ρ : Nat → Option Nat) : Nat → Option Nat := fun i => (ord[i]?).bind ρ
theorem reρ_of {ord : List Nat} {b i r : Nat} (h : ord.idxOf? b = some i) (hr : ρ b = some r) : reρ ord ρ i = some r := by
  unfold reρ
  rw [idxOf_get h]
  exact hr

theorem renC_sound (ord : List Nat) {h : Array Obj} : ∀ (n : Nat) (c : C) (v : Value), RC ρ h I c v → RC (reρ ord ρ) h I (renC ord n c) v
  | 0, c, v, hr => by simp only [renC, RC]
  | n + 1, .bad, v, hr => by simp only [renC, RC]
  | n + 1, .t x, v, hr => by simpa only [renC, RC] using hr
  | n + 1, .loc b off, v, hr => by
    simp only [RC] at hr
    obtain ⟨r, h1, h2⟩ := hr
    simp only [renC]
    split
    · rename_i i hi
      simp only [RC]
      exact ⟨r, reρ_of hi h1, h2⟩
    · simp only [RC]
  | n + 1, .osl b k sz, v, hr => by
    simp only [RC] at hr
    obtain ⟨r, cap, c, e, fr, h1, h2⟩ := hr
    simp only [renC]
    split
    · rename_i i hi
      simp only [RC]
      exact ⟨r, cap, c, e, fr, reρ_of hi h1, h2⟩
    · simp only [RC]
  | n + 1, .omp b, v, hr => by
    simp only [RC] at hr
    obtain ⟨r, h1, h2⟩ := hr
    simp only [renC]
    split
    · rename_i i hi
      simp only [RC]
      exact ⟨r, reρ_of hi h1, h2⟩
    · simp only [RC]
  | n + 1, .agg cs, v, hr => by
    simp only [renC, RC] at hr ⊢
    obtain ⟨vs, rfl, h1⟩ := hr
    exact ⟨vs, rfl, map_RCs (renC_sound ord n) _ _ h1⟩
  | n + 1, .tup cs, v, hr => by
    simp only [renC, RC] at hr ⊢
    obtain ⟨vs, rfl, h1⟩ := hr
    exact ⟨vs, rfl, map_RCs (renC_sound ord n) _ _ h1⟩
  | n + 1, .fn f x y, v, hr => by
    simp only [renC, RC] at hr ⊢
    obtain ⟨as, bs, rfl, h1, h2⟩ := hr
    exact ⟨as, bs, rfl, map_RCs (renC_sound ord n) _ _ h1, map_RCs (renC_sound ord n) _ _ h2⟩

theorem renB_fz (ord : List Nat) (k : Blk) : isFz (renB ord k) = isFz k := by cases k <;> rfl
theorem renB_sound (ord : List Nat) {h : Array Obj} {r : Nat} : ∀ {k : Blk}, RB ρ h I r k → RB (reρ ord ρ) h I r (renB ord k)
  | .cells cs fz, hr => by
    simp only [renB, RB] at hr ⊢
    obtain ⟨c, e, h1, h2, h3, h4⟩ := hr
    exact ⟨c, e, h1, by simpa using h2, by rw [List.length_map]; exact map_RCs (renC_sound ord deep) _ _ h3, by rw [List.length_map]; exact h4⟩
  | .map ks vs fz, hr => by
    simp only [renB, RB] at hr ⊢
    obtain ⟨es, clk, l, h1, hl, h2, h3⟩ := hr
    exact ⟨es, clk, l, h1, hl, h2, map_RCs (renC_sound ord deep) _ _ h3⟩
  | .iter .., hr => hr
  | .dead, hr => hr

theorem look_map (f : C → C) : ∀ (l : Env) (k : Nat) (c : C), look (l.map fun x => (x.1, f x.2)) k = some c → ∃ c0, look l k = some c0 ∧ c = f c0
  | [], k, c, h => by simp [look] at h
  | (j, d) :: l, k, c, h => by
    simp only [List.map_cons, look] at h ⊢
    split at h
    · cases h
      exact ⟨d, by simp [*], rfl⟩
    · obtain ⟨c0, h1, h2⟩ := look_map f l k c h
      exact ⟨c0, by simp [*], h2⟩
theorem look_filter (p : Nat → Bool) : ∀ (l : Env) (k : Nat) (c : C), look (l.filter fun x => p x.1) k = some c → look l k = some c
  | [], k, c, h => by simp [look] at h
  | (j, d) :: l, k, c, h => by
    rw [List.filter_cons] at h
    split at h
    · simp only [look] at h ⊢
      split at h
      · simp [*]
      · rw [if_neg (by assumption)]
        exact look_filter p l k c h
    · rename_i hp
      have h' := look_filter p l k c h
      simp only [look]
      split
      · rename_i hkj
        exfalso
        subst hkj
        have : ∀ (l : Env), look (l.filter fun x => p x.1) k = none := fun l => by
          induction l with
          | nil => simp [look]
          | cons x l ih =>
            obtain ⟨j, d⟩ := x
            rw [List.filter_cons]
            split
            · rename_i hq
              simp only [look]
              split
              · rename_i hh
                subst hh
                exact (hp hq).elim
              · exact ih
            · exact ih
        rw [this] at h
        cases h
      · exact h'

theorem nodup_get {l : List Nat} (h : l.Nodup) {i j b : Nat} (h1 : l[i]? = some b) (h2 : l[j]? = some b) : i = j := by
  obtain ⟨a1, a2⟩ := List.getElem?_eq_some_iff.1 h1
  obtain ⟨b1, b2⟩ := List.getElem?_eq_some_iff.1 h2
  have hp := List.pairwise_iff_getElem.1 h
  rcases Nat.lt_trichotomy i j with hij | hij | hij
  · exact (hp i j a1 b1 hij (a2.trans b2.symm)).elim
  · exact hij
  · exact (hp j i b1 a1 hij (b2.trans a2.symm)).elim

theorem tidy_sound {s s' : S} {ks : List Nat} (hK : NoK w0) (hs : SimS G base w0 nt ρ I s a w) (h : tidy ks s = some s') : ∃ ρ', SimS G base w0 nt ρ' I s' a w := by
  unfold tidy at h
  simp only at h
  generalize hord : reach s.h 4000 ((s.env.filter fun x => ks.contains x.1).flatMap fun x => idsC deep x.2) [] = ord at h
  split at h
  case isFalse => cases h
  rename_i hn
  cases h
  obtain ⟨⟨hm, hd, ht, he⟩, hnone⟩ := hs
  have hget : ∀ b k, (S.mk ((s.env.filter fun x => ks.contains x.1).map fun x => (x.1, renC ord deep x.2)) (ord.map fun b => (s.h b).map (renB ord))).h b = some k →
      ∃ c k0, ord[b]? = some c ∧ s.h c = some k0 ∧ k = renB ord k0 := fun b k hk => by
    simp only [S.h, List.getElem?_map] at hk
    cases hc : ord[b]? with
    | none => simp [hc] at hk
    | some c =>
      simp only [hc, Option.map_some, Option.join_some] at hk
      change ((s.h c).map (renB ord)) = some k at hk
      cases h0 : s.h c with
      | none => simp [h0] at hk
      | some k0 =>
        simp only [h0, Option.map_some, Option.some.injEq] at hk
        exact ⟨c, k0, rfl, h0, hk.symm⟩
  refine ⟨reρ ord ρ, ⟨⟨hm.below, hm.ilt, hm.glob, fun b k hk => ?_, fun b b' k k' r h1 h2 h3 h4 => ?_, fun b r hr => ?_, hm.io, fun b r h => by rw [hK] at h; cases h⟩, hd, ht, fun k c hc => ?_⟩, fun b hb => ?_⟩
  · obtain ⟨c, k0, g1, g2, rfl⟩ := hget b k hk
    obtain ⟨r, t1, t2, t3, t4, t5⟩ := hm.blk c k0 g2
    exact ⟨r, by unfold reρ; rw [g1]; exact t1, t2, renB_sound ord t3, by rw [renB_fz]; exact t4, by rw [renB_fz]; exact t5⟩
  · obtain ⟨c, k0, g1, g2, _⟩ := hget b k h1
    obtain ⟨c', k0', g1', g2', _⟩ := hget b' k' h2
    unfold reρ at h3 h4
    rw [g1] at h3
    rw [g1'] at h4
    have := hm.inj c c' k0 k0' r g2 g2' h3 h4
    subst this
    exact nodup_get hn g1 g1'
  · unfold reρ at hr
    obtain ⟨c, _, h2⟩ := Option.bind_eq_some_iff.1 hr
    exact hm.rlt c r h2
  · obtain ⟨c0, g1, rfl⟩ := look_map (renC ord deep) _ k c hc
    exact renC_sound ord deep c0 _ (he k c0 (look_filter _ _ _ _ g1))
  · unfold reρ
    rw [List.getElem?_eq_none (by simpa using hb)]
    rfl

/-! ## Bodies -/
def exitOf : Ex → Exit
  | .normal => .normal
  | .exit id => .exit id
  | .ret => .ret

theorem iter_sound {f : S → Option (Ex × S)} {c : Code} {Q : Exit → Act → World → Prop} {x : Ex} {s' : S} {ks : List Nat} (hK : NoK w0) (hq : ∀ ρ' I' a' w', SimS G base w0 nt ρ' I' s' a' w' → Q (exitOf x) a' w')
    (hf : ∀ (s : S) (y : Ex) (s1 : S) ρ I a w (R : Exit → Act → World → Prop), f s = some (y, s1) → SimS G base w0 nt ρ I s a w → (∀ ρ' I' a' w', SimS G base w0 nt ρ' I' s1 a' w' → R (exitOf y) a' w') → c.wp P R a w) :
    ∀ (m : Nat) (s : S) ρ I a w, iter f ks m s = some (x, s') → SimS G base w0 nt ρ I s a w → Code.rounds P c Q m a w
  | 0, s, ρ, I, a, w, h, hs => by simp [iter] at h
  | m + 1, s, ρ, I, a, w, h, hs => by
    rw [rounds_succ]
    simp only [iter] at h
    split at h
    · rename_i s1 h1
      split at h
      · rename_i s2 h2
        refine hf s .normal s1 ρ I a w _ h1 hs fun ρ' I' a' w' hs' => ?_
        obtain ⟨ρ'', hs''⟩ := tidy_sound hK hs' h2
        exact iter_sound hK hq hf m s2 ρ'' I' a' w' h hs''
      · cases h
    · rename_i hne
      refine hf s x s' ρ I a w _ h hs fun ρ' I' a' w' hs' => ?_
      have := hq ρ' I' a' w' hs'
      cases x with
      | normal => exact (hne _ h).elim
      | exit id => exact this
      | ret => exact this

theorem exec_sound {rc : FuncId → List T → Option (List R)} (hm : P.follows .mixedOrders = true) (hrc : ∀ f args rs, rc f args = some rs → Holds P G f args rs) (hb : BaseOk base w0) (n : Nat) :
    ∀ (c : Code) (s : S) (x : Ex) (s' : S) ρ I a w (Q : Exit → Act → World → Prop), exec P G rc nt n c s = some (x, s') → SimS G base w0 nt ρ I s a w →
      (∀ ρ' I' a' w', SimS G base w0 nt ρ' I' s' a' w' → Q (exitOf x) a' w') → c.wp P Q a w := by
  intro c
  induction c with
  | skip =>
    intro s x s' ρ I a w Q h hs hq
    simp only [exec, Option.some.injEq, Prod.mk.injEq] at h
    obtain ⟨rfl, rfl⟩ := h
    exact wp_skip (hq _ _ _ _ hs)
  | label l =>
    intro s x s' ρ I a w Q h hs hq
    simp only [exec, Option.some.injEq, Prod.mk.injEq] at h
    obtain ⟨rfl, rfl⟩ := h
    exact wp_label (hq _ _ _ _ hs)
  | region id ops draw =>
    intro s x s' ρ I a w Q h hs hq
    simp only [exec] at h
    cases hr : region P G rc nt ops draw s with
    | none => simp [hr] at h
    | some s1 =>
      simp only [hr, Option.map_some, Option.some.injEq, Prod.mk.injEq] at h
      obtain ⟨rfl, rfl⟩ := h
      exact region_sound hm hb.1 hs (region_RegionR hrc hr) hq
  | seq x y ihx ihy =>
    intro s z s' ρ I a w Q h hs hq
    simp only [exec] at h
    refine wp_seq ?_
    split at h
    · rename_i s1 h1
      exact ihx s .normal s1 ρ I a w _ h1 hs fun ρ' I' a' w' hs' => ihy s1 z s' ρ' I' a' w' Q h hs' hq
    · rename_i hne
      refine ihx s z s' ρ I a w _ h hs fun ρ' I' a' w' hs' => ?_
      have := hq ρ' I' a' w' hs'
      cases z with
      | normal => exact (hne _ h).elim
      | exit id => exact this
      | ret => exact this
  | cond c x y ihx ihy =>
    intro s z s' ρ I a w Q h hs hq
    simp only [exec] at h
    split at h
    · rename_i b hc
      have hv := ev_sound hs.1 hc
      simp only [RC, RT] at hv
      refine wp_cond (t := b) hv.1 ?_
      cases b with
      | true => exact ihx s z s' ρ I a w Q h hs hq
      | false => exact ihy s z s' ρ I a w Q h hs hq
    · cases h
  | block id b ih =>
    intro s z s' ρ I a w Q h hs hq
    simp only [exec] at h
    refine wp_block ?_
    split at h
    · rename_i j s1 h1
      refine ih s (.exit j) s1 ρ I a w _ h1 hs fun ρ' I' a' w' hs' => ?_
      show (if j = id then Q .normal a' w' else Q (.exit j) a' w')
      split at h <;> cases h
      · rename_i hj
        rw [if_pos hj]
        exact hq ρ' I' a' w' hs'
      · rename_i hj
        rw [if_neg hj]
        exact hq ρ' I' a' w' hs'
    · rename_i hne
      refine ih s z s' ρ I a w _ h hs fun ρ' I' a' w' hs' => ?_
      have := hq ρ' I' a' w' hs'
      cases z with
      | normal => exact this
      | exit id => exact (hne _ _ h).elim
      | ret => exact this
  | loop b ih =>
    intro s z s' ρ I a w Q h hs hq
    simp only [exec] at h
    exact wp_loop_rounds n (iter_sound hb.2 hq (fun s y s1 ρ I a w R h1 hs1 hq1 => ih s y s1 ρ I a w R h1 hs1 hq1) n s ρ I a w h hs)
  | exit id =>
    intro s x s' ρ I a w Q h hs hq
    simp only [exec, Option.some.injEq, Prod.mk.injEq] at h
    obtain ⟨rfl, rfl⟩ := h
    exact wp_exit (hq _ _ _ _ hs)
  | ret =>
    intro s x s' ρ I a w Q h hs hq
    simp only [exec, Option.some.injEq, Prod.mk.injEq] at h
    obtain ⟨rfl, rfl⟩ := h
    exact wp_ret (hq _ _ _ _ hs)
  | _ => intro s x s' ρ I a w Q h hs hq; simp only [exec] at h; cases h

/-! ## What is handed back -/
theorem resC_sound (hs : Sim G base w0 nt ρ I e H a w) : ∀ {l : List ResultVar} {cs : List C}, resC P e H l = some cs →
    ∃ vs, (l.mapM fun r => (match r with | .tmp t => pure (a.tmps.getD t undef) | .cell x t => (do loadVar t (← asAddr (a.tmps.getD x undef))) : Sem Value)).run P w = .ok vs w ∧ RCs ρ w.heap I cs vs
  | [], cs, h => by simp only [resC, Option.some.injEq] at h; subst h; exact ⟨[], by simp, by simp only [RCs]⟩
  | .tmp t :: l, cs, h => by
    simp only [resC] at h
    split at h
    · rename_i c cs' h1 h2
      cases h
      obtain ⟨vs, g1, g2⟩ := resC_sound hs h2
      refine ⟨a.tmps.getD t undef :: vs, ?_, by simp only [RCs]; exact ⟨_, _, rfl, hs.env t c h1, g2⟩⟩
      rw [List.mapM_cons]
      simp only [Sem.run_bind, Sem.run_pure, Result.andThen_ok, g1]
    · cases h
  | .cell x ty :: l, cs, h => by
    simp only [resC] at h
    split at h
    · rename_i b off cs' h1 h2
      split at h
      · rename_i xs fz h3
        cases hp : partC P ty xs off with
        | none => simp [hp] at h
        | some c =>
          simp only [hp, Option.map_some, Option.some.injEq] at h
          subst h
          obtain ⟨vs, g1, g2⟩ := resC_sound hs h2
          have hx := hs.env x _ h1
          simp only [RC] at hx
          obtain ⟨r, hr, hv⟩ := hx
          obtain ⟨r', hr', _, hrb, _⟩ := hs.mem.blk b _ h3
          rw [hr] at hr'
          cases hr'
          simp only [RB] at hrb
          obtain ⟨c0, e0, t1, t2, t3, t4⟩ := hrb
          obtain ⟨v, v1, v2⟩ := loadVar_part hp t1 t3
          rw [Nat.zero_add] at v1
          refine ⟨v :: vs, ?_, by simp only [RCs]; exact ⟨_, _, rfl, v2, g2⟩⟩
          rw [List.mapM_cons]
          simp only [hv, asAddr, Sem.run_bind, Sem.run_pure, Result.andThen_ok, v1]
          erw [g1]
          simp only [Result.andThen_ok, Sem.run_pure]
      · cases h
    · cases h

theorem ext_sub {w : World} {I K : Nat → Prop} (h : ∀ b, I b → K b) : Ext I K w.heap w.heap := ⟨fun _ _ => rfl, h, fun _ c e fr hb => ⟨c, e, fr, hb, Nat.le_refl _⟩⟩

/-- The blocks handed over, and where they are. -/
def Owns (ρ : Nat → Option Nat) (H : Nat → Option Blk) (os os' : List Nat) : Prop := os.map ρ = os'.map some ∧ ∀ b, b ∈ os → ∃ k, H b = some k ∧ isFz k = false

theorem toR_sound (hNo : NoK w0) (hs : SimH G base w0 ρ I H w) {c : C} {x : R} {os ms : List Nat} (h : toR H c = some (x, os, ms)) {v : Value} (hv : RC ρ w.heap I c v) :
    (∀ b, b ∈ ms → ∃ k, H b = some k) ∧ ∃ os', Owns ρ H os os' ∧ ∀ (K : Nat → Prop), (∀ b, J ρ I ms b → K b) → (∀ o, o ∈ os' → ¬ K o) → ∀ rs vs os2, RR w.heap K base rs vs os2 → RR w.heap K base (x :: rs) (v :: vs) (os' ++ os2) := by
  have plain : ∀ {x os ms}, ((frz H deep c).map fun (t, ms) => (R.t t, ([] : List Nat), ms)) = some (x, os, ms) →
      (∀ b, b ∈ ms → ∃ k, H b = some k) ∧ ∃ os', Owns ρ H os os' ∧ ∀ (K : Nat → Prop), (∀ b, J ρ I ms b → K b) → (∀ o, o ∈ os' → ¬ K o) → ∀ rs vs os2, RR w.heap K base rs vs os2 → RR w.heap K base (x :: rs) (v :: vs) (os' ++ os2) := by
    intro x os ms h
    cases hf : frz H deep c with
    | none => simp [hf] at h
    | some q =>
      obtain ⟨t, ns⟩ := q
      simp only [hf, Option.map_some, Option.some.injEq, Prod.mk.injEq] at h
      obtain ⟨rfl, rfl, rfl⟩ := h
      obtain ⟨g1, g2⟩ := frz_sound hs deep c t ns hf
      refine ⟨g1, [], ⟨rfl, fun b hb => by cases hb⟩, fun K hK _ rs vs os2 hr => ?_⟩
      simp only [RR, List.nil_append]
      exact ⟨v, vs, rfl, RT.mono (ext_sub hK) _ _ (g2 v hv), hr⟩
  unfold toR at h
  split at h
  · rename_i b n sz
    split at h
    · rename_i cs hb
      split at h
      · rename_i hlen
        cases hf : frzL (frz H deep) cs with
        | none => simp [hf] at h
        | some q =>
          obtain ⟨ts, ns⟩ := q
          simp only [hf, Option.map_some, Option.some.injEq, Prod.mk.injEq] at h
          obtain ⟨rfl, rfl, rfl⟩ := h
          obtain ⟨g1, g2, g3⟩ := frzL_sound (frz_sound hs deep) cs ts ns hf
          simp only [RC] at hv
          obtain ⟨r, cap, c0, e0, fr0, hr, rfl, hcap, hh, hsz⟩ := hv
          obtain ⟨r', hr', hbr, hrb, _, hnI⟩ := hs.blk b _ hb
          rw [hr] at hr'
          cases hr'
          simp only [RB] at hrb
          obtain ⟨c1, e1, t1, t2, t3, t4⟩ := hrb
          rw [hh] at t1
          cases t1
          refine ⟨g1, [r], ⟨by simp [hr], fun x hx => by rw [List.mem_singleton] at hx; subst hx; exact ⟨_, hb, rfl⟩⟩, fun K hK ho rs vs os2 hR => ?_⟩
          simp only [RR]
          refine ⟨r, cap, _, _, vs, os2, rfl, rfl, hcap, hsz, hh, by rw [g2]; exact t2, ?_, by rw [g2]; exact t4, hNo.own hbr, ho r (by simp), hR⟩
          rw [g2]
          exact RTs.mono (ext_sub hK) _ _ (g3 _ t3)
      · cases h
    · exact plain h
  · rename_i b
    split at h
    · rename_i ks us hb
      cases hf : frzL (frz H deep) us with
      | none => simp [hf] at h
      | some q =>
        obtain ⟨ts, ns⟩ := q
        simp only [hf, Option.map_some, Option.some.injEq, Prod.mk.injEq] at h
        obtain ⟨rfl, rfl, rfl⟩ := h
        obtain ⟨g1, g2, g3⟩ := frzL_sound (frz_sound hs deep) us ts ns hf
        simp only [RC] at hv
        obtain ⟨r, hr, rfl⟩ := hv
        obtain ⟨r', hr', hbr, hrb, _, hnI⟩ := hs.blk b _ hb
        rw [hr] at hr'
        cases hr'
        simp only [RB] at hrb
        obtain ⟨es, clk, l, t1, hl, t2, t3⟩ := hrb
        refine ⟨g1, [r], ⟨by simp [hr], fun x hx => by rw [List.mem_singleton] at hx; subst hx; exact ⟨_, hb, rfl⟩⟩, fun K hK ho rs vs os2 hR => ?_⟩
        simp only [RR]
        exact ⟨r, es, clk, l, vs, os2, rfl, rfl, t1, hl, t2, RTs.mono (ext_sub hK) _ _ (g3 _ t3), hNo.own hbr, ho r (by simp), hR⟩
    · exact plain h
  · exact plain h

theorem toRs_sound (hNo : NoK w0) (hs : SimH G base w0 ρ I H w) : ∀ {cs : List C} {rs : List R} {os ms : List Nat}, toRs H cs = some (rs, os, ms) → ∀ {vs : List Value}, RCs ρ w.heap I cs vs →
    (∀ b, b ∈ ms → ∃ k, H b = some k) ∧ ∃ os', Owns ρ H os os' ∧ ∀ (K : Nat → Prop), (∀ b, J ρ I ms b → K b) → (∀ o, o ∈ os' → ¬ K o) → RR w.heap K base rs vs os'
  | [], rs, os, ms, h, vs, hv => by
    simp only [toRs, Option.some.injEq, Prod.mk.injEq] at h
    obtain ⟨rfl, rfl, rfl⟩ := h
    simp only [RCs] at hv
    subst hv
    exact ⟨(fun b hb => by cases hb), [], ⟨rfl, fun b hb => by cases hb⟩, fun K _ _ => by simp only [RR]; exact ⟨trivial, trivial⟩⟩
  | c :: cs, rs, os, ms, h, vs, hv => by
    simp only [toRs] at h
    split at h
    · rename_i x o m xs os1 ms1 h1 h2
      simp only [Option.some.injEq, Prod.mk.injEq] at h
      obtain ⟨rfl, rfl, rfl⟩ := h
      simp only [RCs] at hv
      obtain ⟨v, rest, rfl, hv1, hv2⟩ := hv
      obtain ⟨d1, o1, w1, k1⟩ := toR_sound hNo hs h1 hv1
      obtain ⟨d2, o2, w2, k2⟩ := toRs_sound hNo hs h2 hv2
      refine ⟨fun b hb => (List.mem_append.1 hb).elim (d1 b) (d2 b), o1 ++ o2, ⟨by simp [w1.1, w2.1], fun b hb => (List.mem_append.1 hb).elim (w1.2 b) (w2.2 b)⟩, fun K hK ho => ?_⟩
      refine k1 K (fun b hb => hK b ?_) (fun o' ho' => ho o' (List.mem_append.2 (.inl ho'))) _ _ _ (k2 K (fun b hb => hK b ?_) (fun o' ho' => ho o' (List.mem_append.2 (.inr ho'))))
      · rcases hb with hb | ⟨y, hy, hr⟩
        · exact .inl hb
        · exact .inr ⟨y, List.mem_append.2 (.inl hy), hr⟩
      · rcases hb with hb | ⟨y, hy, hr⟩
        · exact .inl hb
        · exact .inr ⟨y, List.mem_append.2 (.inr hy), hr⟩
    · cases h

theorem owns_get {os os' : List Nat} (h : os.map ρ = os'.map some) {i r : Nat} (hr : os'[i]? = some r) : ∃ b, os[i]? = some b ∧ ρ b = some r := by
  have : (os.map ρ)[i]? = (os'.map some)[i]? := by rw [h]
  simp only [List.getElem?_map, hr, Option.map_some] at this
  cases hb : os[i]? with
  | none => simp [hb] at this
  | some b => simp only [hb, Option.map_some, Option.some.injEq] at this; exact ⟨b, rfl, this⟩

theorem retR_sound (hK : NoK w0) (hb : base = w0.w.heap.size) {fn : Func} {s : S} {rs : List R} (h : retR P fn s = some rs) (hs : SimS G base w0 nt ρ I s a w) :
    ∃ outs os K, (results fn a.tmps).run P w = .ok (retV outs) w ∧ (∀ b, w0.I0 b → K b) ∧ (∀ b, K b → w0.I0 b ∨ (base ≤ b ∧ b < w.heap.size)) ∧ RR w.heap K base rs outs os ∧ os.Nodup := by
  unfold retR at h
  split at h
  case h_2 => cases h
  rename_i cs hcs
  split at h
  case h_2 => cases h
  rename_i rs' os ms hto
  split at h
  case isFalse => cases h
  rename_i hn
  cases h
  obtain ⟨hn1, hn2⟩ := hn
  obtain ⟨vs, g1, g2⟩ := resC_sound hs.1 hcs
  obtain ⟨d, os', ho, hk⟩ := toRs_sound hK hs.1.mem hto g2
  refine ⟨vs, os', J ρ I ms, ?_, fun b hb => .inl (hs.1.mem.io.1 b hb), fun b hb => ?_, hk _ (fun _ h => h) (fun o ho' hJ => ?_), ?_⟩
  · unfold results
    rw [Array.mapM_eq_mapM_toList]
    have g1' : (fn.results.toList.mapM fun r => (match r with | .tmp t => pure (a.tmps.getD t undef) | .cell x t => (do loadVar t (← asAddr (a.tmps.getD x undef))) : Sem Value)).run P w = .ok vs w := g1
    simp only [Sem.run_bind, Sem.run_map]
    erw [g1']
    simp only [Result.andThen_ok, Sem.run_pure]
    unfold retV
    rcases vs with _ | ⟨v, _ | ⟨v', vs⟩⟩ <;> simp
  · rcases hb with hb | ⟨y, hy, hr⟩
    · rcases hs.1.mem.io.2 b hb with h1 | h1
      · exact .inl h1
      · exact .inr ⟨hK.own h1, hs.1.mem.ilt b hb⟩
    · obtain ⟨k, hk⟩ := d y hy
      obtain ⟨r, t1, t2, t3, _⟩ := hs.1.mem.blk y k hk
      rw [hr] at t1
      cases t1
      exact .inr ⟨hK.own t2, t3.lt⟩
  · obtain ⟨i, hi⟩ := List.mem_iff_getElem?.1 ho'
    obtain ⟨b, hb1, hb2⟩ := owns_get ho.1 hi
    have hbm : b ∈ os := List.mem_iff_getElem?.2 ⟨i, hb1⟩
    obtain ⟨k, hk1, hk2⟩ := ho.2 b hbm
    obtain ⟨r, t1, t2, t3, t4, t5⟩ := hs.1.mem.blk b k hk1
    rw [hb2] at t1
    cases t1
    rcases hJ with hJ | ⟨y, hy, hr⟩
    · exact t5 hk2 hJ
    · obtain ⟨k', hk'⟩ := d y hy
      have := hs.1.mem.inj b y k k' _ hk1 hk' hb2 hr
      subst this
      have := List.all_eq_true.1 hn2 b hbm
      simp [hy] at this
  · refine List.pairwise_iff_getElem.2 fun i j hi1 hj1 hij he => ?_
    have hi' : os'[i]? = some os'[i] := List.getElem?_eq_getElem hi1
    have hj' : os'[j]? = some os'[i] := by rw [he]; exact List.getElem?_eq_getElem hj1
    obtain ⟨b, hb1, hb2⟩ := owns_get ho.1 hi'
    obtain ⟨b', hb1', hb2'⟩ := owns_get ho.1 hj'
    obtain ⟨k, hk1, _⟩ := ho.2 b (List.mem_iff_getElem?.2 ⟨i, hb1⟩)
    obtain ⟨k', hk1', _⟩ := ho.2 b' (List.mem_iff_getElem?.2 ⟨j, hb1'⟩)
    have := hs.1.mem.inj b b' k k' _ hk1 hk1' hb2 hb2'
    subst this
    have := nodup_get hn1 hb1 hb1'
    omega

theorem initE_look : ∀ (args : List T) (k j : Nat) (c : C), look (initE args k) j = some c → ∃ t, k ≤ j ∧ args[j - k]? = some t ∧ c = .t t
  | [], k, j, c, h => by simp [initE, look] at h
  | x :: r, k, j, c, h => by
    simp only [initE, look] at h
    split at h
    · rename_i hj
      cases h
      subst hj
      exact ⟨x, Nat.le_refl _, by simp, rfl⟩
    · obtain ⟨t, h1, h2, h3⟩ := initE_look r (k + 1) j c h
      refine ⟨t, by omega, ?_, h3⟩
      have : j - k = (j - (k + 1)) + 1 := by omega
      rw [this, List.getElem?_cons_succ]
      exact h2

/-- THE LAW OF THE INTERPRETER. -/
theorem run_sound (hm : P.follows .mixedOrders = true) {intr : FuncId → List T → Option (List R)} (hi : ∀ f args rs, intr f args = some rs → Holds P G f args rs) :
    ∀ (n : Nat) (f : FuncId) (args : List T) (rs : List R), run P G intr n f args = some rs → Holds P G f args rs
  | 0, f, args, rs, h => by simp [run] at h
  | n + 1, f, args, rs, h => by
    simp only [run] at h
    split at h
    · rename_i r hr
      cases h
      exact hi f args _ hr
    · split at h
      case h_2 => cases h
      rename_i fn hfn
      split at h
      case h_2 => cases h
      rename_i c hc
      split at h
      case isFalse => cases h
      rename_i hlen
      intro w I vs hg hlt hargs
      refine calls_of_wp hfn hc ?_
      have hvl := hargs.length
      have hst : SimS G w.heap.size ⟨w, I, fun _ => none⟩ fn.ntmps (fun _ => none) I ⟨initE args 0, []⟩ { tmps := vs.toArray ++ Array.replicate (fn.ntmps - vs.toArray.size) undef, defers := [] } w := by
        refine ⟨⟨⟨BelowX.refl _ _ _, hlt, hg, (fun b k hk => by simp [S.h] at hk), (fun b b' k k' r h1 => by simp [S.h] at h1), (fun b r hr => by cases hr), ⟨fun b hb => hb, fun b hb => .inl hb⟩, fun b r hr => by cases hr⟩, rfl, ?_, fun k c hk => ?_⟩, fun _ _ => rfl⟩
        · simp [hvl]; omega
        · obtain ⟨t, _, h2, rfl⟩ := initE_look args 0 k c hk
          rw [Nat.sub_zero] at h2
          obtain ⟨v, v1, v2⟩ := hargs.get h2
          have hk' := (List.getElem?_eq_some_iff.1 v1).1
          have : (vs.toArray ++ Array.replicate (fn.ntmps - vs.toArray.size) undef).getD k undef = v := by
            simp only [Array.getD_eq_getD_getElem?]
            rw [Array.getElem?_append_left (by simpa using hk')]
            simp [v1]
          simp only [RC]
          rw [this]
          exact v2
      have fin : ∀ s', retR P fn s' = some rs → ∀ ρ' I' a' w', SimS G w.heap.size ⟨w, I, fun _ => none⟩ fn.ntmps ρ' I' s' a' w' →
          a'.defers = [] ∧ ∃ v, (results fn a'.tmps).run P w' = .ok v w' ∧ ∃ outs J os, Ending.returned v = .returned (retV outs) ∧ Below w.heap.size w w' ∧ (∀ b, I b → J b) ∧ (∀ b, J b → I b ∨ (w.heap.size ≤ b ∧ b < w'.heap.size)) ∧
            RR w'.heap J w.heap.size rs outs os ∧ os.Nodup := fun s' hr ρ' I' a' w' hs' => by
        obtain ⟨outs, os, K, k1, k2, k3, k4, k5⟩ := retR_sound (w0 := ⟨w, I, fun _ => none⟩) (fun _ => rfl) rfl hr hs'
        exact ⟨hs'.1.defers, _, k1, outs, K, os, rfl, hs'.1.mem.below.to (fun _ => rfl), k2, k3, k4, k5⟩
      split at h
      · rename_i s' hex
        exact exec_sound (w0 := ⟨w, I, fun _ => none⟩) hm (run_sound hm hi n) ⟨Nat.le_refl w.heap.size, fun _ => rfl⟩ n c _ .normal s' _ _ _ _ _ hex hst fun ρ' I' a' w' hs' => fin s' h ρ' I' a' w' hs'
      · rename_i s' hex
        exact exec_sound (w0 := ⟨w, I, fun _ => none⟩) hm (run_sound hm hi n) ⟨Nat.le_refl w.heap.size, fun _ => rfl⟩ n c _ .ret s' _ _ _ _ _ hex hst fun ρ' I' a' w' hs' => fin s' h ρ' I' a' w' hs'
      · cases h
end
end Go.Va
namespace Go.Va
open Go Go.RowKit

/-- What a tape may say: a Bool that a branch or a guard looks at; what an operation comes to; what a call hands back;
'app': the row that is appended to is of no known length; 'res': what an operation comes to that looks at a row of no known length, or compares. -/
inductive D where
  | b (d : Bool)
  | eff (e : Eff)
  | call (rs : List R)
  | app
  | res (c : C)
  | st (cs : List C)
  | ld (c : C)
  | mk (k : Nat) (cs : List C)
  | ap
  | lk (r : Option Nat)
  | lv (i : Nat) (c : C)
  | up (r : Option Nat)
  | ax (m : Nat) (cs : List C)
  | cp (m : Nat) (cs : List C)
  | axf (m : Nat) (ts : List T)
  | fz (hs : List (Nat × List T))
  | ro (hs : List (Nat × List T))
  | ub
  | wk (t : T)
  | axw (m : Nat) (ts : List T) (t : T)
  | rg (td : List (Value × T))
  | ho (hin : List (Nat × Blk)) (res : C) (hout : List (Nat × Blk))

/-- Where the tape is looked at: the function and the slot. -/
abbrev Tape := List ((Nat × Nat) × D)
def tickB (f : Nat) (k : Option Nat) : Tape → Option Bool × Tape
  | ((g, j), .b d) :: r => match k with
    | some k => if g = f ∧ j = k then (some d, r) else (none, ((g, j), .b d) :: r)
    | none => (none, ((g, j), .b d) :: r)
  | tp => (none, tp)
def tickO (f : Nat) (k : Option Nat) : Tape → Option D × Tape
  | ((g, j), .b d) :: r => (none, ((g, j), .b d) :: r)
  | ((g, j), d) :: r => match k with
    | some k => if g = f ∧ j = k then (some d, r) else (none, ((g, j), d) :: r)
    | none => match d with
      | .st cs => if g = f then (some (.st cs), r) else (none, ((g, j), .st cs) :: r)
      | .up q => if g = f then (some (.up q), r) else (none, ((g, j), .up q) :: r)
      | .cp m cs => if g = f then (some (.cp m cs), r) else (none, ((g, j), .cp m cs) :: r)
      | d => (none, ((g, j), d) :: r)
  | [] => (none, [])
def slotOf : Operand → Option Nat
  | .tmp k => some k
  | _ => none

section
variable (P : Program) (G : Nat → Option (List T))

def nobody : FuncId → List T → Option (List R) := fun _ _ => none

def tsOf : List C → Option (List T)
  | [] => some []
  | .t x :: r => (tsOf r).map (x :: ·)
  | _ => none
def appS (o : Oper) (e : Nat → Option C) (H : Nat → Option Blk) (id : Nat) : Option (Eff × List Prop) :=
  match o.op with
  | .call c => match c.callee with
    | .builtin .append => match evs G e c.args.toList, c.argTypes.toList with
      | some [.t (.sl ts n clip), x], [t1, t2] => if t1 = t2 then
          match P.underlying t1 with
          | some (.slice elem) => match P.info? elem, zeroL P elem with
            | some i, some z => if z.length = i.size then
                match srcL H x with
                | some (src, k, fp) => match tsOf src with
                  | some us => if src.length = k * i.size ∧ 0 < i.size ∧ k ≠ 0 then
                      some (⟨.t (.sl (ts ++ us) (n + k) false), [(id, some (.cells (ts.map .t ++ src) false)), (id, some (.cells (ts.map .t ++ src) true))], fp ++ [id]⟩,
                        [clip = true, roomB (n + k) i.bytes = true, ts.length = n * i.size])
                    else none
                  | none => none
                | none => none
              else none
            | _, _ => none
          | _ => none
        else none
      | _, _ => none
    | _ => none
  | _ => none

/-- What a comparison comes to. -/
def BinIs (P : Program) (op : BinOp) (t : TypeId) (x y : Operand) (v1 v2 v : Value) : Prop := pr P (do eqGuard op t x y v1 v2; binOp op t v1 v2) = some v
def resS (o : Oper) (e : Nat → Option C) (c : C) : Option (List Prop) :=
  match o.op with
  | .indexAddr t x i => match ev G e x, (ev G e i).bind intL with
    | some d, some n => some [indexAddrC P t d n = some ⟨c, [], []⟩]
    | _, _ => none
  | .load ty a => match ev G e a with
    | some (.t (.ptr ts off)) => some [partC P ty (ts.map .t) off = some c]
    | _ => none
  | .slice ty x lo hi mx => match P.underlying ty, ev G e x with
    | some (.slice elem), some (.t (.sl ts n clip)) => match optInt G e lo, optInt G e hi, optInt G e mx with
      | some a, some b, some m => some [sliceC P (fun _ => none) elem (.t (.sl ts n clip)) a b m = some ⟨c, [], []⟩]
      | _, _, _ => none
    | _, _ => none
  | .pick x a b => match ev G e x with
    | some (.t (.lit (.bool t))) => some [(if t then ev G e a else ev G e b) = some c]
    | _ => none
  | .binOp op t x y _ => match c, ev G e x, ev G e y with
    | .t (.lit v), some c1, some c2 => match flatV c1, flatV c2, P.underlying t with
      | some v1, some v2, some d => if flat v ∧ ((eqOp op).isSome && nilFor d y && notNil d c1) = false then some [BinIs P op t x y v1 v2 v] else none
      | _, _, _ => none
    | _, _, _ => none
  | _ => none

/-- The rows of a map. -/
def rowsOf (H : Nat → Option Blk) : C → Option (List Value × List C × List Nat)
  | .t (.mp ks vs) => some (ks, vs.map .t, [])
  | .omp b => match H b with
    | some (.map ks vs _) => some (ks, vs, [b])
    | _ => none
  | _ => none
/-- Stores, loads and rows at places that can't be reckoned. -/
def genS (o : Oper) (e : Nat → Option C) (H : Nat → Option Blk) (id : Nat) : D → Option (Eff × List Prop)
  | .st cs' => match o.op with
    | .store ty a x => match ev G e a, (ev G e x).bind cellsC, P.info? ty with
      | some (.loc b off), some xs, some i => match H b with
        | some (.cells cs false) => if xs.length = i.size ∧ xs.all oneC then some (⟨.tup [], [(b, some (.cells cs' false))], [b]⟩, [off + xs.length ≤ cs.length, splice cs off xs = cs']) else none
        | _ => none
      | _, _, _ => none
    | _ => none
  | .ld c => match o.op with
    | .load ty a => match ev G e a with
      | some (.loc b off) => match H b with
        | some (.cells cs _) => some (⟨c, [], [b]⟩, [partC P ty cs off = some c])
        | _ => none
      | _ => none
    | _ => none
  | .mk k cs => match o.op with
    | .makeSlice ty l c => match P.underlying ty, (ev G e l).bind intL, (ev G e c).bind intL with
      | some (.slice elem), some ln, some cp => match P.info? elem, zeroL P elem with
        | some i, some z => some (⟨.osl id k i.size, [(id, some (.cells cs false))], []⟩, [ln = k ∧ cp = k ∧ roomB k i.bytes = true ∧ z.length = i.size, (List.replicate k z).flatten = cs])
        | _, _ => none
      | _, _, _ => none
    | _ => none
  | .ap => match o.op with
    | .call c => match c.callee with
      | .builtin .append => match evs G e c.args.toList, c.argTypes.toList with
        | some [.osl b n sz, x], [t1, t2] => if t1 = t2 then
            match P.underlying t1 with
            | some (.slice elem) => match P.info? elem, zeroL P elem with
              | some i, some z => if z.length = i.size then
                  match srcL H x, H b with
                  | some (src, k, fp), some (.cells cs false) => if src.length = k * i.size ∧ 0 < i.size ∧ k ≠ 0 ∧ sz = i.size then
                      some (⟨.osl id (n + k) i.size, [(b, none), (id, some (.cells (cs ++ src) false))], b :: fp⟩, [cs.length = n * i.size, roomB (n + k) i.bytes = true])
                    else none
                  | _, _ => none
                else none
              | _, _ => none
            | _ => none
          else none
        | some [.t (.sl ts n clip), x], [t1, t2] => if t1 = t2 then
            match P.underlying t1 with
            | some (.slice elem) => match P.info? elem, zeroL P elem with
              | some i, some z => if z.length = i.size then
                  match srcL H x with
                  | some (src, k, fp) => if src.length = k * i.size ∧ 0 < i.size ∧ k ≠ 0 then
                      some (⟨.osl id (n + k) i.size, [(id, some (.cells (ts.map .t ++ src) false))], fp⟩, [clip = true, roomB (n + k) i.bytes = true, ts.length = n * i.size])
                    else none
                  | none => none
                else none
              | _, _ => none
            | _ => none
          else none
        | _, _ => none
      | _ => none
    | _ => none
  | .lk r => match o.op with
    | .lookup t m k ok => match P.underlying t, ev G e m, ev G e k with
      | some (.map key elem), some mm, some (.t (.lit kv)) => match P.underlying key with
        | some kd => if simpleKey kd then
            match rowsOf H mm with
            | some (ks, vs, fp) => match r with
              | some i => match vs[i]? with
                | some x => some (⟨if ok then .tup [x, goB true] else x, [], fp⟩, [findK kd kv ks = some (some i)])
                | none => none
              | none => match zeroC P elem with
                | some z => some (⟨if ok then .tup [z, goB false] else z, [], fp⟩, [findK kd kv ks = some none])
                | none => none
            | none => none
          else none
        | none => none
      | _, _, _ => none
    | _ => none
  | .lv i x => match o.op with
    | .lookup t m k ok => match P.underlying t, ev G e m, ev G e k with
      | some (.map key elem), some mm, some (.t (.lit kv)) => match P.underlying key with
        | some kd => if simpleKey kd then
            match rowsOf H mm with
            | some (ks, vs, fp) => some (⟨if ok then .tup [x, goB true] else x, [], fp⟩, [findK kd kv ks = some (some i), vs[i]? = some x])
            | none => none
          else none
        | none => none
      | _, _, _ => none
    | _ => none
  | .up r => match o.op with
    | .mapUpdate t m k x => match P.underlying t, ev G e m, ev G e k, ev G e x with
      | some (.map key elem), some (.omp b), some (.t (.lit kv)), some c => match P.underlying key, H b with
        | some kd, some (.map ks vs false) => if simpleKey kd then
            match r with
            | some i => some (⟨.tup [], [(b, some (.map ks (vs.set i c) false))], [b]⟩, [findK kd kv ks = some (some i), vs.length = ks.length])
            | none => some (⟨.tup [], [(b, some (.map (ks ++ [kv]) (vs ++ [c]) false))], [b]⟩, [findK kd kv ks = some none])
          else none
        | _, _ => none
      | _, _, _, _ => none
    | _ => none
  | .ax m cs' => match o.op with
    | .call c => match c.callee with
      | .builtin .append => match evs G e c.args.toList, c.argTypes.toList with
        | some [d, x], [t1, t2] => if t1 = t2 then
            match P.underlying t1 with
            | some (.slice elem) => match P.info? elem, zeroL P elem with
              | some i, some z => if z.length = i.size ∧ 0 < i.size then
                  match srcL H x with
                  | some (src, k, fp) => match d with
                    | .osl b n sz => match H b with
                      | some (.cells cs false) => if sz = i.size then some (⟨.osl id m i.size, [(b, none), (id, some (.cells cs' false))], b :: fp⟩, [src.length = k * i.size, k ≠ 0, n + k = m, cs.length = n * i.size, roomB (n + k) i.bytes = true, cs ++ src = cs']) else none
                      | _ => none
                    | .t (.sl ts n clip) => some (⟨.osl id m i.size, [(id, some (.cells cs' false))], fp⟩, [src.length = k * i.size, k ≠ 0, n + k = m, clip = true, ts.length = n * i.size, roomB (n + k) i.bytes = true, ts.map .t ++ src = cs'])
                    | .t (.lit (.slice none 0 0)) => some (⟨.osl id m i.size, [(id, some (.cells cs' false))], fp⟩, [src.length = k * i.size, k ≠ 0, k = m, roomB k i.bytes = true, src = cs'])
                    | _ => none
                  | none => none
                else none
              | _, _ => none
            | _ => none
          else none
        | _, _ => none
      | _ => none
    | _ => none
  | .cp m cs' => match o.op with
    | .call c => match c.callee with
      | .builtin .copy => match evs G e c.args.toList with
        | some [d, x] => match (c.argTypes[0]?).bind P.underlying, srcL H x with
          | some (.slice elem), some (src, k, fp) => match P.info? elem, d with
            | some i, .osl b n sz => match H b with
              | some (.cells cs false) => if sz = i.size then some (⟨goI m, [(b, some (.cells cs' false))], b :: fp⟩, [src.length = k * sz, n * sz ≤ cs.length, min k n = m, splice cs 0 (src.take (m * sz)) = cs']) else none
              | _ => none
            | _, _ => none
          | _, _ => none
        | _ => none
      | _ => none
    | _ => none
  | .rg td => match o.op with
    | .range t x => match P.underlying t, ev G e x with
      | some (.map _ _), some (.t (.mp ks vs)) => some (⟨.loc id 0, [(id, some (.iter td none))], []⟩, [rangeT (.mp ks vs) = some td])
      | _, _ => none
    | _ => none
  | _ => none

/-! Rows of unknown length: a tape tells their trees. -/
def hintOf : List (Nat × List T) → Nat → Option (List T)
  | [], _ => none
  | (c, ts) :: r, b => if c = b then some ts else hintOf r b
def frzHL (f : C → Option (T × List Nat × List Prop)) : List C → Option (List T × List Nat × List Prop)
  | [] => some ([], [], [])
  | c :: r => match f c, frzHL f r with
    | some (t, m, p), some (ts, ms, ps) => some (t :: ts, m ++ ms, p ++ ps)
    | _, _ => none
def frzH (hs : List (Nat × List T)) (H : Nat → Option Blk) : Nat → C → Option (T × List Nat × List Prop)
  | 0, _ => none
  | _ + 1, .t x => some (x, [], [])
  | n + 1, .loc b off => match H b with
    | some (.cells cs _) => match hintOf hs b, n with
      | some ts, _ + 1 => some (.ptr ts off, [b], [cs = ts.map .t])
      | _, _ => (frzHL (frzH hs H n) cs).map fun (ts, ms, ps) => (.ptr ts off, b :: ms, ps)
    | _ => none
  | n + 1, .osl b k sz => match H b with
    | some (.cells cs _) => match hintOf hs b, n with
      | some ts, _ + 1 => some (.sl ts k false, [b], [cs = ts.map .t, ts.length = k * sz])
      | _, _ => if k * sz ≤ cs.length then (frzHL (frzH hs H n) (cs.take (k * sz))).map fun (ts, ms, ps) => (.sl ts k false, b :: ms, ps) else none
    | _ => none
  | n + 1, .omp b => match H b with
    | some (.map ks vs _) => match hintOf hs b, n with
      | some ts, _ + 1 => some (.mp ks ts, [b], [vs = ts.map .t])
      | _, _ => (frzHL (frzH hs H n) vs).map fun (ts, ms, ps) => (.mp ks ts, b :: ms, ps)
    | _ => none
  | n + 1, .agg cs => (frzHL (frzH hs H n) cs).map fun (ts, ms, ps) => (.agg ts, ms, ps)
  | n + 1, .fn f a c => match frzHL (frzH hs H n) a, frzHL (frzH hs H n) c with
    | some (ts, ms, ps), some (us, ns, qs) => some (.fn f ts us, ms ++ ns, ps ++ qs)
    | _, _ => none
  | _ + 1, _ => none
def fzEff (hs : List (Nat × List T)) (H : Nat → Option Blk) (eff0 : Eff) : Option (Eff × List Prop) :=
  match frzH hs (updH H eff0.sets) deep eff0.val with
  | some (t, ms, ps) => some (⟨.t t, eff0.sets ++ marks (updH H eff0.sets) ms, eff0.fp ++ ms⟩, ps)
  | none => none
def toRH (hs : List (Nat × List T)) (H : Nat → Option Blk) (c : C) : Option (R × List Nat × List Nat × List Prop) :=
  match c with
  | .osl b n sz => match H b, hintOf hs b with
    | some (.cells cs false), some ts => some (.osl ts n sz, [b], [], [cs = ts.map .t, ts.length = n * sz])
    | _, _ => (toR H (.osl b n sz)).map fun (r, o, m) => (r, o, m, [])
  | c => (toR H c).map fun (r, o, m) => (r, o, m, [])
def toRsH (hs : List (Nat × List T)) (H : Nat → Option Blk) : List C → Option (List R × List Nat × List Nat × List Prop)
  | [] => some ([], [], [], [])
  | c :: r => match toRH hs H c, toRsH hs H r with
    | some (x, o, m, p), some (xs, os, ms, ps) => some (x :: xs, o ++ os, m ++ ms, p ++ ps)
    | _, _ => none
def retX (f : Nat) (fn : Func) (s : S) (tp : Tape) : Option (List R × Tape × List Prop) :=
  match tp with
  | ((g, _), .ro hs) :: r => if g = f then
      match resC P s.e s.h fn.results.toList with
      | some cs => match toRsH hs s.h cs with
        | some (rs, os, ms, ps) => if os.Nodup ∧ os.all (fun o => !ms.contains o) then some (rs, r, ps) else none
        | none => none
      | none => none
    else (retR P fn s).map fun rs => (rs, tp, [])
  | _ => (retR P fn s).map fun rs => (rs, tp, [])

def hoProps (H : Nat → Option Blk) (ids : List Nat) : List (Nat × Blk) → List Prop
  | [] => []
  | (b, k) :: r => (H b = some k) :: InB ids k :: hoProps H ids r
def opX (rn : FuncId → List T → Tape → Option (List R × Tape × List Prop)) (fid : Nat) (o : Oper) (e : Nat → Option C) (H : Nat → Option Blk) (id : Nat) (tp : Tape) : Option (Eff × Tape × List Prop) :=
  match tickO fid o.dst tp with
  | (some (.eff eff), tp') => some (eff, tp', [opc P G nobody o e H id = some eff])
  | (some (.b _), _) => none
  | (some (.st cs), tp') => genS P G o e H id (.st cs) |>.map fun (eff, ps) => (eff, tp', ps)
  | (some (.ld c), tp') => genS P G o e H id (.ld c) |>.map fun (eff, ps) => (eff, tp', ps)
  | (some (.mk k cs), tp') => genS P G o e H id (.mk k cs) |>.map fun (eff, ps) => (eff, tp', ps)
  | (some (.lk r), tp') => genS P G o e H id (.lk r) |>.map fun (eff, ps) => (eff, tp', ps)
  | (some (.lv i x), tp') => genS P G o e H id (.lv i x) |>.map fun (eff, ps) => (eff, tp', ps)
  | (some (.up r), tp') => genS P G o e H id (.up r) |>.map fun (eff, ps) => (eff, tp', ps)
  | (some .ap, tp') => genS P G o e H id .ap |>.map fun (eff, ps) => (eff, tp', ps)
  | (some (.ax m cs), tp') => genS P G o e H id (.ax m cs) |>.map fun (eff, ps) => (eff, tp', ps)
  | (some (.cp m cs), tp') => genS P G o e H id (.cp m cs) |>.map fun (eff, ps) => (eff, tp', ps)
  | (some (.rg td), tp') => genS P G o e H id (.rg td) |>.map fun (eff, ps) => (eff, tp', ps)
  | (some (.ro _), _) => none
  | (some (.ho hin res hout), tp') => match callee P G o e with
    | some (f, cs) => if bodied P f && inCs (hin.map (·.1)) cs && hin.all (fun x => !isFz x.2) && (hout.map (·.1)).Nodup && hout.map (·.1) == hin.map (·.1) then
        some (⟨res, hout.map fun x => (x.1, some x.2), hin.map (·.1)⟩, tp', HoldsO P G f cs hin res hout :: hoProps H (hin.map (·.1)) hin)
      else none
    | none => none
  | (some .ub, tp') => match opc P G nobody o e H id with
    | some ⟨.t (.box t), sets, fp⟩ => some (⟨.t t, sets, fp⟩, tp', [])
    | _ => none
  | (some (.wk t'), tp') => match opc P G nobody o e H id with
    | some ⟨.t t, sets, fp⟩ => some (⟨.t t', sets, fp⟩, tp', [TLe t t'])
    | _ => none
  | (some (.axw m ts t'), tp') => match genS P G o e H id (.ax m (ts.map .t)) with
    | some (eff0, ps) => match fzEff [(id, ts)] H eff0 with
      | some (⟨.t t, sets, fp⟩, qs) => some (⟨.t t', sets, fp⟩, tp', TLe t t' :: (ps ++ qs))
      | _ => none
    | none => none
  | (some (.axf m ts), tp') => match genS P G o e H id (.ax m (ts.map .t)) with
    | some (eff0, ps) => match fzEff [(id, ts)] H eff0 with
      | some (eff, qs) => some (eff, tp', ps ++ qs)
      | none => none
    | none => none
  | (some (.fz hs), tp') => match opc P G nobody o e H id with
    | some eff0 => match fzEff hs H eff0 with
      | some (eff, qs) => some (eff, tp', qs)
      | none => none
    | none => none
  | (some .app, tp') => match appS P G o e H id with
    | some (eff, ps) => some (eff, tp', ps)
    | none => none
  | (some (.res c), tp') => match resS P G o e c with
    | some ps => some (⟨c, [], []⟩, tp', ps)
    | none => none
  | (some (.call rs), tp') => match callee P G o e with
    | some (f, cs) => match frzL (frz H deep) cs with
      | some (ts, _) => match opc P G (fun _ _ => some rs) o e H id with
        | some eff => some (eff, tp', [Holds P G f ts rs])
        | none => none
      | none => none
    | none => none
  | (none, tp') => match callee P G o e with
    | some (f, cs) => match frzL (frz H deep) cs with
      | some (ts, _) => match rn f ts tp' with
        | some (rs, tp'', ps) => match opc P G (fun _ _ => some rs) o e H id with
          | some eff => some (eff, tp'', ps)
          | none => none
        | none => none
      | none => none
    | none => match opc P G nobody o e H id with
      | some eff => some (eff, tp', [])
      | none => none

def wantX (fid : Nat) (ops : Array Oper) (e : Nat → Option C) (o : Oper) (tp : Tape) : Option (Bool × Tape × List Prop) :=
  match o.guard with
  | none => some (true, tp, [])
  | some (j, want) => match yieldC ops e j with
    | none => none
    | some none => some (false, tp, [])
    | some (some b) => match tickB fid ((ops[j]?).bind (·.dst)) tp with
      | (some d, tp') => some (d == want, tp', [b = d])
      | (none, tp') => some (b == want, tp', [])

def stepX (rn : FuncId → List T → Tape → Option (List R × Tape × List Prop)) (fid nt : Nat) (ops : Array Oper) (o : Oper) (id : Nat) (s : S) (tp : Tape) : Option (S × List Nat × List Nat × Tape × List Prop) :=
  match wantX fid ops s.e o tp with
  | some (true, tp1, ps) => match opX P G rn fid o s.e s.h id tp1 with
    | some (eff, tp2, qs) => match putE nt s.env o.dst eff.val with
      | some env => some (⟨env, setH s.heap eff.sets⟩, eff.sets.map (·.1), eff.fp, tp2, ps ++ qs)
      | none => none
    | none => none
  | some (false, tp1, ps) => match putE nt s.env o.dst (.tup []) with
    | some env => some (⟨env, s.heap⟩, [], [], tp1, ps)
    | none => none
  | none => none
def runOX (rn : FuncId → List T → Tape → Option (List R × Tape × List Prop)) (fid nt : Nat) (ops : Array Oper) : List Oper → Nat → S → Tape → Option (S × List (List Nat × List Nat) × Tape × List Prop)
  | [], _, s, tp => some (s, [], tp, [])
  | o :: r, id, s, tp => match stepX P G rn fid nt ops o id s tp with
    | some (s', a, b, tp', ps) => match runOX rn fid nt ops r (id + nalloc o) s' tp' with
      | some (s'', l, tp'', qs) => some (s'', (a, b) :: l, tp'', ps ++ qs)
      | none => none
    | none => none
def regionX (rn : FuncId → List T → Tape → Option (List R × Tape × List Prop)) (fid nt : Nat) (ops : Array Oper) (draw : Bool) (s : S) (tp : Tape) : Option (S × Tape × List Prop) :=
  match runOX P G rn fid nt ops ops.toList s.heap.length ⟨s.env, s.heap ++ List.replicate (total ops.toList) none⟩ tp with
  | some (s', l, tp', ps) => if !draw || (drawOk ops && freeAll (masks ops.toList []) l 0) then some (s', tp', ps) else none
  | none => none

def iterX (f : S → Tape → Option (Ex × S × Tape × List Prop)) (ks : List Nat) : Nat → S → Tape → Option (Ex × S × Tape × List Prop)
  | 0, _, _ => none
  | m + 1, s, tp => match f s tp with
    | some (.normal, s', tp', ps) => match tidy ks s' with
      | some s'' => match iterX f ks m s'' tp' with
        | some (x, s3, tp'', qs) => some (x, s3, tp'', ps ++ qs)
        | none => none
      | none => none
    | r => r

def execX (rn : FuncId → List T → Tape → Option (List R × Tape × List Prop)) (fid nt n : Nat) : Code → S → Tape → Option (Ex × S × Tape × List Prop)
  | .skip, s, tp => some (.normal, s, tp, [])
  | .label _, s, tp => some (.normal, s, tp, [])
  | .region _ ops draw, s, tp => match regionX P G rn fid nt ops draw s tp with
    | some (s', tp', ps) => some (.normal, s', tp', ps)
    | none => none
  | .seq a b, s, tp => match execX rn fid nt n a s tp with
    | some (.normal, s', tp', ps) => match execX rn fid nt n b s' tp' with
      | some (x, s'', tp'', qs) => some (x, s'', tp'', ps ++ qs)
      | none => none
    | r => r
  | .cond c x y, s, tp => match ev G s.e c with
    | some (.t (.lit (.bool b))) => match tickB fid (slotOf c) tp with
      | (some d, tp') => match (if d then execX rn fid nt n x s tp' else execX rn fid nt n y s tp') with
        | some (z, s', tp'', ps) => some (z, s', tp'', (b = d) :: ps)
        | none => none
      | (none, tp') => if b then execX rn fid nt n x s tp' else execX rn fid nt n y s tp'
    | _ => none
  | .block id b, s, tp => match execX rn fid nt n b s tp with
    | some (.exit j, s', tp', ps) => if j = id then some (.normal, s', tp', ps) else some (.exit j, s', tp', ps)
    | r => r
  | .loop b, s, tp => iterX (execX rn fid nt n b) (s.env.map (·.1)) n s tp
  | .exit id, s, tp => some (.exit id, s, tp, [])
  | .ret, s, tp => some (.ret, s, tp, [])
  | _, _, _ => none

def runX (intr : FuncId → List T → Option (List R)) : Nat → FuncId → List T → Tape → Option (List R × Tape × List Prop)
  | 0, _, _, _ => none
  | n + 1, f, args, tp => match intr f args with
    | some r => some (r, tp, [])
    | none => match P.funcs[f]? with
      | some fn => match fn.body with
        | some c => if args.length ≤ fn.ntmps then
            match execX P G (runX intr n) f fn.ntmps n c ⟨initE args 0, []⟩ tp with
            | some (.normal, s, tp', ps) => match retX P f fn s tp' with
              | some (rs, tp'', qs) => some (rs, tp'', ps ++ qs)
              | none => none
            | some (.ret, s, tp', ps) => match retX P f fn s tp' with
              | some (rs, tp'', qs) => some (rs, tp'', ps ++ qs)
              | none => none
            | _ => none
          else none
        | none => none
      | none => none
end

def All (ps : List Prop) : Prop := ∀ p, p ∈ ps → p
theorem All.append {ps qs : List Prop} (h : All (ps ++ qs)) : All ps ∧ All qs := ⟨fun p hp => h p (List.mem_append.2 (.inl hp)), fun p hp => h p (List.mem_append.2 (.inr hp))⟩
theorem All.nil : All [] := fun p hp => by cases hp
theorem All.cons {p : Prop} {ps : List Prop} (h : p) (hs : All ps) : All (p :: ps) := fun q hq => (List.mem_cons.1 hq).elim (fun e => e ▸ h) (hs q)

section
variable {P : Program} {G : Nat → Option (List T)}

/-- Of body 'c', what a state comes to. -/
def ExecS (P : Program) (G : Nat → Option (List T)) (nt : Nat) (c : Code) (s : S) (x : Ex) (s' : S) : Prop :=
  ∀ (base : Nat) (w0 : Base) (ρ : Nat → Option Nat) (I : Nat → Prop) (a : Act) (w : World) (Q : Exit → Act → World → Prop), BaseOk base w0 → SimS G base w0 nt ρ I s a w →
    (∀ ρ' I' a' w', SimS G base w0 nt ρ' I' s' a' w' → Q (exitOf x) a' w') → c.wp P Q a w

def SndX (P : Program) (G : Nat → Option (List T)) (rn : FuncId → List T → Tape → Option (List R × Tape × List Prop)) : Prop := ∀ f ts tp rs tp' ps, rn f ts tp = some (rs, tp', ps) → All ps → Holds P G f ts rs

open Classical in
noncomputable def rcOf (f : FuncId) (ts : List T) (rs : List R) : FuncId → List T → Option (List R) := fun f' ts' => if f' = f ∧ ts' = ts then some rs else none
theorem rcOf_snd {f : FuncId} {ts : List T} {rs : List R} (h : Holds P G f ts rs) : Snd P G (rcOf f ts rs) := fun f' args rs' hr => by
  unfold rcOf at hr
  split at hr
  · rename_i he
    obtain ⟨rfl, rfl⟩ := he
    cases hr
    exact h
  · cases hr
theorem snd_none : Snd P G nobody := fun f args rs h => by simp [nobody] at h

theorem callF_rcOf {H : Nat → Option Blk} {id : Nat} {f : FuncId} {cs : List C} {ts : List T} {ms : List Nat} {rs : List R} (hf : frzL (frz H deep) cs = some (ts, ms)) : callF P (rcOf f ts rs) H id f cs = callF P (fun _ _ => some rs) H id f cs := by
  unfold callF
  simp [hf, rcOf]
theorem callV_rcOf {H : Nat → Option Blk} {id : Nat} {fn : Fn} {all capt : List C} {f : FuncId} {cs : List C} {ts : List T} {ms : List Nat} {rs : List R} (hc : calleeV P fn all capt = some (f, cs)) (hf : frzL (frz H deep) cs = some (ts, ms)) :
    callV P (rcOf f ts rs) H id fn all capt = callV P (fun _ _ => some rs) H id fn all capt := by
  unfold calleeV at hc
  unfold callV
  cases fn with
  | func g =>
    simp only [Option.some.injEq, Prod.mk.injEq] at hc
    obtain ⟨rfl, rfl⟩ := hc
    exact callF_rcOf hf
  | method name =>
    simp only at hc ⊢
    split at hc
    · rename_i t x rest
      simp only at hc ⊢
      split at hc
      · rename_i g hg
        simp only [Option.some.injEq, Prod.mk.injEq] at hc
        obtain ⟨rfl, rfl⟩ := hc
        rw [hg]
        exact callF_rcOf hf
      · cases hc
    · cases hc
  | _ => simp at hc
theorem opc_rcOf {o : Oper} {e : Nat → Option C} {H : Nat → Option Blk} {id : Nat} {f : FuncId} {cs : List C} {ts : List T} {ms : List Nat} {rs : List R} (hc : callee P G o e = some (f, cs)) (hf : frzL (frz H deep) cs = some (ts, ms)) :
    opc P G (rcOf f ts rs) o e H id = opc P G (fun _ _ => some rs) o e H id := by
  unfold callee at hc
  unfold opc
  split at hc
  · rename_i c ho
    simp only [ho]
    split at hc
    · cases hc
    · rename_i r name hcal
      simp only [hcal]
      split at hc
      · rename_i rv args h1 h2
        simp only [h1, h2]
        exact callV_rcOf hc hf
      · cases hc
    · rename_i g hcal
      simp only [hcal]
      split at hc
      · rename_i fn first capt args h1 h2
        simp only [h1, h2]
        exact callV_rcOf hc hf
      · rename_i fn first capt args h1 h2
        simp only [h1, h2]
        exact callV_rcOf hc hf
      · cases hc
  · cases hc

theorem frzL_t {H : Nat → Option Blk} {m : Nat} : ∀ (l : List T), frzL (frz H (m + 1)) (l.map .t) = some (l, [])
  | [] => rfl
  | x :: r => by
    simp only [List.map_cons, frzL, frzL_t r]
    simp [frz]
theorem tsOf_map : ∀ {l : List C} {us : List T}, tsOf l = some us → l = us.map .t
  | [], us, h => by simp only [tsOf, Option.some.injEq] at h; subst h; rfl
  | .t x :: r, us, h => by
    simp only [tsOf] at h
    cases hr : tsOf r with
    | none => simp [hr] at h
    | some l => simp only [hr, Option.map_some, Option.some.injEq] at h; subst h; rw [tsOf_map hr]; rfl
  | .bad :: r, us, h | .loc _ _ :: r, us, h | .osl _ _ _ :: r, us, h | .omp _ :: r, us, h | .agg _ :: r, us, h | .tup _ :: r, us, h | .fn _ _ _ :: r, us, h => by simp [tsOf] at h

theorem appS_sound {o : Oper} {e : Nat → Option C} {H : Nat → Option Blk} {id : Nat} {eff : Eff} {ps : List Prop} (h : appS P G o e H id = some (eff, ps)) (hp : All ps) : ∃ eff0, opc P G nobody o e H id = some eff0 ∧ Frozen H eff0 eff := by
  unfold appS at h
  split at h
  case h_2 => cases h
  rename_i c ho
  split at h
  case h_2 => cases h
  rename_i hcal
  split at h
  case h_2 => cases h
  rename_i ts n clip x t1 t2 hargs hats
  split at h
  case isFalse => cases h
  rename_i ht
  split at h
  case h_2 => cases h
  rename_i elem hu
  split at h
  case h_2 => cases h
  rename_i i z hi hz
  split at h
  case isFalse => cases h
  rename_i hzl
  split at h
  case h_2 => cases h
  rename_i src k fp hsrc
  split at h
  case h_2 => cases h
  rename_i us hus
  split at h
  case isFalse => cases h
  rename_i hk
  simp only [Option.some.injEq, Prod.mk.injEq] at h
  obtain ⟨rfl, rfl⟩ := h
  have h1 : clip = true := hp _ (by simp)
  have h2 : roomB (n + k) i.bytes = true := hp (roomB (n + k) i.bytes = true) (by simp)
  have h3 : ts.length = n * i.size := hp (ts.length = n * i.size) (by simp)
  subst h1
  refine ⟨⟨.osl id (n + k) i.size, [(id, some (.cells (ts.map .t ++ src) false))], fp⟩, ?_, .inr (.inl ⟨.sl (ts ++ us) (n + k) false, [id], _, ?_, fun _ _ _ h => h, ?_⟩)⟩
  · unfold opc
    simp only [ho, hcal, hargs, builtinC, hats, ht, hu, hi, hz, hzl, if_true]
    subst ht
    simp only [hu, hi, hz, hzl, if_true, appendC, hsrc]
    rw [if_pos ⟨hk.1, hk.2.1⟩, if_neg hk.2.2]
    simp [h2, h3]
  · have hsu := tsOf_map hus
    have hlen : ((n + k) * i.size) = (ts.map C.t ++ src).length := by simp [h3, hk.1, Nat.add_mul]
    simp only [frz, deep, updH, if_true]
    rw [if_pos (by omega), List.take_of_length_le (by omega), hsu, ← List.map_append, frzL_t]
    rfl
  · simp only [marks, updH, if_true, markB, List.singleton_append]

theorem pr_bind {α β : Type} {P : Program} : ∀ {s : Sem α} {f : α → Sem β} {a : α}, pr P s = some a → pr P (s >>= f) = pr P (f a)
  | .pure b, f, a, h => by simp only [pr, Option.some.injEq] at h; subst h; rfl
  | .program k, f, a, h => by simp only [pr] at h; show pr P (k P >>= f) = _; exact pr_bind h
  | .mark m k, f, a, h => by simp only [pr] at h; show pr P (k >>= f) = _; exact pr_bind h
  | .choose q k, f, a, h => by
    simp only [pr] at h
    split at h
    · rename_i hq
      show pr P (.choose q fun n => k n >>= f) = _
      simp only [pr, hq, if_true]
      exact pr_bind h
    · cases h
  | .load .., f, a, h => by simp [pr] at h
  | .store .., f, a, h => by simp [pr] at h
  | .new .., f, a, h => by simp [pr] at h
  | .shape .., f, a, h => by simp [pr] at h
  | .freeze .., f, a, h => by simp [pr] at h
  | .frozen .., f, a, h => by simp [pr] at h
  | .getObj .., f, a, h => by simp [pr] at h
  | .setObj .., f, a, h => by simp [pr] at h
  | .sys .., f, a, h => by simp [pr] at h
  | .halt .., f, a, h => by simp [pr] at h

theorem resS_sound {o : Oper} {e : Nat → Option C} {H : Nat → Option Blk} {id : Nat} {c : C} {ps : List Prop} (h : resS P G o e c = some ps) (hp : All ps) : opc P G nobody o e H id = some ⟨c, [], []⟩ := by
  unfold resS at h
  split at h
  · rename_i t x i ho
    split at h
    · rename_i d n h1 h2
      cases h
      unfold opc
      simp only [ho, h1, h2]
      exact hp _ List.mem_cons_self
    · cases h
  · rename_i ty a ho
    split at h
    · rename_i ts off h1
      cases h
      have := hp _ List.mem_cons_self
      unfold opc
      simp only [ho, h1, this, Option.map_some]
    · cases h
  · rename_i ty x lo hi mx ho
    split at h
    · rename_i elem ts n clip h1 h2
      split at h
      · rename_i a b m h3 h4 h5
        cases h
        have := hp _ List.mem_cons_self
        unfold opc
        simp only [ho, h1, h2, h3, h4, h5]
        exact this
      · cases h
    · cases h
  · rename_i x a b ho
    split at h
    · rename_i t h1
      cases h
      have := hp _ List.mem_cons_self
      unfold opc
      simp only [ho, h1]
      cases t
      · simp only [Bool.false_eq_true, if_false] at this ⊢
        rw [this]
        rfl
      · simp only [if_true] at this ⊢
        rw [this]
        rfl
    · cases h
  · rename_i op t x y u ho
    split at h
    · rename_i v c1 c2 h1 h2
      split at h
      · rename_i v1 v2 d h3 h4 h5
        split at h
        · rename_i hf
          cases h
          have hb : BinIs P op t x y v1 v2 v := hp _ List.mem_cons_self
          have hfl : flatOp P G e o = some ⟨.t (.lit v), [], []⟩ := by
            unfold flatOp
            have he : evs G e o.op.operands.toList = some [c1, c2] := by simp [ho, Op.operands, evs, h1, h2]
            rw [he]
            simp only [List.all_cons, h3, h4, Option.isSome_some, List.all_nil, Bool.and_self, if_true]
            have hx : ((ev G e x).bind flatV).getD undef = v1 := by simp [h1, h3]
            have hy : ((ev G e y).bind flatV).getD undef = v2 := by simp [h2, h4]
            have : pr P (execOp (fun x => ((ev G e x).bind flatV).getD undef) o) = some (.value v) := by
              unfold execOp
              simp only [ho, hx, hy]
              rw [pr_bind hb]
              rfl
            rw [this]
            have hov : ofV v = some (.t (.lit v)) := by
              have := hf.1
              cases v <;> simp_all [ofV, flat]
            simp [hov]
          unfold opc
          simp only [ho, h5, h1]
          split
          · rename_i r d' c' e1 e2 e3
            cases e2
            cases e3
            have := hf.2
            simp only [e1, Option.isSome_some, Bool.true_and] at this
            rw [this]
            exact hfl
          · exact hfl
        · cases h
      · cases h
    · cases h
  · cases h

theorem genS_sound {o : Oper} {e : Nat → Option C} {H : Nat → Option Blk} {id : Nat} {d : D} {eff : Eff} {ps : List Prop} (h : genS P G o e H id d = some (eff, ps)) (hp : All ps) : opc P G nobody o e H id = some eff := by
  unfold genS at h
  split at h
  · split at h
    · rename_i ty a x ho
      split at h
      · rename_i b off xs i ha hx hi
        split at h
        · rename_i cs hH
          split at h
          · rename_i hc
            simp only [Option.some.injEq, Prod.mk.injEq] at h
            obtain ⟨rfl, rfl⟩ := h
            have h1 := hp _ List.mem_cons_self
            have h2 := hp _ (List.mem_cons_of_mem _ List.mem_cons_self)
            unfold opc
            simp only [ho, ha, hx, hi, hH]
            rw [if_pos ⟨hc.1, h1, hc.2⟩, h2]
          · cases h
        · cases h
      · cases h
    · cases h
  · split at h
    · rename_i ty a ho
      split at h
      · rename_i b off ha
        split at h
        · rename_i cs fz hH
          simp only [Option.some.injEq, Prod.mk.injEq] at h
          obtain ⟨rfl, rfl⟩ := h
          have h1 := hp _ List.mem_cons_self
          unfold opc
          simp only [ho, ha, hH, h1, Option.map_some]
        · cases h
      · cases h
    · cases h
  · split at h
    · rename_i ty l c ho
      split at h
      · rename_i elem ln cp hu hl hc
        split at h
        · rename_i i z hi hz
          simp only [Option.some.injEq, Prod.mk.injEq] at h
          obtain ⟨rfl, rfl⟩ := h
          obtain ⟨rfl, rfl, h3, h4⟩ := hp _ List.mem_cons_self
          have h2 := hp _ (List.mem_cons_of_mem _ List.mem_cons_self)
          unfold opc
          simp only [ho, hu, hl, hc, hi, hz]
          rw [if_pos ⟨by omega, by omega, by simpa using h3, h4⟩]
          simp [h2]
        · cases h
      · cases h
    · cases h
  · split at h
    case h_2 => cases h
    rename_i c ho
    split at h
    case h_2 => cases h
    rename_i hcal
    split at h
    case h_3 => cases h
    · rename_i b n sz x t1 t2 hargs hats
      split at h
      case isFalse => cases h
      rename_i ht
      split at h
      case h_2 => cases h
      rename_i elem hu
      split at h
      case h_2 => cases h
      rename_i i z hi hz
      split at h
      case isFalse => cases h
      rename_i hzl
      split at h
      case h_2 => cases h
      rename_i src k fp cs hsrc hH
      split at h
      case isFalse => cases h
      rename_i hk
      simp only [Option.some.injEq, Prod.mk.injEq] at h
      obtain ⟨rfl, rfl⟩ := h
      have h1 : cs.length = n * i.size := hp _ (by simp)
      have h2 : roomB (n + k) i.bytes = true := hp (roomB (n + k) i.bytes = true) (by simp)
      subst ht
      unfold opc
      simp only [ho, hcal, hargs, builtinC, hats, hu, hi, hz, hzl, if_true, appendC, hsrc]
      rw [if_pos ⟨hk.1, hk.2.1⟩, if_neg hk.2.2.1]
      simp only [hH]
      rw [if_pos ⟨hk.2.2.2, h1, h2⟩]
    · rename_i ts n clip x t1 t2 hargs hats
      split at h
      case isFalse => cases h
      rename_i ht
      split at h
      case h_2 => cases h
      rename_i elem hu
      split at h
      case h_2 => cases h
      rename_i i z hi hz
      split at h
      case isFalse => cases h
      rename_i hzl
      split at h
      case h_2 => cases h
      rename_i src k fp hsrc
      split at h
      case isFalse => cases h
      rename_i hk
      simp only [Option.some.injEq, Prod.mk.injEq] at h
      obtain ⟨rfl, rfl⟩ := h
      have h1 : clip = true := hp _ (by simp)
      have h2 : roomB (n + k) i.bytes = true := hp (roomB (n + k) i.bytes = true) (by simp)
      have h3 : ts.length = n * i.size := hp (ts.length = n * i.size) (by simp)
      subst h1
      subst ht
      unfold opc
      simp only [ho, hcal, hargs, builtinC, hats, hu, hi, hz, hzl, if_true, appendC, hsrc]
      rw [if_pos ⟨hk.1, hk.2.1⟩, if_neg hk.2.2]
      simp [h2, h3]
  · rename_i r
    split at h
    case h_2 => cases h
    rename_i t m k ok ho
    split at h
    case h_2 => cases h
    rename_i key elem mm kv hu hm hk
    split at h
    case h_2 => cases h
    rename_i kd hkd
    split at h
    case isFalse => cases h
    rename_i hsk
    split at h
    case h_2 => cases h
    rename_i ks vs fp hrow
    have hfound : ∀ q : Option Nat, findK kd kv ks = some q → (∀ i, q = some i → ∃ x, vs[i]? = some x) → foundC H kd kv mm = some (q.bind fun i => vs[i]?, fp) := by
      intro q hq hx
      unfold rowsOf at hrow
      split at hrow
      · rename_i ks0 vs0
        simp only [Option.some.injEq, Prod.mk.injEq] at hrow
        obtain ⟨rfl, rfl, rfl⟩ := hrow
        unfold foundC
        cases q with
        | none => simp [hq]
        | some i =>
          obtain ⟨x, hx⟩ := hx i rfl
          rw [List.getElem?_map] at hx
          cases h0 : vs0[i]? with
          | none => simp [h0] at hx
          | some y => simp [hq, h0]
      · rename_i b
        split at hrow
        · rename_i ks0 vs0 fz hH
          simp only [Option.some.injEq, Prod.mk.injEq] at hrow
          obtain ⟨rfl, rfl, rfl⟩ := hrow
          unfold foundC
          cases q with
          | none => simp [hH, hq]
          | some i =>
            obtain ⟨x, hx⟩ := hx i rfl
            simp [hH, hq, hx]
        · cases hrow
      · cases hrow
    unfold opc
    simp only [ho, hm, hk, lookupC, hu, hkd, hsk, if_true]
    split at h
    · rename_i i
      split at h
      · rename_i x hx
        simp only [Option.some.injEq, Prod.mk.injEq] at h
        obtain ⟨rfl, rfl⟩ := h
        rw [hfound (some i) (hp _ List.mem_cons_self) (fun i' hi' => by cases hi'; exact ⟨x, hx⟩)]
        simp [hx]
      · cases h
    · split at h
      · rename_i z hz
        simp only [Option.some.injEq, Prod.mk.injEq] at h
        obtain ⟨rfl, rfl⟩ := h
        rw [hfound none (hp _ List.mem_cons_self) (fun i' hi' => by cases hi')]
        simp [hz]
      · cases h
  · rename_i i x
    split at h
    case h_2 => cases h
    rename_i t m k ok ho
    split at h
    case h_2 => cases h
    rename_i key elem mm kv hu hm hk
    split at h
    case h_2 => cases h
    rename_i kd hkd
    split at h
    case isFalse => cases h
    rename_i hsk
    split at h
    case h_2 => cases h
    rename_i ks vs fp hrow
    simp only [Option.some.injEq, Prod.mk.injEq] at h
    obtain ⟨rfl, rfl⟩ := h
    have h1 : findK kd kv ks = some (some i) := hp _ (by simp)
    have h2 : vs[i]? = some x := hp (vs[i]? = some x) (by simp)
    have hfound : foundC H kd kv mm = some (some x, fp) := by
      unfold rowsOf at hrow
      split at hrow
      · rename_i ks0 vs0
        simp only [Option.some.injEq, Prod.mk.injEq] at hrow
        obtain ⟨rfl, rfl, rfl⟩ := hrow
        unfold foundC
        rw [List.getElem?_map] at h2
        cases h0 : vs0[i]? with
        | none => simp [h0] at h2
        | some y =>
          simp only [h0, Option.map_some, Option.some.injEq] at h2
          simp [h1, h0, h2]
      · rename_i b
        split at hrow
        · rename_i ks0 vs0 fz hH
          simp only [Option.some.injEq, Prod.mk.injEq] at hrow
          obtain ⟨rfl, rfl, rfl⟩ := hrow
          unfold foundC
          simp [hH, h1, h2]
        · cases hrow
      · cases hrow
    unfold opc
    simp only [ho, hm, hk, lookupC, hu, hkd, hsk, if_true, hfound]
  · rename_i r
    split at h
    case h_2 => cases h
    rename_i t m k x ho
    split at h
    case h_2 => cases h
    rename_i key elem b kv c hu hm hk hx
    split at h
    case h_2 => cases h
    rename_i kd ks vs hkd hH
    split at h
    case isFalse => cases h
    rename_i hsk
    unfold opc
    simp only [ho, hm, hk, hx, updateC, hu, hkd, hsk, if_true, hH]
    split at h
    · rename_i i
      simp only [Option.some.injEq, Prod.mk.injEq] at h
      obtain ⟨rfl, rfl⟩ := h
      have h1 : findK kd kv ks = some (some i) := hp _ (by simp)
      have h2 : vs.length = ks.length := hp (vs.length = ks.length) (by simp)
      simp [h1, h2]
    · simp only [Option.some.injEq, Prod.mk.injEq] at h
      obtain ⟨rfl, rfl⟩ := h
      have h1 : findK kd kv ks = some none := hp _ (by simp)
      simp [h1]
  · rename_i m cs'
    split at h
    case h_2 => cases h
    rename_i c ho
    split at h
    case h_2 => cases h
    rename_i hcal
    split at h
    case h_2 => cases h
    rename_i d x t1 t2 hargs hats
    split at h
    case isFalse => cases h
    rename_i ht
    split at h
    case h_2 => cases h
    rename_i elem hu
    split at h
    case h_2 => cases h
    rename_i i z hi hz
    split at h
    case isFalse => cases h
    rename_i hzl
    split at h
    case h_2 => cases h
    rename_i src k fp hsrc
    subst ht
    split at h
    case h_4 => cases h
    · rename_i b n sz
      split at h
      case h_2 => cases h
      rename_i cs hH
      split at h
      case isFalse => cases h
      rename_i hsz
      simp only [Option.some.injEq, Prod.mk.injEq] at h
      obtain ⟨rfl, rfl⟩ := h
      have h1 : src.length = k * i.size := hp _ (by simp)
      have h2 : k ≠ 0 := hp (k ≠ 0) (by simp)
      have h3 : n + k = m := hp (n + k = m) (by simp)
      have h4 : cs.length = n * i.size := hp (cs.length = n * i.size) (by simp)
      have h5 : roomB (n + k) i.bytes = true := hp (roomB (n + k) i.bytes = true) (by simp)
      have h6 : cs ++ src = cs' := hp (cs ++ src = cs') (by simp)
      subst h3; subst h6
      unfold opc
      simp only [ho, hcal, hargs, builtinC, hats, hu, hi, hz, hzl.1, if_true, appendC, hsrc]
      rw [if_pos ⟨h1, hzl.2⟩, if_neg h2]
      simp only [hH]
      rw [if_pos ⟨hsz, h4, h5⟩]
    · rename_i ts n clip
      simp only [Option.some.injEq, Prod.mk.injEq] at h
      obtain ⟨rfl, rfl⟩ := h
      have h1 : src.length = k * i.size := hp _ (by simp)
      have h2 : k ≠ 0 := hp (k ≠ 0) (by simp)
      have h3 : n + k = m := hp (n + k = m) (by simp)
      have h0 : clip = true := hp (clip = true) (by simp)
      have h4 : ts.length = n * i.size := hp (ts.length = n * i.size) (by simp)
      have h5 : roomB (n + k) i.bytes = true := hp (roomB (n + k) i.bytes = true) (by simp)
      have h6 : ts.map .t ++ src = cs' := hp (ts.map .t ++ src = cs') (by simp)
      subst h0; subst h3; subst h6
      unfold opc
      simp only [ho, hcal, hargs, builtinC, hats, hu, hi, hz, hzl.1, if_true, appendC, hsrc]
      rw [if_pos ⟨h1, hzl.2⟩, if_neg h2]
      simp [h4, h5]
    · simp only [Option.some.injEq, Prod.mk.injEq] at h
      obtain ⟨rfl, rfl⟩ := h
      have h1 : src.length = k * i.size := hp _ (by simp)
      have h2 : k ≠ 0 := hp (k ≠ 0) (by simp)
      have h3 : k = m := hp (k = m) (by simp)
      have h5 : roomB k i.bytes = true := hp (roomB k i.bytes = true) (by simp)
      have h6 : src = cs' := hp (src = cs') (by simp)
      subst h3; subst h6
      unfold opc
      simp only [ho, hcal, hargs, builtinC, hats, hu, hi, hz, hzl.1, if_true, appendC, hsrc]
      rw [if_pos ⟨h1, hzl.2⟩, if_neg h2]
      simp [h5]
  · rename_i m cs'
    split at h
    case h_2 => cases h
    rename_i c ho
    split at h
    case h_2 => cases h
    rename_i hcal
    split at h
    case h_2 => cases h
    rename_i d x hargs
    split at h
    case h_2 => cases h
    rename_i elem src k fp hu hsrc
    split at h
    case h_2 => cases h
    rename_i i b n sz hi
    split at h
    case h_2 => cases h
    rename_i cs hH
    split at h
    case isFalse => cases h
    rename_i hsz
    simp only [Option.some.injEq, Prod.mk.injEq] at h
    obtain ⟨rfl, rfl⟩ := h
    have h1 : src.length = k * sz := hp _ (by simp)
    have h2 : n * sz ≤ cs.length := hp (n * sz ≤ cs.length) (by simp)
    have h3 : min k n = m := hp (min k n = m) (by simp)
    have h4 : splice cs 0 (src.take (m * sz)) = cs' := hp (splice cs 0 (src.take (m * sz)) = cs') (by simp)
    subst h3; subst h4
    unfold opc
    simp only [ho, hcal, hargs, builtinC, hu, hsrc, hi, hH]
    rw [if_pos ⟨hsz, h1, h2⟩]
  · rename_i td
    split at h
    case h_2 => cases h
    rename_i t x ho
    split at h
    case h_2 => cases h
    rename_i ks vs hu hx
    simp only [Option.some.injEq, Prod.mk.injEq] at h
    obtain ⟨rfl, rfl⟩ := h
    have h1 : rangeT (.mp ks vs) = some td := hp _ (by simp)
    unfold opc
    simp only [ho, hx, rangeC, hu]
    simp only [deep, frz, h1, marks, List.nil_append]
  · cases h

theorem frzHL_sound {f : C → Option (T × List Nat × List Prop)} {g : C → Option (T × List Nat)} (hfg : ∀ c t ms ps, f c = some (t, ms, ps) → All ps → g c = some (t, ms)) : ∀ (cs : List C) (ts : List T) (ms : List Nat) (ps : List Prop), frzHL f cs = some (ts, ms, ps) → All ps → frzL g cs = some (ts, ms)
  | [], ts, ms, ps, h, hp => by simp only [frzHL, Option.some.injEq, Prod.mk.injEq] at h; obtain ⟨rfl, rfl, _⟩ := h; rfl
  | c :: r, ts, ms, ps, h, hp => by
    simp only [frzHL] at h
    split at h
    · rename_i t m p us ns qs h1 h2
      simp only [Option.some.injEq, Prod.mk.injEq] at h
      obtain ⟨rfl, rfl, rfl⟩ := h
      simp only [frzL, hfg _ _ _ _ h1 hp.append.1, frzHL_sound hfg r _ _ _ h2 hp.append.2]
    · cases h
theorem frzH_sound {hs : List (Nat × List T)} {H : Nat → Option Blk} : ∀ (n : Nat) (c : C) (t : T) (ms : List Nat) (ps : List Prop), frzH hs H n c = some (t, ms, ps) → All ps → frz H n c = some (t, ms)
  | 0, c, t, ms, ps, h, hp => by simp [frzH] at h
  | n + 1, c, t, ms, ps, h, hp => by
    have ih := fun c t ms ps => frzH_sound (hs := hs) (H := H) n c t ms ps
    cases c with
    | t x =>
      simp only [frzH, Option.some.injEq, Prod.mk.injEq] at h
      obtain ⟨rfl, rfl, _⟩ := h
      simp [frz]
    | loc b off =>
      simp only [frzH] at h
      simp only [frz]
      split at h
      case h_2 => cases h
      rename_i cs fz hH
      simp only [hH]
      split at h
      · rename_i ts m _
        simp only [Option.some.injEq, Prod.mk.injEq] at h
        obtain ⟨rfl, rfl, rfl⟩ := h
        have h1 : cs = ts.map .t := hp _ (by simp)
        subst h1
        rw [frzL_t]
        rfl
      · obtain ⟨⟨ts, ms', ps'⟩, h1, h2⟩ := Option.map_eq_some_iff.1 h
        simp only [Prod.mk.injEq] at h2
        obtain ⟨rfl, rfl, rfl⟩ := h2
        rw [frzHL_sound ih _ _ _ _ h1 hp]
        rfl
    | osl b k sz =>
      simp only [frzH] at h
      simp only [frz]
      split at h
      case h_2 => cases h
      rename_i cs fz hH
      simp only [hH]
      split at h
      · rename_i ts m _
        simp only [Option.some.injEq, Prod.mk.injEq] at h
        obtain ⟨rfl, rfl, rfl⟩ := h
        have h1 : cs = ts.map .t := hp _ (by simp)
        have h2 : ts.length = k * sz := hp (ts.length = k * sz) (by simp)
        subst h1
        rw [if_pos (by rw [List.length_map]; omega), List.take_of_length_le (by rw [List.length_map]; omega), frzL_t]
        rfl
      · split at h
        case isFalse => cases h
        rename_i hle
        obtain ⟨⟨ts, ms', ps'⟩, h1, h2⟩ := Option.map_eq_some_iff.1 h
        simp only [Prod.mk.injEq] at h2
        obtain ⟨rfl, rfl, rfl⟩ := h2
        rw [if_pos hle, frzHL_sound ih _ _ _ _ h1 hp]
        rfl
    | omp b =>
      simp only [frzH] at h
      simp only [frz]
      split at h
      case h_2 => cases h
      rename_i ks vs fz hH
      simp only [hH]
      split at h
      · rename_i ts m _
        simp only [Option.some.injEq, Prod.mk.injEq] at h
        obtain ⟨rfl, rfl, rfl⟩ := h
        have h1 : vs = ts.map .t := hp _ (by simp)
        subst h1
        rw [frzL_t]
        rfl
      · obtain ⟨⟨ts, ms', ps'⟩, h1, h2⟩ := Option.map_eq_some_iff.1 h
        simp only [Prod.mk.injEq] at h2
        obtain ⟨rfl, rfl, rfl⟩ := h2
        rw [frzHL_sound ih _ _ _ _ h1 hp]
        rfl
    | agg cs =>
      simp only [frzH] at h
      simp only [frz]
      obtain ⟨⟨ts, ms', ps'⟩, h1, h2⟩ := Option.map_eq_some_iff.1 h
      simp only [Prod.mk.injEq] at h2
      obtain ⟨rfl, rfl, rfl⟩ := h2
      rw [frzHL_sound ih _ _ _ _ h1 hp]
      rfl
    | fn f a b =>
      simp only [frzH] at h
      simp only [frz]
      split at h
      case h_2 => cases h
      rename_i ts ms' ps' us ns qs h1 h2
      simp only [Option.some.injEq, Prod.mk.injEq] at h
      obtain ⟨rfl, rfl, rfl⟩ := h
      rw [frzHL_sound ih _ _ _ _ h1 hp.append.1, frzHL_sound ih _ _ _ _ h2 hp.append.2]
    | bad => simp [frzH] at h
    | tup cs => simp [frzH] at h
theorem fzEff_sound {hs : List (Nat × List T)} {H : Nat → Option Blk} {eff0 eff : Eff} {ps : List Prop} (h : fzEff hs H eff0 = some (eff, ps)) (hp : All ps) : ∃ t ms, eff.val = .t t ∧ frz (updH H eff0.sets) deep eff0.val = some (t, ms) ∧ eff = ⟨.t t, eff0.sets ++ marks (updH H eff0.sets) ms, eff0.fp ++ ms⟩ := by
  unfold fzEff at h
  split at h
  · rename_i t ms qs h1
    simp only [Option.some.injEq, Prod.mk.injEq] at h
    obtain ⟨rfl, rfl⟩ := h
    exact ⟨t, ms, rfl, frzH_sound _ _ _ _ _ h1 hp, rfl⟩
  · cases h
theorem fzEff_frozen {hs : List (Nat × List T)} {H : Nat → Option Blk} {eff0 eff : Eff} {ps : List Prop} (h : fzEff hs H eff0 = some (eff, ps)) (hp : All ps) : Frozen H eff0 eff := by
  obtain ⟨t, ms, _, h1, h2⟩ := fzEff_sound h hp
  exact .inr (.inl ⟨t, ms, t, h1, fun _ _ _ h => h, h2⟩)
theorem toRH_sound {hs : List (Nat × List T)} {H : Nat → Option Blk} {c : C} {r : R} {o m : List Nat} {ps : List Prop} (h : toRH hs H c = some (r, o, m, ps)) (hp : All ps) : toR H c = some (r, o, m) := by
  unfold toRH at h
  split at h
  · rename_i b n sz
    split at h
    · rename_i cs ts h1 h2
      simp only [Option.some.injEq, Prod.mk.injEq] at h
      obtain ⟨rfl, rfl, rfl, rfl⟩ := h
      have e1 : cs = ts.map .t := hp _ (by simp)
      have e2 : ts.length = n * sz := hp (ts.length = n * sz) (by simp)
      subst e1
      simp only [toR, h1]
      rw [if_pos (by rw [List.length_map]; omega), deep, frzL_t]
      rfl
    · obtain ⟨⟨r', o', m'⟩, h1, h2⟩ := Option.map_eq_some_iff.1 h
      simp only [Prod.mk.injEq] at h2
      obtain ⟨rfl, rfl, rfl, _⟩ := h2
      exact h1
  · obtain ⟨⟨r', o', m'⟩, h1, h2⟩ := Option.map_eq_some_iff.1 h
    simp only [Prod.mk.injEq] at h2
    obtain ⟨rfl, rfl, rfl, _⟩ := h2
    exact h1
theorem toRsH_sound {hs : List (Nat × List T)} {H : Nat → Option Blk} : ∀ {cs : List C} {rs : List R} {os ms : List Nat} {ps : List Prop}, toRsH hs H cs = some (rs, os, ms, ps) → All ps → toRs H cs = some (rs, os, ms)
  | [], rs, os, ms, ps, h, hp => by simp only [toRsH, Option.some.injEq, Prod.mk.injEq] at h; obtain ⟨rfl, rfl, rfl, _⟩ := h; rfl
  | c :: r, rs, os, ms, ps, h, hp => by
    simp only [toRsH] at h
    split at h
    · rename_i x o m p xs os' ms' ps' h1 h2
      simp only [Option.some.injEq, Prod.mk.injEq] at h
      obtain ⟨rfl, rfl, rfl, rfl⟩ := h
      simp only [toRs, toRH_sound h1 hp.append.1, toRsH_sound h2 hp.append.2]
    · cases h
theorem retX_sound {f : Nat} {fn : Func} {s : S} {tp tp' : Tape} {rs : List R} {ps : List Prop} (h : retX P f fn s tp = some (rs, tp', ps)) (hp : All ps) : retR P fn s = some rs := by
  unfold retX at h
  split at h
  · rename_i g j hs r
    split at h
    · split at h
      · rename_i cs h1
        split at h
        · rename_i rs' os ms qs h2
          split at h
          · rename_i hc
            simp only [Option.some.injEq, Prod.mk.injEq] at h
            obtain ⟨rfl, rfl, rfl⟩ := h
            simp only [retR, h1, toRsH_sound h2 hp]
            rw [if_pos hc]
          · cases h
        · cases h
      · cases h
    · obtain ⟨rs', h1, h2⟩ := Option.map_eq_some_iff.1 h
      simp only [Prod.mk.injEq] at h2
      obtain ⟨rfl, _⟩ := h2
      exact h1
  · obtain ⟨rs', h1, h2⟩ := Option.map_eq_some_iff.1 h
    simp only [Prod.mk.injEq] at h2
    obtain ⟨rfl, _⟩ := h2
    exact h1

theorem hOf_pair : ∀ {l : List (Nat × Blk)} {b : Nat} {k : Blk}, hOf l b = some k → (b, k) ∈ l
  | [], b, k, h => by simp [hOf] at h
  | (c, q) :: l, b, k, h => by
    simp only [hOf] at h
    split at h
    · rename_i hb
      cases h
      subst hb
      exact List.mem_cons_self
    · exact List.mem_cons_of_mem _ (hOf_pair h)
theorem hoProps_sound (H : Nat → Option Blk) (ids : List Nat) : ∀ (l : List (Nat × Blk)), All (hoProps H ids l) → ∀ b k, hOf l b = some k → H b = some k ∧ InB ids k
  | [], _, b, k, h => by simp [hOf] at h
  | (c, q) :: l, hp, b, k, h => by
    simp only [hOf] at h
    split at h
    · rename_i hb
      cases h
      subst hb
      exact ⟨hp _ (by simp [hoProps]), hp (InB ids q) (by simp [hoProps])⟩
    · exact hoProps_sound H ids l (fun p hp' => hp p (by simp only [hoProps]; exact List.mem_cons_of_mem _ (List.mem_cons_of_mem _ hp'))) b k h

theorem opX_sound {rn : FuncId → List T → Tape → Option (List R × Tape × List Prop)} (hrn : SndX P G rn) {fid : Nat} {o : Oper} {e : Nat → Option C} {H : Nat → Option Blk} {id : Nat} {tp tp' : Tape} {eff : Eff} {ps : List Prop}
    (h : opX P G rn fid o e H id tp = some (eff, tp', ps)) (hp : All ps) : DoesC P G o id e H eff := by
  unfold opX at h
  split at h
  · simp only [Option.some.injEq, Prod.mk.injEq] at h
    obtain ⟨rfl, rfl, rfl⟩ := h
    exact .inl ⟨nobody, _, snd_none, hp _ List.mem_cons_self, .inl rfl⟩
  · cases h
  iterate 10
    · rename_i hgen
      obtain ⟨⟨eff', qs⟩, hg, he⟩ := Option.map_eq_some_iff.1 h
      simp only [Prod.mk.injEq] at he
      obtain ⟨rfl, rfl, rfl⟩ := he
      exact .inl ⟨nobody, _, snd_none, genS_sound hg hp, .inl rfl⟩
  · cases h
  · split at h
    case h_2 => cases h
    rename_i f cs hc
    split at h
    case isFalse => cases h
    rename_i hcond
    simp only [Bool.and_eq_true, beq_iff_eq, decide_eq_true_eq] at hcond
    obtain ⟨⟨⟨⟨c1, c2⟩, c3⟩, c4⟩, c5⟩ := hcond
    simp only [Option.some.injEq, Prod.mk.injEq] at h
    obtain ⟨rfl, rfl, rfl⟩ := h
    refine .inr ⟨f, cs, _, _, _, hc, c1, c2, c4, fun b k hk => ?_, c5, hp _ List.mem_cons_self, rfl⟩
    have hp2 := hoProps_sound _ _ _ (fun p hp' => hp p (List.mem_cons_of_mem _ hp')) b k hk
    refine ⟨hp2.1, ?_, hp2.2⟩
    have := List.all_eq_true.1 c3 (b, k) (hOf_pair hk)
    simpa using this
  · split at h
    · rename_i t sets fp hg
      simp only [Option.some.injEq, Prod.mk.injEq] at h
      obtain ⟨rfl, rfl, rfl⟩ := h
      exact .inl ⟨nobody, _, snd_none, hg, .inr (.inr ⟨.box t, t, rfl, fun _ _ _ hr => by simp only [RT] at hr; exact hr.1, rfl⟩)⟩
    · cases h
  · rename_i t' _ _
    split at h
    · rename_i t sets fp hg
      simp only [Option.some.injEq, Prod.mk.injEq] at h
      obtain ⟨rfl, rfl, rfl⟩ := h
      exact .inl ⟨nobody, _, snd_none, hg, .inr (.inr ⟨t, t', rfl, hp _ (by simp), rfl⟩)⟩
    · cases h
  · split at h
    case h_2 => cases h
    rename_i eff0 qs hg
    split at h
    case h_2 => cases h
    rename_i t sets fp qs' hz
    simp only [Option.some.injEq, Prod.mk.injEq] at h
    obtain ⟨rfl, rfl, rfl⟩ := h
    have hp1 := hp _ List.mem_cons_self
    have hp2 : All (qs ++ qs') := fun p hp' => hp p (List.mem_cons_of_mem _ hp')
    obtain ⟨t1, ms, e1, e2, e3⟩ := fzEff_sound hz hp2.append.2
    simp only [C.t.injEq] at e1
    subst e1
    simp only [Eff.mk.injEq, true_and] at e3
    obtain ⟨rfl, rfl⟩ := e3
    exact .inl ⟨nobody, _, snd_none, genS_sound hg hp2.append.1, .inr (.inl ⟨t, ms, _, e2, hp1, rfl⟩)⟩
  · split at h
    case h_2 => cases h
    rename_i eff0 qs hg
    split at h
    case h_2 => cases h
    rename_i eff' qs' hz
    simp only [Option.some.injEq, Prod.mk.injEq] at h
    obtain ⟨rfl, rfl, rfl⟩ := h
    exact .inl ⟨nobody, _, snd_none, genS_sound hg hp.append.1, fzEff_frozen hz hp.append.2⟩
  · split at h
    case h_2 => cases h
    rename_i eff0 hg
    split at h
    case h_2 => cases h
    rename_i eff' qs' hz
    simp only [Option.some.injEq, Prod.mk.injEq] at h
    obtain ⟨rfl, rfl, rfl⟩ := h
    exact .inl ⟨nobody, _, snd_none, hg, fzEff_frozen hz hp⟩
  · split at h
    · rename_i eff' qs hap
      simp only [Option.some.injEq, Prod.mk.injEq] at h
      obtain ⟨rfl, rfl, rfl⟩ := h
      obtain ⟨eff0, h1, h2⟩ := appS_sound hap hp
      exact .inl ⟨nobody, eff0, snd_none, h1, h2⟩
    · cases h
  · split at h
    · rename_i qs hr
      simp only [Option.some.injEq, Prod.mk.injEq] at h
      obtain ⟨rfl, rfl, rfl⟩ := h
      exact .inl ⟨nobody, _, snd_none, resS_sound hr hp, .inl rfl⟩
    · cases h
  · split at h
    · rename_i f cs hc
      split at h
      · rename_i ts ms hf
        split at h
        · rename_i eff' ho
          simp only [Option.some.injEq, Prod.mk.injEq] at h
          obtain ⟨rfl, rfl, rfl⟩ := h
          exact .inl ⟨rcOf f ts _, _, rcOf_snd (hp _ List.mem_cons_self), by rw [opc_rcOf hc hf]; exact ho, .inl rfl⟩
        · cases h
      · cases h
    · cases h
  · split at h
    · rename_i f cs hc
      split at h
      · rename_i ts ms hf
        split at h
        · rename_i rs tp2 qs hr
          split at h
          · rename_i eff' ho
            simp only [Option.some.injEq, Prod.mk.injEq] at h
            obtain ⟨rfl, rfl, rfl⟩ := h
            exact .inl ⟨rcOf f ts _, _, rcOf_snd (hrn _ _ _ _ _ _ hr hp), by rw [opc_rcOf hc hf]; exact ho, .inl rfl⟩
          · cases h
        · cases h
      · cases h
    · split at h
      · rename_i eff' ho
        simp only [Option.some.injEq, Prod.mk.injEq] at h
        obtain ⟨rfl, rfl, rfl⟩ := h
        exact .inl ⟨nobody, _, snd_none, ho, .inl rfl⟩
      · cases h

theorem wantX_sound {fid : Nat} {ops : Array Oper} {e : Nat → Option C} {o : Oper} {tp tp' : Tape} {b : Bool} {ps : List Prop} (h : wantX fid ops e o tp = some (b, tp', ps)) (hp : All ps) : wantC ops e o = some b := by
  unfold wantX at h
  unfold wantC
  split at h
  · simp only [Option.some.injEq, Prod.mk.injEq] at h
    obtain ⟨rfl, _⟩ := h
    simp [*]
  · rename_i j want hg
    simp only [hg]
    split at h
    · cases h
    · rename_i hy
      simp only [Option.some.injEq, Prod.mk.injEq] at h
      obtain ⟨rfl, _⟩ := h
      simp [hy]
    · rename_i b' hy
      simp only [hy, Option.map_some]
      split at h
      · rename_i d tp2 _
        simp only [Option.some.injEq, Prod.mk.injEq] at h
        obtain ⟨rfl, rfl, rfl⟩ := h
        have hbd : b' = d := hp _ (by simp)
        subst hbd
        cases b' <;> cases want <;> rfl
      · simp only [Option.some.injEq, Prod.mk.injEq] at h
        obtain ⟨rfl, rfl, rfl⟩ := h
        cases b' <;> cases want <;> rfl

theorem stepX_spec {rn : FuncId → List T → Tape → Option (List R × Tape × List Prop)} (hrn : SndX P G rn) {fid nt : Nat} {ops : Array Oper} {o : Oper} {id : Nat} {s s' : S} {x y : List Nat} {tp tp' : Tape} {ps : List Prop}
    (h : stepX P G rn fid nt ops o id s tp = some (s', x, y, tp', ps)) (hp : All ps) :
    ∃ eff, Does P G nt ops o id s.e s.h eff ∧ s'.e = updE s.e o.dst eff.val ∧ s'.h = updH s.h eff.sets ∧ x = eff.sets.map (·.1) ∧ y = eff.fp ∧ s.heap.length ≤ s'.heap.length := by
  unfold stepX at h
  split at h
  · rename_i tp1 qs hw
    split at h
    · rename_i eff tp2 rs hop
      split at h
      · rename_i env hpe
        simp only [Option.some.injEq, Prod.mk.injEq] at h
        obtain ⟨rfl, rfl, rfl, rfl, rfl⟩ := h
        obtain ⟨p1, p2⟩ := hp.append
        obtain ⟨h1, h2⟩ := putE_spec hpe
        exact ⟨eff, ⟨h2, .inl ⟨wantX_sound hw p1, opX_sound hrn hop p2⟩⟩, h1, setH_get _ _, rfl, rfl, setH_length _ _⟩
      · cases h
    · cases h
  · rename_i tp1 qs hw
    split at h
    · rename_i env hpe
      simp only [Option.some.injEq, Prod.mk.injEq] at h
      obtain ⟨rfl, rfl, rfl, rfl, rfl⟩ := h
      obtain ⟨h1, h2⟩ := putE_spec hpe
      exact ⟨⟨.tup [], [], []⟩, ⟨h2, .inr ⟨wantX_sound hw hp, rfl⟩⟩, h1, rfl, rfl, rfl, Nat.le_refl _⟩
    · cases h
  · cases h

theorem runOX_RunR {rn : FuncId → List T → Tape → Option (List R × Tape × List Prop)} (hrn : SndX P G rn) {fid nt : Nat} {ops : Array Oper} : ∀ (l : List Oper) (id : Nat) (s s' : S) (tr : List (List Nat × List Nat)) (tp tp' : Tape) (ps : List Prop),
    runOX P G rn fid nt ops l id s tp = some (s', tr, tp', ps) → All ps → RunR P G nt ops l id s s' tr
  | [], id, s, s', tr, tp, tp', ps, h, hp => by
    simp only [runOX, Option.some.injEq, Prod.mk.injEq] at h
    obtain ⟨rfl, rfl, _⟩ := h
    exact .nil _ _
  | o :: l, id, s, s', tr, tp, tp', ps, h, hp => by
    simp only [runOX] at h
    split at h
    · rename_i s1 x y tp1 qs hst
      split at h
      · rename_i s2 tr' tp2 rs hrun
        simp only [Option.some.injEq, Prod.mk.injEq] at h
        obtain ⟨rfl, rfl, rfl, rfl⟩ := h
        obtain ⟨p1, p2⟩ := hp.append
        obtain ⟨eff, hdo, h1, h2, rfl, rfl, hlen⟩ := stepX_spec hrn hst p1
        exact .cons hdo h1 h2 hlen (runOX_RunR hrn l _ s1 s2 tr' _ _ _ hrun p2)
      · cases h
    · cases h

theorem regionX_RegionR {rn : FuncId → List T → Tape → Option (List R × Tape × List Prop)} (hrn : SndX P G rn) {fid nt : Nat} {ops : Array Oper} {draw : Bool} {s s' : S} {tp tp' : Tape} {ps : List Prop}
    (h : regionX P G rn fid nt ops draw s tp = some (s', tp', ps)) (hp : All ps) : RegionR P G nt ops draw s s' := by
  unfold regionX at h
  split at h
  · rename_i s1 tr tp1 qs hrun
    split at h
    · rename_i hc
      simp only [Option.some.injEq, Prod.mk.injEq] at h
      obtain ⟨rfl, rfl, rfl⟩ := h
      exact ⟨tr, runOX_RunR hrn _ _ _ _ _ _ _ _ hrun hp, hc⟩
    · cases h
  · cases h

/-! ## Bodies: the rules -/
variable {nt : Nat}
theorem ExecS.skip (s : S) : ExecS P G nt .skip s .normal s := fun _ _ _ _ _ _ _ _ hs hq => wp_skip (hq _ _ _ _ hs)
theorem ExecS.label (l : Nat) (s : S) : ExecS P G nt (.label l) s .normal s := fun _ _ _ _ _ _ _ _ hs hq => wp_label (hq _ _ _ _ hs)
theorem ExecS.exit (id : Nat) (s : S) : ExecS P G nt (.exit id) s (.exit id) s := fun _ _ _ _ _ _ _ _ hs hq => wp_exit (hq _ _ _ _ hs)
theorem ExecS.ret (s : S) : ExecS P G nt .ret s .ret s := fun _ _ _ _ _ _ _ _ hs hq => wp_ret (hq _ _ _ _ hs)
theorem ExecS.region (hm : P.follows .mixedOrders = true) {id : Nat} {ops : Array Oper} {draw : Bool} {s s' : S} (h : RegionR P G nt ops draw s s') : ExecS P G nt (.region id ops draw) s .normal s' :=
  fun _ _ _ _ _ _ _ hb hs hq => region_sound hm hb.1 hs h hq
theorem ExecS.seq {x y : Code} {s s1 s' : S} {z : Ex} (h1 : ExecS P G nt x s .normal s1) (h2 : ExecS P G nt y s1 z s') : ExecS P G nt (.seq x y) s z s' :=
  fun base w0 ρ I a w Q hb hs hq => wp_seq (h1 base w0 ρ I a w _ hb hs fun ρ' I' a' w' hs' => h2 base w0 ρ' I' a' w' Q hb hs' hq)
theorem ExecS.seqOut {x y : Code} {s s' : S} {z : Ex} (hz : z ≠ .normal) (h1 : ExecS P G nt x s z s') : ExecS P G nt (.seq x y) s z s' :=
  fun base w0 ρ I a w Q hb hs hq => wp_seq (h1 base w0 ρ I a w _ hb hs fun ρ' I' a' w' hs' => by
    have := hq ρ' I' a' w' hs'
    cases z with
    | normal => exact (hz rfl).elim
    | exit id => exact this
    | ret => exact this)
theorem ExecS.cond {c : Operand} {x y : Code} {s s' : S} {z : Ex} {b : Bool} (hc : ev G s.e c = some (.t (.lit (.bool b)))) (h : ExecS P G nt (if b then x else y) s z s') : ExecS P G nt (.cond c x y) s z s' :=
  fun base w0 ρ I a w Q hb hs hq => by
    have hv := ev_sound hs.1 hc
    simp only [RC, RT] at hv
    exact wp_cond (t := b) hv.1 (h base w0 ρ I a w Q hb hs hq)
theorem ExecS.blockIn {id : Nat} {b : Code} {s s' : S} (h : ExecS P G nt b s (.exit id) s') : ExecS P G nt (.block id b) s .normal s' :=
  fun base w0 ρ I a w Q hb hs hq => wp_block (h base w0 ρ I a w _ hb hs fun ρ' I' a' w' hs' => by
    show (if id = id then Q .normal a' w' else Q (.exit id) a' w')
    rw [if_pos rfl]
    exact hq ρ' I' a' w' hs')
theorem ExecS.block {id : Nat} {b : Code} {s s' : S} {z : Ex} (hz : z ≠ .exit id) (h : ExecS P G nt b s z s') : ExecS P G nt (.block id b) s z s' :=
  fun base w0 ρ I a w Q hb hs hq => wp_block (h base w0 ρ I a w _ hb hs fun ρ' I' a' w' hs' => by
    have := hq ρ' I' a' w' hs'
    cases z with
    | normal => exact this
    | exit j =>
      show (if j = id then Q .normal a' w' else Q (.exit j) a' w')
      rw [if_neg fun e => hz (by rw [e])]
      exact this
    | ret => exact this)

/-- Rounds of a body, numbered anew behind each. -/
inductive Rounds (P : Program) (G : Nat → Option (List T)) (nt : Nat) (b : Code) (ks : List Nat) : S → Ex → S → Prop
  | out {s s' : S} {z : Ex} (hz : z ≠ .normal) (h : ExecS P G nt b s z s') : Rounds P G nt b ks s z s'
  | round {s s1 s2 s' : S} {z : Ex} (h : ExecS P G nt b s .normal s1) (ht : tidy ks s1 = some s2) (hr : Rounds P G nt b ks s2 z s') : Rounds P G nt b ks s z s'
theorem Rounds.count {b : Code} {ks : List Nat} {s s' : S} {z : Ex} (h : Rounds P G nt b ks s z s') : ∃ n, ∀ (base : Nat) (w0 : Base) (ρ : Nat → Option Nat) (I : Nat → Prop) (a : Act) (w : World) (Q : Exit → Act → World → Prop), BaseOk base w0 → SimS G base w0 nt ρ I s a w →
    (∀ ρ' I' a' w', SimS G base w0 nt ρ' I' s' a' w' → Q (exitOf z) a' w') → Code.rounds P b Q n a w := by
  induction h with
  | @out s s' z hz h =>
    refine ⟨1, fun base w0 ρ I a w Q hb hs hq => ?_⟩
    rw [rounds_succ]
    refine h base w0 ρ I a w _ hb hs fun ρ' I' a' w' hs' => ?_
    have := hq ρ' I' a' w' hs'
    cases z with
    | normal => exact (hz rfl).elim
    | exit id => exact this
    | ret => exact this
  | @round s s1 s2 s' z h ht hr ih =>
    obtain ⟨n, hn⟩ := ih
    refine ⟨n + 1, fun base w0 ρ I a w Q hb hs hq => ?_⟩
    rw [rounds_succ]
    refine h base w0 ρ I a w _ hb hs fun ρ' I' a' w' hs' => ?_
    obtain ⟨ρ'', hs''⟩ := tidy_sound hb.2 hs' ht
    exact hn base w0 ρ'' I' a' w' Q hb hs'' hq
theorem Rounds.loop {b : Code} {ks : List Nat} {s s' : S} {z : Ex} (h : Rounds P G nt b ks s z s') : ExecS P G nt (.loop b) s z s' := by
  obtain ⟨n, hn⟩ := h.count
  exact fun base w0 ρ I a w Q hb hs hq => wp_loop_rounds n (hn base w0 ρ I a w Q hb hs hq)

/-! ## What the tape leads to -/
theorem iterX_sound {f : S → Tape → Option (Ex × S × Tape × List Prop)} {c : Code} {ks : List Nat} (hf : ∀ s tp x s' tp' ps, f s tp = some (x, s', tp', ps) → All ps → ExecS P G nt c s x s') :
    ∀ (m : Nat) (s : S) (tp : Tape) (x : Ex) (s' : S) (tp' : Tape) (ps : List Prop), iterX f ks m s tp = some (x, s', tp', ps) → All ps → Rounds P G nt c ks s x s'
  | 0, s, tp, x, s', tp', ps, h, hp => by simp [iterX] at h
  | m + 1, s, tp, x, s', tp', ps, h, hp => by
    simp only [iterX] at h
    split at h
    · rename_i s1 tp1 qs h1
      split at h
      · rename_i s2 h2
        split at h
        · rename_i y s3 tp2 rs h3
          simp only [Option.some.injEq, Prod.mk.injEq] at h
          obtain ⟨rfl, rfl, rfl, rfl⟩ := h
          obtain ⟨p1, p2⟩ := hp.append
          exact .round (hf _ _ _ _ _ _ h1 p1) h2 (iterX_sound hf m s2 _ _ _ _ _ h3 p2)
        · cases h
      · cases h
    · rename_i hne
      refine .out ?_ (hf _ _ _ _ _ _ h hp)
      rintro rfl
      exact hne _ _ _ h

theorem execX_sound (hm : P.follows .mixedOrders = true) {rn : FuncId → List T → Tape → Option (List R × Tape × List Prop)} (hrn : SndX P G rn) (fid n : Nat) :
    ∀ (c : Code) (s : S) (tp : Tape) (x : Ex) (s' : S) (tp' : Tape) (ps : List Prop), execX P G rn fid nt n c s tp = some (x, s', tp', ps) → All ps → ExecS P G nt c s x s' := by
  intro c
  induction c with
  | skip =>
    intro s tp x s' tp' ps h hp
    simp only [execX, Option.some.injEq, Prod.mk.injEq] at h
    obtain ⟨rfl, rfl, _⟩ := h
    exact .skip _
  | label l =>
    intro s tp x s' tp' ps h hp
    simp only [execX, Option.some.injEq, Prod.mk.injEq] at h
    obtain ⟨rfl, rfl, _⟩ := h
    exact .label _ _
  | region id ops draw =>
    intro s tp x s' tp' ps h hp
    simp only [execX] at h
    split at h
    · rename_i s1 tp1 qs hr
      simp only [Option.some.injEq, Prod.mk.injEq] at h
      obtain ⟨rfl, rfl, rfl, rfl⟩ := h
      exact .region hm (regionX_RegionR hrn hr hp)
    · cases h
  | seq x y ihx ihy =>
    intro s tp z s' tp' ps h hp
    simp only [execX] at h
    split at h
    · rename_i s1 tp1 qs h1
      split at h
      · rename_i z' s2 tp2 rs h2
        simp only [Option.some.injEq, Prod.mk.injEq] at h
        obtain ⟨rfl, rfl, rfl, rfl⟩ := h
        obtain ⟨p1, p2⟩ := hp.append
        exact .seq (ihx _ _ _ _ _ _ h1 p1) (ihy _ _ _ _ _ _ h2 p2)
      · cases h
    · rename_i hne
      refine .seqOut ?_ (ihx _ _ _ _ _ _ h hp)
      rintro rfl
      exact hne _ _ _ h
  | cond c x y ihx ihy =>
    intro s tp z s' tp' ps h hp
    simp only [execX] at h
    split at h
    · rename_i b hc
      split at h
      · rename_i d tp1 _
        split at h
        · rename_i z' s2 tp2 qs h2
          simp only [Option.some.injEq, Prod.mk.injEq] at h
          obtain ⟨rfl, rfl, rfl, rfl⟩ := h
          have hbd : b = d := hp _ List.mem_cons_self
          have hp' : All qs := fun p hq => hp p (List.mem_cons_of_mem _ hq)
          subst hbd
          refine .cond hc ?_
          cases b with
          | true => exact ihx _ _ _ _ _ _ h2 hp'
          | false => exact ihy _ _ _ _ _ _ h2 hp'
        · cases h
      · refine .cond hc ?_
        cases b with
        | true => exact ihx _ _ _ _ _ _ h hp
        | false => exact ihy _ _ _ _ _ _ h hp
    · cases h
  | block id b ih =>
    intro s tp z s' tp' ps h hp
    simp only [execX] at h
    split at h
    · rename_i j s1 tp1 qs h1
      split at h <;> cases h
      · rename_i hj
        subst hj
        exact .blockIn (ih _ _ _ _ _ _ h1 hp)
      · rename_i hj
        exact .block (fun e => by cases e; exact hj rfl) (ih _ _ _ _ _ _ h1 hp)
    · rename_i hne
      refine .block ?_ (ih _ _ _ _ _ _ h hp)
      rintro rfl
      exact hne _ _ _ _ h
  | loop b ih =>
    intro s tp z s' tp' ps h hp
    simp only [execX] at h
    exact (iterX_sound (fun s tp x s' tp' ps h hp => ih s tp x s' tp' ps h hp) n s tp z s' tp' ps h hp).loop
  | exit id =>
    intro s tp x s' tp' ps h hp
    simp only [execX, Option.some.injEq, Prod.mk.injEq] at h
    obtain ⟨rfl, rfl, _⟩ := h
    exact .exit _ _
  | ret =>
    intro s tp x s' tp' ps h hp
    simp only [execX, Option.some.injEq, Prod.mk.injEq] at h
    obtain ⟨rfl, rfl, _⟩ := h
    exact .ret _
  | _ => intro s tp x s' tp' ps h; simp only [execX] at h; cases h

/-- A call, by its body. -/
theorem holds_of_ExecS {f : FuncId} {fn : Func} {c : Code} {args : List T} {x : Ex} {s' : S} {rs : List R} (hfn : P.funcs[f]? = some fn) (hc : fn.body = some c) (hlen : args.length ≤ fn.ntmps) (h : ExecS P G fn.ntmps c ⟨initE args 0, []⟩ x s')
    (hx : x = .normal ∨ x = .ret) (hr : retR P fn s' = some rs) : Holds P G f args rs := by
  intro w I vs hg hlt hargs
  refine calls_of_wp hfn hc ?_
  have hvl := hargs.length
  have hst : SimS G w.heap.size ⟨w, I, fun _ => none⟩ fn.ntmps (fun _ => none) I ⟨initE args 0, []⟩ { tmps := vs.toArray ++ Array.replicate (fn.ntmps - vs.toArray.size) undef, defers := [] } w := by
    refine ⟨⟨⟨BelowX.refl _ _ _, hlt, hg, (fun b k hk => by simp [S.h] at hk), (fun b b' k k' r h1 => by simp [S.h] at h1), (fun b r hr => by cases hr), ⟨fun b hb => hb, fun b hb => .inl hb⟩, fun b r hr => by cases hr⟩, rfl, ?_, fun k c hk => ?_⟩, fun _ _ => rfl⟩
    · simp [hvl]; omega
    · obtain ⟨t, _, h2, rfl⟩ := initE_look args 0 k c hk
      rw [Nat.sub_zero] at h2
      obtain ⟨v, v1, v2⟩ := hargs.get h2
      have hk' := (List.getElem?_eq_some_iff.1 v1).1
      have : (vs.toArray ++ Array.replicate (fn.ntmps - vs.toArray.size) undef).getD k undef = v := by
        simp only [Array.getD_eq_getD_getElem?]
        rw [Array.getElem?_append_left (by simpa using hk')]
        simp [v1]
      simp only [RC]
      rw [this]
      exact v2
  refine h w.heap.size ⟨w, I, fun _ => none⟩ _ _ _ _ _ ⟨Nat.le_refl _, fun _ => rfl⟩ hst fun ρ' I' a' w' hs' => ?_
  have fin : a'.defers = [] ∧ ∃ v, (results fn a'.tmps).run P w' = .ok v w' ∧ ∃ outs J os, Ending.returned v = .returned (retV outs) ∧ Below w.heap.size w w' ∧ (∀ b, I b → J b) ∧ (∀ b, J b → I b ∨ (w.heap.size ≤ b ∧ b < w'.heap.size)) ∧
      RR w'.heap J w.heap.size rs outs os ∧ os.Nodup := by
    obtain ⟨outs, os, K, k1, k2, k3, k4, k5⟩ := retR_sound (w0 := ⟨w, I, fun _ => none⟩) (fun _ => rfl) rfl hr hs'
    exact ⟨hs'.1.defers, _, k1, outs, K, os, rfl, hs'.1.mem.below.to (fun _ => rfl), k2, k3, k4, k5⟩
  rcases hx with rfl | rfl
  · exact fin
  · exact fin

theorem runX_sound (hm : P.follows .mixedOrders = true) {intr : FuncId → List T → Option (List R)} (hi : Snd P G intr) :
    ∀ (n : Nat), SndX P G (runX P G intr n)
  | 0, f, ts, tp, rs, tp', ps, h, hp => by simp [runX] at h
  | n + 1, f, ts, tp, rs, tp', ps, h, hp => by
    simp only [runX] at h
    split at h
    · rename_i r hr
      simp only [Option.some.injEq, Prod.mk.injEq] at h
      obtain ⟨rfl, _⟩ := h
      exact hi f ts _ hr
    · split at h
      case h_2 => cases h
      rename_i fn hfn
      split at h
      case h_2 => cases h
      rename_i c hc
      split at h
      case isFalse => cases h
      rename_i hlen
      split at h
      · rename_i s1 tp1 qs hex
        split at h
        · rename_i rs' tp2 qs2 hret
          simp only [Option.some.injEq, Prod.mk.injEq] at h
          obtain ⟨rfl, rfl, rfl⟩ := h
          exact holds_of_ExecS hfn hc hlen (execX_sound hm (runX_sound hm hi n) f n _ _ _ _ _ _ _ hex hp.append.1) (.inl rfl) (retX_sound hret hp.append.2)
        · cases h
      · rename_i s1 tp1 qs hex
        split at h
        · rename_i rs' tp2 qs2 hret
          simp only [Option.some.injEq, Prod.mk.injEq] at h
          obtain ⟨rfl, rfl, rfl⟩ := h
          exact holds_of_ExecS hfn hc hlen (execX_sound hm (runX_sound hm hi n) f n _ _ _ _ _ _ _ hex hp.append.1) (.inr rfl) (retX_sound hret hp.append.2)
        · cases h
      · cases h

/-! ## A body in pieces -/
theorem ExecS.tidy {c : Code} {s s1 s' : S} {x : Ex} {ks : List Nat} (ht : Va.tidy ks s = some s1) (h : ExecS P G nt c s1 x s') : ExecS P G nt c s x s' :=
  fun base w0 ρ I a w Q hb hs hq => by
    obtain ⟨ρ', hs'⟩ := tidy_sound hb.2 hs ht
    exact h base w0 ρ' I a w Q hb hs' hq

/-- The first pieces of a row of pieces, and what is left of it. -/
def preX (P : Program) (G : Nat → Option (List T)) (rn : FuncId → List T → Tape → Option (List R × Tape × List Prop)) (fid nt n : Nat) : Nat → Code → S → Tape → Option (S × Tape × List Prop)
  | 0, _, s, tp => some (s, tp, [])
  | k + 1, .seq a b, s, tp => match execX P G rn fid nt n a s tp with
    | some (.normal, s', tp', ps) => match preX P G rn fid nt n k b s' tp' with
      | some (s'', tp'', qs) => some (s'', tp'', ps ++ qs)
      | none => none
    | _ => none
  | _, _, _, _ => none
def restC : Nat → Code → Code
  | 0, c => c
  | k + 1, .seq _ b => restC k b
  | _, c => c
theorem preX_sound (hm : P.follows .mixedOrders = true) {rn : FuncId → List T → Tape → Option (List R × Tape × List Prop)} (hrn : SndX P G rn) {fid n : Nat} :
    ∀ {k : Nat} {c : Code} {s s1 s' : S} {z : Ex} {tp tp' : Tape} {ps : List Prop}, preX P G rn fid nt n k c s tp = some (s1, tp', ps) → All ps → ExecS P G nt (restC k c) s1 z s' → ExecS P G nt c s z s'
  | 0, c, s, s1, s', z, tp, tp', ps, h, hp, hr => by
    simp only [preX, Option.some.injEq, Prod.mk.injEq] at h
    obtain ⟨rfl, _⟩ := h
    exact hr
  | k + 1, c, s, s1, s', z, tp, tp', ps, h, hp, hr => by
    cases c with
    | seq a b =>
      simp only [preX] at h
      split at h
      · rename_i s2 tp2 qs h1
        split at h
        · rename_i s3 tp3 rs h2
          simp only [Option.some.injEq, Prod.mk.injEq] at h
          obtain ⟨rfl, rfl, rfl⟩ := h
          obtain ⟨p1, p2⟩ := hp.append
          exact .seq (execX_sound hm hrn fid n _ _ _ _ _ _ _ h1 p1) (preX_sound hm hrn h2 p2 hr)
        · cases h
      · cases h
    | _ => simp [preX] at h
end
end Go.Va
