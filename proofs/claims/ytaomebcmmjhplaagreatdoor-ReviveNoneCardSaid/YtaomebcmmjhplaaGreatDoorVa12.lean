/- A region whose order is the text's own. -/
import Derived.Test.YtaomebcmmjhplaaGreatDoorVa11
namespace Go.Va
open Go Go.RowKit

theorem look_ins (d : Nat) (c : C) : ∀ (e : Env) (j : Nat), look (ins d c e) j = if j = d then some c else look e j
  | [], j => by simp [ins, look]
  | (k, x) :: e, j => by
    simp only [ins]
    split
    · simp [look]
    · split
      · rename_i h1 h2
        subst h2
        simp only [look]
        by_cases hj : j = d <;> simp [hj]
      · rename_i h1 h2
        simp only [look]
        by_cases hj : j = k
        · have : j ≠ d := fun h => h2 (by omega)
          have h3 : k ≠ d := fun h => h2 h.symm
          simp [hj, h3]
        · simp only [hj, if_false]
          exact look_ins d c e j

theorem setAt_get : ∀ (l : List (Option Blk)) (b : Nat) (k : Option Blk) (j : Nat), ((setAt l b k)[j]?).join = if j = b then k else (l[j]?).join
  | [], 0, k, j => by cases j <;> simp [setAt]
  | [], n + 1, k, j => by
    cases j with
    | zero => simp [setAt]
    | succ j => simp only [setAt, List.getElem?_cons_succ, setAt_get [] n k j]; simp
  | x :: l, 0, k, j => by cases j <;> simp [setAt]
  | x :: l, n + 1, k, j => by
    cases j with
    | zero => simp [setAt]
    | succ j => simp only [setAt, List.getElem?_cons_succ, setAt_get l n k j]; simp

theorem setAt_length : ∀ (l : List (Option Blk)) (b : Nat) (k : Option Blk), l.length ≤ (setAt l b k).length
  | [], _, _ => by simp
  | x :: l, 0, k => by simp [setAt]
  | x :: l, n + 1, k => by simp only [setAt, List.length_cons]; have := setAt_length l n k; omega
theorem setH_length : ∀ (sets : List (Nat × Option Blk)) (l : List (Option Blk)), l.length ≤ (setH l sets).length
  | [], _ => Nat.le_refl _
  | (b, k) :: r, l => Nat.le_trans (setAt_length l b k) (setH_length r _)

def heapF (l : List (Option Blk)) : Nat → Option Blk := fun b => (l[b]?).join
theorem S.h_eq (s : S) : s.h = heapF s.heap := rfl
theorem setH_get : ∀ (sets : List (Nat × Option Blk)) (l : List (Option Blk)), heapF (setH l sets) = updH (heapF l) sets
  | [], _ => rfl
  | (b, k) :: r, l => by
    simp only [setH, updH]
    rw [setH_get r]
    congr 1
    funext j
    exact setAt_get l b k j

def updE (e : Nat → Option C) (dst : Option Tmp) (c : C) : Nat → Option C :=
  match dst with
  | none => e
  | some d => fun t => if t = d then some c else e t

theorem putE_spec {nt : Nat} {env env' : Env} {dst : Option Tmp} {c : C} (h : putE nt env dst c = some env') : look env' = updE (look env) dst c ∧ ∀ d, dst = some d → d < nt := by
  cases dst with
  | none => simp only [putE, Option.some.injEq] at h; subst h; exact ⟨rfl, fun d hd => by cases hd⟩
  | some d =>
    simp only [putE] at h
    split at h
    · rename_i hd
      cases h
      exact ⟨funext fun j => look_ins d c env j, fun d' hd' => by cases hd'; exact hd⟩
    · cases h

def Snd (P : Program) (G : Nat → Option (List T)) (rc : FuncId → List T → Option (List R)) : Prop := ∀ f args rs, rc f args = some rs → Holds P G f args rs
/-- What an operation has made may be held fast at once. -/
def Frozen (H : Nat → Option Blk) (eff0 eff : Eff) : Prop :=
  eff = eff0 ∨ ∃ t ms, frz (updH H eff0.sets) deep eff0.val = some (t, ms) ∧ eff = ⟨.t t, eff0.sets ++ marks (updH H eff0.sets) ms, eff0.fp ++ ms⟩
/-- What an operation comes to in a state: it is carried out, or passed over. -/
def Does (P : Program) (G : Nat → Option (List T)) (nt : Nat) (ops : Array Oper) (o : Oper) (id : Nat) (e : Nat → Option C) (H : Nat → Option Blk) (eff : Eff) : Prop :=
  (∀ d, o.dst = some d → d < nt) ∧ ((wantC ops e o = some true ∧ ∃ rc eff0, Snd P G rc ∧ opc P G rc o e H id = some eff0 ∧ Frozen H eff0 eff) ∨ (wantC ops e o = some false ∧ eff = ⟨.tup [], [], []⟩))

theorem stepO_spec {P : Program} {G : Nat → Option (List T)} {rc : FuncId → List T → Option (List R)} {nt : Nat} {ops : Array Oper} {o : Oper} {id : Nat} {s s' : S} {x y : List Nat} (hrc : Snd P G rc) (h : stepO P G rc nt ops o id s = some (s', x, y)) :
    ∃ eff, Does P G nt ops o id s.e s.h eff ∧ s'.e = updE s.e o.dst eff.val ∧ s'.h = updH s.h eff.sets ∧ x = eff.sets.map (·.1) ∧ y = eff.fp ∧ s.heap.length ≤ s'.heap.length := by
  unfold stepO at h
  split at h
  · rename_i hw
    split at h
    · rename_i eff hop
      cases hp : putE nt s.env o.dst eff.val with
      | none => simp [hp] at h
      | some env' =>
        simp only [hp, Option.map_some, Option.some.injEq, Prod.mk.injEq] at h
        obtain ⟨rfl, rfl, rfl⟩ := h
        obtain ⟨h1, h2⟩ := putE_spec hp
        exact ⟨eff, ⟨h2, .inl ⟨hw, rc, eff, hrc, hop, .inl rfl⟩⟩, h1, setH_get _ _, rfl, rfl, setH_length _ _⟩
    · cases h
  · rename_i hw
    cases hp : putE nt s.env o.dst (.tup []) with
    | none => simp [hp] at h
    | some env' =>
      simp only [hp, Option.map_some, Option.some.injEq, Prod.mk.injEq] at h
      obtain ⟨rfl, rfl, rfl⟩ := h
      obtain ⟨h1, h2⟩ := putE_spec hp
      exact ⟨⟨.tup [], [], []⟩, ⟨h2, .inr ⟨hw, rfl⟩⟩, h1, rfl, rfl, rfl, Nat.le_refl _⟩
  · cases h

section
variable {P : Program} {G : Nat → Option (List T)} {base nt : Nat} {w0 : Base} {w : World} {ρ : Nat → Option Nat} {I : Nat → Prop} {e : Nat → Option C} {H : Nat → Option Blk} {a : Act}

theorem want_sound (hs : Sim G base w0 nt ρ I e H a w) {ops : Array Oper} {o : Oper} {b : Bool} (h : wantC ops e o = some b) : Region.wanted o (yielded ops a.tmps) = b := by
  unfold wantC at h
  unfold Region.wanted
  cases hg : o.guard with
  | none => simp only [hg, Option.some.injEq] at h; exact h
  | some q =>
    obtain ⟨j, want⟩ := q
    simp only [hg] at h ⊢
    cases hy : yieldC ops e j with
    | none => simp [hy] at h
    | some y =>
      simp only [hy, Option.map_some, Option.some.injEq] at h
      have : yielded ops a.tmps j = y := by
        unfold yieldC at hy
        unfold yielded
        cases hd : (ops[j]?).bind (·.dst) with
        | none => simp only [hd, Option.some.injEq] at hy; subst hy; rfl
        | some d =>
          simp only [hd] at hy ⊢
          simp only [Option.bind_some]
          split at hy
          · rename_i b' he
            cases hy
            have hv := hs.env d _ he
            simp only [RC, RT] at hv
            have hlt : d < a.tmps.size := by
              rcases Nat.lt_or_ge d a.tmps.size with h' | h'
              · exact h'
              · have := hv.1; simp [Array.getElem?_eq_none h', undef] at this
            have hv1 := hv.1
            simp [hlt] at hv1 ⊢
            rw [hv1]
          · rename_i cs he
            cases hy
            have hv := hs.env d _ he
            simp only [RC] at hv
            obtain ⟨vs, hv, _⟩ := hv
            rcases Nat.lt_or_ge d a.tmps.size with h' | h'
            · simp [h'] at hv ⊢; rw [hv]
            · simp [Array.getElem?_eq_none h']
          · cases hy
      rw [this]
      exact h

theorem sim_put (hs : Sim G base w0 nt ρ I e H a w) {ρ' : Nat → Option Nat} {I' : Nat → Prop} {w' : World} {H' : Nat → Option Blk} {dst : Option Tmp} {c : C} {v : Value} (hx : Ext I I' w.heap w'.heap) (hr : ∀ b r, ρ b = some r → ρ' b = some r)
    (hm : SimH G base w0 ρ' I' H' w') (hv : RC ρ' w'.heap I' c v) (hd : ∀ d, dst = some d → d < nt) : Sim G base w0 nt ρ' I' (updE e dst c) H' (a.put dst v) w' := by
  cases dst with
  | none => exact ⟨hm, hs.defers, hs.tm, fun k c' hk => RC.mono hx hr _ _ (hs.env k c' hk)⟩
  | some d =>
    have hlt : d < a.tmps.size := by rw [hs.tm]; exact hd d rfl
    refine ⟨hm, hs.defers, by simp [Act.put, hs.tm], fun k c' hk => ?_⟩
    simp only [updE] at hk
    by_cases hkd : k = d
    · subst hkd
      rw [if_pos rfl] at hk
      cases hk
      simpa [Act.put, hlt] using hv
    · rw [if_neg hkd] at hk
      have := RC.mono hx hr _ _ (hs.env k c' hk)
      have e1 : (a.put (some d) v).tmps.getD k undef = a.tmps.getD k undef := by
        simp [Act.put, Array.getElem?_setIfInBounds_ne (Ne.symm hkd)]
      rw [e1]
      exact this

theorem Step.frozen {ρ' : Nat → Option Nat} {I' : Nat → Prop} {w' : World} {lo hi : Nat} {eff0 eff : Eff} {v : Value} (hf : Frozen H eff0 eff) (hst : Step G base w0 ρ I H w lo hi eff0 v ρ' I' w') : ∃ I'', Step G base w0 ρ I H w lo hi eff v ρ' I'' w' := by
  rcases hf with rfl | ⟨t, ms, hf, rfl⟩
  · exact ⟨I', hst⟩
  · obtain ⟨d, hv⟩ := frz_sound hst.mem deep _ t ms hf
    refine ⟨J ρ' I' ms, hst.ext.trans (ext_J w' ms), hst.rho, hst.out, by simp only [RC]; exact hv v hst.val, ?_⟩
    have := SimH.marks hst.mem d
    rw [← updH_append] at this
    exact this

/-- One operation of a region, in whatever state. -/
theorem does_sound (hs : Sim G base w0 nt ρ I e H a w) (hb : base ≤ w0.w.heap.size) {ops : Array Oper} {i : Nat} {o : Oper} (hi : ops[i]? = some o) {id : Nat}
    (hid : ∀ b, id ≤ b → b < id + nalloc o → ρ b = none) {eff : Eff} (h : Does P G nt ops o id e H eff) {K : Act → World → Prop} {Q : Exit → Act → World → Prop}
    (hn : ∀ v ρ' I' w', Sim G base w0 nt ρ' I' (updE e o.dst eff.val) (updH H eff.sets) (a.put o.dst v) w' → (∀ b r, ρ b = some r → ρ' b = some r) → (∀ b, ¬ (id ≤ b ∧ b < id + nalloc o) → ρ' b = ρ b) → K (a.put o.dst v) w') :
    wpOp P ops Q i K a w := by
  obtain ⟨hd, h⟩ := h
  unfold wpOp
  simp only [hi]
  rcases h with ⟨hw, rc, eff0, hrc, hop, hfr⟩ | ⟨hw, rfl⟩
  · rw [want_sound hs hw]
    simp only [if_true]
    refine .inl (opc_sound hrc hs hb hid hop fun v ρ' I1 w' hst1 => ?_)
    obtain ⟨I', hst⟩ := hst1.frozen hfr
    exact hn v ρ' I' w' (sim_put hs hst.ext hst.rho hst.mem hst.val hd) hst.rho hst.out
  · rw [want_sound hs hw]
    simp only [Bool.false_eq_true, if_false]
    exact hn undef ρ I w (sim_put hs (Ext.refl _ _) (fun _ _ h => h) hs.mem (by simp only [RC]; exact ⟨#[], rfl, by simp only [RCs]⟩) hd) (fun _ _ h => h) (fun _ _ => rfl)

/-- The operations in the order of the text: from a state to a state, with the trace. -/
inductive RunR (P : Program) (G : Nat → Option (List T)) (nt : Nat) (ops : Array Oper) : List Oper → Nat → S → S → List (List Nat × List Nat) → Prop
  | nil (id : Nat) (s : S) : RunR P G nt ops [] id s s []
  | cons {o : Oper} {l : List Oper} {id : Nat} {s s1 s' : S} {eff : Eff} {tr : List (List Nat × List Nat)} (hdo : Does P G nt ops o id s.e s.h eff) (h1 : s1.e = updE s.e o.dst eff.val) (h2 : s1.h = updH s.h eff.sets)
    (hlen : s.heap.length ≤ s1.heap.length) (hrest : RunR P G nt ops l (id + nalloc o) s1 s' tr) : RunR P G nt ops (o :: l) id s s' ((eff.sets.map (·.1), eff.fp) :: tr)

theorem runO_RunR {rc : FuncId → List T → Option (List R)} (hrc : Snd P G rc) {ops : Array Oper} : ∀ (l : List Oper) (id : Nat) (s s' : S) (tr : List (List Nat × List Nat)), runO P G rc nt ops l id s = some (s', tr) → RunR P G nt ops l id s s' tr
  | [], id, s, s', tr, h => by
    simp only [runO, Option.some.injEq, Prod.mk.injEq] at h
    obtain ⟨rfl, rfl⟩ := h
    exact .nil _ _
  | o :: l, id, s, s', tr, h => by
    simp only [runO] at h
    split at h
    · rename_i s1 x y hst
      split at h
      · rename_i s2 tr' hrun
        simp only [Option.some.injEq, Prod.mk.injEq] at h
        obtain ⟨rfl, rfl⟩ := h
        obtain ⟨eff, hdo, h1, h2, rfl, rfl, hlen⟩ := stepO_spec hrc hst
        exact .cons hdo h1 h2 hlen (runO_RunR hrc l _ s1 s2 tr' hrun)
      · cases h
    · cases h

/-- A region: from a state to a state. -/
def RegionR (P : Program) (G : Nat → Option (List T)) (nt : Nat) (ops : Array Oper) (draw : Bool) (s s' : S) : Prop :=
  ∃ tr, RunR P G nt ops ops.toList s.heap.length ⟨s.env, s.heap ++ List.replicate (total ops.toList) none⟩ s' tr ∧ (!draw || (drawOk ops && freeAll (masks ops.toList []) tr 0)) = true

theorem region_RegionR {rc : FuncId → List T → Option (List R)} (hrc : Snd P G rc) {ops : Array Oper} {draw : Bool} {s s' : S} (h : region P G rc nt ops draw s = some s') : RegionR P G nt ops draw s s' := by
  unfold region at h
  split at h
  · rename_i s1 tr hrun
    split at h
    · rename_i hc
      cases h
      exact ⟨tr, runO_RunR hrc _ _ _ _ _ hrun, hc⟩
    · cases h
  · cases h

/-- The operations in the order of the text. -/
theorem runO_sound (hb : base ≤ w0.w.heap.size) {ops : Array Oper} {Q : Exit → Act → World → Prop} :
    ∀ (l : List Oper) (k id : Nat) (s s' : S) (tr : List (List Nat × List Nat)) (ρ : Nat → Option Nat) (I : Nat → Prop) (a : Act) (w : World), (∀ j, l[j]? = ops[k + j]?) → RunR P G nt ops l id s s' tr →
      Sim G base w0 nt ρ I s.e s.h a w → (∀ b, id ≤ b → ρ b = none) →
      (∀ ρ' I' a' w', Sim G base w0 nt ρ' I' s'.e s'.h a' w' → (∀ b, id + total l ≤ b → ρ' b = none) → s.heap.length ≤ s'.heap.length → Q .normal a' w') → wpOps P ops Q (List.range' k l.length) a w
  | [], k, id, s, s', tr, ρ, I, a, w, hl, h, hs, hf, hq => by
    cases h
    simp only [List.length_nil, List.range'_zero, wpOps]
    exact hq ρ I a w hs (fun b hb => hf b (by simp [total] at hb; exact hb)) (Nat.le_refl _)
  | o :: l, k, id, s, s', tr, ρ, I, a, w, hl, h, hs, hf, hq => by
    cases h with
    | @cons _ _ _ _ s1 _ eff tr hdo h1 h2 hlen hrest =>
      have hi : ops[k]? = some o := by have := hl 0; simpa using this.symm
      simp only [List.length_cons, List.range'_succ, wpOps_cons]
      refine does_sound hs hb hi (fun b hb1 _ => hf b hb1) hdo fun v ρ' I' w' hs' hr ho => ?_
      rw [← h1, ← h2] at hs'
      refine runO_sound hb l (k + 1) (id + nalloc o) s1 s' tr ρ' I' _ w' (fun j => by have := hl (j + 1); simpa [Nat.add_assoc, Nat.add_comm 1 j] using this) hrest hs' (fun b hb => by
        rw [ho b (by omega)]
        exact hf b (by omega)) fun ρ'' I'' a'' w'' hs'' hf'' hlen' => hq ρ'' I'' a'' w'' hs'' (fun b hb => hf'' b (by simp [total] at hb ⊢; omega)) (Nat.le_trans hlen hlen')

theorem heapF_pad (l : List (Option Blk)) (n : Nat) : heapF (l ++ List.replicate n none) = heapF l := by
  funext b
  unfold heapF
  rw [List.getElem?_append]
  split
  · rfl
  · rename_i h
    rw [List.getElem?_eq_none (by omega : l.length ≤ b)]
    by_cases hb : b - l.length < n
    · simp [hb]
    · rw [List.getElem?_eq_none (by simp; omega)]

def SimS (G : Nat → Option (List T)) (base : Nat) (w0 : Base) (nt : Nat) (ρ : Nat → Option Nat) (I : Nat → Prop) (s : S) (a : Act) (w : World) : Prop :=
  Sim G base w0 nt ρ I s.e s.h a w ∧ ∀ b, s.heap.length ≤ b → ρ b = none

theorem region_plain (hb : base ≤ w0.w.heap.size) {ops : Array Oper} {s s' : S} {rid : Nat} {Q : Exit → Act → World → Prop} (hs : SimS G base w0 nt ρ I s a w)
    (h : RegionR P G nt ops false s s') (hq : ∀ ρ' I' a' w', SimS G base w0 nt ρ' I' s' a' w' → Q .normal a' w') : (Code.region rid ops false).wp P Q a w := by
  obtain ⟨tr, hrun, _⟩ := h
  refine wp_region ?_
  have hr : List.range ops.size = List.range' 0 ops.toList.length := by rw [List.range_eq_range']; simp
  rw [hr]
  refine runO_sound hb ops.toList 0 s.heap.length _ s' tr ρ I a w (fun j => by simp) hrun ?_ hs.2 fun ρ' I' a' w' hs' hf hlen => hq ρ' I' a' w' ⟨hs', fun b hb => hf b ?_⟩
  · have := hs.1
    have e1 : (S.mk s.env (s.heap ++ List.replicate (total ops.toList) none)).h = s.h := heapF_pad _ _
    rw [e1]
    exact this
  · simp only [List.length_append, List.length_replicate] at hlen
    omega
end
end Go.Va
