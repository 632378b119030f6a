/- A range over a map of any size: whichever entry comes. Loops whose rounds may take any of several roads; the entries of a map in another order. -/
import Derived.Test.YtiegfchaepbnbaaGreatDoorP9
namespace Go.Va
open Go Go.RowKit

theorem setAt_h : ∀ (l : List (Option Blk)) (b : Nat) (k : Option Blk), b < l.length → ∀ j, (S.mk [] (setAt l b k)).h j = if j = b then k else (S.mk [] l).h j := by
  intro l
  induction l with
  | nil => intro b k hb; simp at hb
  | cons x l ih =>
    intro b k hb j
    cases b with
    | zero => cases j <;> simp [S.h, setAt]
    | succ b =>
      cases j with
      | zero => simp [S.h, setAt]
      | succ j =>
        have := ih b k (by simpa using hb) j
        simp only [S.h] at this ⊢
        simpa [setAt] using this
theorem setAt_len : ∀ (l : List (Option Blk)) (b : Nat) (k : Option Blk), b < l.length → (setAt l b k).length = l.length
  | [], b, k, h => by simp at h
  | x :: l, 0, k, _ => rfl
  | x :: l, b + 1, k, h => by simp [setAt, setAt_len l b k (by simpa using h)]
theorem ExecS.nextAny {P : Program} {G : Nat → Option (List T)} {nt rid d1 b : Nat} {ops : Array Oper} {o1 : Oper} {l2 : List Oper} {x : Operand} {rest : Code} {s s' : S} {z : Ex} {td : List (Value × T)} {cu : Option (Value × T)}
    (hops : ops.toList = o1 :: l2) (ho : o1.op = .next x false) (hg : o1.guard = none) (hd : o1.dst = some d1) (hd1 : d1 < nt) (hx : ev G s.e x = some (.loc b 0)) (hh : s.h b = some (.iter td cu)) (hbl : b < s.heap.length)
    (hend : td = [] → ∃ s2 tr, runO P G nobody nt ops l2 s.heap.length ⟨ins d1 (.tup [goB false]) s.env, s.heap ++ List.replicate (total l2) none⟩ = some (s2, tr) ∧ ExecS P G nt rest s2 z s')
    (hgo : ∀ j k y, td[j]? = some (k, y) → flat k = true → ∃ s2 tr, runO P G nobody nt ops l2 s.heap.length ⟨ins d1 (.tup [goB true, .t (.lit k), .t y]) s.env, setAt s.heap b (some (.iter (td.eraseIdx j) (some (k, y)))) ++ List.replicate (total l2) none⟩ = some (s2, tr) ∧ ExecS P G nt rest s2 z s') :
    ExecS P G nt (.seq (.region rid ops false) rest) s z s' := by
  intro base w0 ρ I a w Q hb hs hQ
  refine wp_seq (wp_region ?_)
  have hr : List.range ops.size = List.range' 0 (l2.length + 1) := by
    rw [List.range_eq_range', ← Array.length_toList, hops]; rfl
  have hi : ops[0]? = some o1 := by rw [← Array.getElem?_toList, hops]; rfl
  have htail : ∀ j, l2[j]? = ops[0 + 1 + j]? := fun j => by rw [← Array.getElem?_toList, hops, Nat.add_comm 1 j]; simp
  have hv := ev_sound hs.1 hx
  simp only [RC] at hv
  obtain ⟨r, hr1, hav⟩ := hv
  have hB : ∀ {h : Array Obj} (c : Bool), RC ρ h I (goB c) (.bool c) := fun c => by simp [goB, RC, RT, flat]
  rw [hr, List.range'_succ, wpOps_cons]
  unfold wpOp
  simp only [hi]
  have hw : Region.wanted o1 (yielded ops a.tmps) = true := by unfold Region.wanted; simp [hg]
  rw [hw]
  simp only [if_true]
  have fin : ∀ (c : C) (v : Value) (H' : List (Option Blk)) (w1 : World) (s2 : S) (tr : List (List Nat × List Nat)), H'.length = s.heap.length → RC ρ w1.heap I c v → Ext I I w.heap w1.heap → SimH G base w0 ρ I (S.mk [] H').h w1 →
      runO P G nobody nt ops l2 s.heap.length ⟨ins d1 c s.env, H' ++ List.replicate (total l2) none⟩ = some (s2, tr) → ExecS P G nt rest s2 z s' →
      wpOps P ops (Exit.then (rest.wp P Q) Q) (List.range' (0 + 1) l2.length) (a.put o1.dst v) w1 := by
    intro c v H' w1 s2 tr hlen hc hext hsim hrun hrest
    have hsp := sim_put (dst := o1.dst) (c := c) (v := v) hs.1 hext (fun _ _ h => h) hsim hc (fun d h => by rw [hd] at h; cases h; exact hd1)
    refine runO_sound hb.1 l2 (0 + 1) s.heap.length _ s2 tr ρ I _ w1 htail (runO_RunR (rc := nobody) (fun f args rs h => by cases h) _ _ _ _ _ hrun) ?_ hs.2 fun ρ' I' a' w' hs' hf hl => ?_
    · have e1 : (S.mk (ins d1 c s.env) (H' ++ List.replicate (total l2) none)).h = (S.mk [] H').h := heapF_pad _ _
      have e2 : (S.mk (ins d1 c s.env) (H' ++ List.replicate (total l2) none)).e = updE s.e o1.dst c := by
        rw [hd]
        funext k
        exact look_ins _ _ _ _
      rw [e1, e2]
      exact hsp
    · refine hrest base w0 ρ' I' a' w' Q hb ⟨hs', fun b hb => hf b ?_⟩ hQ
      simp only [List.length_append, List.length_replicate] at hl
      omega
  refine .inl ?_
  rcases iter_next (P := P) hs.1.mem hh hr1 o1.type with ⟨he, hrun⟩ | ⟨j, k, y, v, w1, hj, hfl, hrun, hy, hext, hsim⟩
  · obtain ⟨s2, tr, h1, h2⟩ := hend he
    refine wp_of_res (K := fun v w' => v = .tuple #[.bool false] ∧ w' = w) (.inl ⟨_, w, ?_, rfl, rfl⟩) ?_
    · simp only [execOp, ho, hav, Sem.run_bind, hrun, Result.andThen_ok, Sem.run_pure]
    · rintro v w' ⟨rfl, rfl⟩
      refine fin _ _ s.heap w' s2 tr rfl ?_ (Ext.refl _ _) hs.1.mem h1 h2
      simp only [RC, RCs]
      exact ⟨_, rfl, _, _, rfl, hB false, rfl⟩
  · obtain ⟨s2, tr, h1, h2⟩ := hgo j k y hj hfl
    refine wp_of_res (K := fun v' w' => v' = .tuple #[.bool true, k, v] ∧ w' = w1) (.inl ⟨_, w1, ?_, rfl, rfl⟩) ?_
    · simp only [execOp, ho, hav, Sem.run_bind, hrun, Result.andThen_ok, Sem.run_pure]
    · rintro v' w' ⟨rfl, rfl⟩
      refine fin _ _ _ w' s2 tr (setAt_len _ _ _ hbl) ?_ hext ?_ h1 h2
      · simp only [RC, RCs]
        exact ⟨_, rfl, _, _, rfl, hB true, _, _, rfl, by simp [RT, hfl], _, _, rfl, hy, rfl⟩
      · have e3 : (S.mk [] (setAt s.heap b (some (.iter (td.eraseIdx j) (some (k, y)))))).h = updH s.h [(b, some (.iter (td.eraseIdx j) (some (k, y))))] := by
          funext q
          rw [setAt_h _ _ _ hbl]
          simp only [updH]
          rfl
        rw [e3]
        exact hsim
end Go.Va
namespace Go.Va
open Go Go.RowKit

/-- What a state may come to. -/
def ExecM (P : Program) (G : Nat → Option (List T)) (nt : Nat) (c : Code) (s : S) (K : Ex → S → Prop) : Prop :=
  ∀ (base : Nat) (w0 : Base) (ρ : Nat → Option Nat) (I : Nat → Prop) (a : Act) (w : World) (Q : Exit → Act → World → Prop), BaseOk base w0 → SimS G base w0 nt ρ I s a w →
    (∀ x s', K x s' → ∀ ρ' I' a' w', SimS G base w0 nt ρ' I' s' a' w' → Q (exitOf x) a' w') → c.wp P Q a w
theorem ExecM.of {P : Program} {G : Nat → Option (List T)} {nt : Nat} {c : Code} {s s' : S} {x : Ex} {K : Ex → S → Prop} (h : ExecS P G nt c s x s') (hk : K x s') : ExecM P G nt c s K :=
  fun base w0 ρ I a w Q hb hs hQ => h base w0 ρ I a w Q hb hs (hQ x s' hk)
theorem ExecM.weak {P : Program} {G : Nat → Option (List T)} {nt : Nat} {c : Code} {s s1 : S} {K : Ex → S → Prop} (hw : Weak G nt s s1) (h : ExecM P G nt c s1 K) : ExecM P G nt c s K :=
  fun base w0 ρ I a w Q hb hs hQ => by
    obtain ⟨ρ', hs'⟩ := hw base w0 ρ I a w hb.2 hs
    exact h base w0 ρ' I a w Q hb hs' hQ
/-- Each round takes one off the measure, or leaves the loop. -/
theorem loopM {P : Program} {G : Nat → Option (List T)} {nt : Nat} {b : Code} {z : Ex} {s' : S} (hz : z ≠ .normal) (inv : Nat → S → Prop)
    (h : ∀ k s, inv k s → ExecM P G nt b s (fun x s1 => (x = z ∧ Weak G nt s1 s') ∨ (x = .normal ∧ ∃ k' s2, k = k' + 1 ∧ Weak G nt s1 s2 ∧ inv k' s2))) {k : Nat} {s : S} (hi : inv k s) : ExecS P G nt (.loop b) s z s' := by
  intro base w0 ρ I a w Q hb hs hQ
  refine wp_loop_rounds (k + 1) ?_
  revert s ρ I a w
  induction k with
  | zero =>
    intro s hi ρ I a w hs
    rw [rounds_succ]
    refine h 0 s hi base w0 ρ I a w _ hb hs ?_
    rintro x s1 (⟨rfl, hw⟩ | ⟨rfl, k', s2, hk, _⟩) ρ' I' a' w' hs'
    · obtain ⟨ρ'', hs''⟩ := hw base w0 ρ' I' a' w' hb.2 hs'
      have := hQ _ _ _ _ hs''
      cases x with
      | normal => exact (hz rfl).elim
      | exit id => exact this
      | ret => exact this
    · cases hk
  | succ k ih =>
    intro s hi ρ I a w hs
    rw [rounds_succ]
    refine h (k + 1) s hi base w0 ρ I a w _ hb hs ?_
    rintro x s1 (⟨rfl, hw⟩ | ⟨rfl, k', s2, hk, hw, hi2⟩) ρ' I' a' w' hs'
    · obtain ⟨ρ'', hs''⟩ := hw base w0 ρ' I' a' w' hb.2 hs'
      have := hQ _ _ _ _ hs''
      cases x with
      | normal => exact (hz rfl).elim
      | exit id => exact this
      | ret => exact this
    · cases hk
      obtain ⟨ρ'', hs''⟩ := hw base w0 ρ' I' a' w' hb.2 hs'
      exact ih hi2 _ _ _ _ hs''

theorem ExecM.nextAny {P : Program} {G : Nat → Option (List T)} {nt rid d1 b : Nat} {ops : Array Oper} {o1 : Oper} {l2 : List Oper} {x : Operand} {rest : Code} {s : S} {K : Ex → S → Prop} {td : List (Value × T)} {cu : Option (Value × T)}
    (hops : ops.toList = o1 :: l2) (ho : o1.op = .next x false) (hg : o1.guard = none) (hd : o1.dst = some d1) (hd1 : d1 < nt) (hx : ev G s.e x = some (.loc b 0)) (hh : s.h b = some (.iter td cu)) (hbl : b < s.heap.length)
    (hend : td = [] → ∃ s2 tr, runO P G nobody nt ops l2 s.heap.length ⟨ins d1 (.tup [goB false]) s.env, s.heap ++ List.replicate (total l2) none⟩ = some (s2, tr) ∧ ExecM P G nt rest s2 K)
    (hgo : ∀ j k y, td[j]? = some (k, y) → flat k = true → ∃ s2 tr, runO P G nobody nt ops l2 s.heap.length ⟨ins d1 (.tup [goB true, .t (.lit k), .t y]) s.env, setAt s.heap b (some (.iter (td.eraseIdx j) (some (k, y)))) ++ List.replicate (total l2) none⟩ = some (s2, tr) ∧ ExecM P G nt rest s2 K) :
    ExecM P G nt (.seq (.region rid ops false) rest) s K := by
  intro base w0 ρ I a w Q hb hs hQ
  refine wp_seq (wp_region ?_)
  have hr : List.range ops.size = List.range' 0 (l2.length + 1) := by
    rw [List.range_eq_range', ← Array.length_toList, hops]; rfl
  have hi : ops[0]? = some o1 := by rw [← Array.getElem?_toList, hops]; rfl
  have htail : ∀ j, l2[j]? = ops[0 + 1 + j]? := fun j => by rw [← Array.getElem?_toList, hops, Nat.add_comm 1 j]; simp
  have hv := ev_sound hs.1 hx
  simp only [RC] at hv
  obtain ⟨r, hr1, hav⟩ := hv
  have hB : ∀ {h : Array Obj} (c : Bool), RC ρ h I (goB c) (.bool c) := fun c => by simp [goB, RC, RT, flat]
  rw [hr, List.range'_succ, wpOps_cons]
  unfold wpOp
  simp only [hi]
  have hw : Region.wanted o1 (yielded ops a.tmps) = true := by unfold Region.wanted; simp [hg]
  rw [hw]
  simp only [if_true]
  have fin : ∀ (c : C) (v : Value) (H' : List (Option Blk)) (w1 : World) (s2 : S) (tr : List (List Nat × List Nat)), H'.length = s.heap.length → RC ρ w1.heap I c v → Ext I I w.heap w1.heap → SimH G base w0 ρ I (S.mk [] H').h w1 →
      runO P G nobody nt ops l2 s.heap.length ⟨ins d1 c s.env, H' ++ List.replicate (total l2) none⟩ = some (s2, tr) → ExecM P G nt rest s2 K →
      wpOps P ops (Exit.then (rest.wp P Q) Q) (List.range' (0 + 1) l2.length) (a.put o1.dst v) w1 := by
    intro c v H' w1 s2 tr hlen hc hext hsim hrun hrest
    have hsp := sim_put (dst := o1.dst) (c := c) (v := v) hs.1 hext (fun _ _ h => h) hsim hc (fun d h => by rw [hd] at h; cases h; exact hd1)
    refine runO_sound hb.1 l2 (0 + 1) s.heap.length _ s2 tr ρ I _ w1 htail (runO_RunR (rc := nobody) (fun f args rs h => by cases h) _ _ _ _ _ hrun) ?_ hs.2 fun ρ' I' a' w' hs' hf hl => ?_
    · have e1 : (S.mk (ins d1 c s.env) (H' ++ List.replicate (total l2) none)).h = (S.mk [] H').h := heapF_pad _ _
      have e2 : (S.mk (ins d1 c s.env) (H' ++ List.replicate (total l2) none)).e = updE s.e o1.dst c := by
        rw [hd]
        funext k
        exact look_ins _ _ _ _
      rw [e1, e2]
      exact hsp
    · refine hrest base w0 ρ' I' a' w' Q hb ⟨hs', fun b hb => hf b ?_⟩ hQ
      simp only [List.length_append, List.length_replicate] at hl
      omega
  refine .inl ?_
  rcases iter_next (P := P) hs.1.mem hh hr1 o1.type with ⟨he, hrun⟩ | ⟨j, k, y, v, w1, hj, hfl, hrun, hy, hext, hsim⟩
  · obtain ⟨s2, tr, h1, h2⟩ := hend he
    refine wp_of_res (K := fun v w' => v = .tuple #[.bool false] ∧ w' = w) (.inl ⟨_, w, ?_, rfl, rfl⟩) ?_
    · simp only [execOp, ho, hav, Sem.run_bind, hrun, Result.andThen_ok, Sem.run_pure]
    · rintro v w' ⟨rfl, rfl⟩
      refine fin _ _ s.heap w' s2 tr rfl ?_ (Ext.refl _ _) hs.1.mem h1 h2
      simp only [RC, RCs]
      exact ⟨_, rfl, _, _, rfl, hB false, rfl⟩
  · obtain ⟨s2, tr, h1, h2⟩ := hgo j k y hj hfl
    refine wp_of_res (K := fun v' w' => v' = .tuple #[.bool true, k, v] ∧ w' = w1) (.inl ⟨_, w1, ?_, rfl, rfl⟩) ?_
    · simp only [execOp, ho, hav, Sem.run_bind, hrun, Result.andThen_ok, Sem.run_pure]
    · rintro v' w' ⟨rfl, rfl⟩
      refine fin _ _ _ w' s2 tr (setAt_len _ _ _ hbl) ?_ hext ?_ h1 h2
      · simp only [RC, RCs]
        exact ⟨_, rfl, _, _, rfl, hB true, _, _, rfl, by simp [RT, hfl], _, _, rfl, hy, rfl⟩
      · have e3 : (S.mk [] (setAt s.heap b (some (.iter (td.eraseIdx j) (some (k, y)))))).h = updH s.h [(b, some (.iter (td.eraseIdx j) (some (k, y))))] := by
          funext q
          rw [setAt_h _ _ _ hbl]
          simp only [updH]
          rfl
        rw [e3]
        exact hsim

theorem Weak.trans {G : Nat → Option (List T)} {nt : Nat} {s s1 s2 : S} (h : Weak G nt s s1) (h' : Weak G nt s1 s2) : Weak G nt s s2 := fun base w0 ρ I a w hK hs => by
  obtain ⟨ρ1, h1⟩ := h base w0 ρ I a w hK hs
  exact h' base w0 ρ1 I a w hK h1
theorem ExecM.mono {P : Program} {G : Nat → Option (List T)} {nt : Nat} {c : Code} {s : S} {K K' : Ex → S → Prop} (h : ExecM P G nt c s K) (hk : ∀ x s', K x s' → K' x s') : ExecM P G nt c s K' :=
  fun base w0 ρ I a w Q hb hs hQ => h base w0 ρ I a w Q hb hs fun x s' hx => hQ x s' (hk x s' hx)

/-! ## The entries of a map in another order -/
def Rel2 {α β : Type} (R : α → β → Prop) : List α → List β → Prop
  | [], l => l = []
  | a :: as, l => ∃ b bs, l = b :: bs ∧ R a b ∧ Rel2 R as bs
theorem rel2_perm {α β : Type} {R : α → β → Prop} {l l' : List α} (h : l.Perm l') : ∀ {m : List β}, Rel2 R l m → ∃ m', m.Perm m' ∧ Rel2 R l' m' := by
  induction h with
  | nil => exact fun hr => ⟨_, List.Perm.refl _, hr⟩
  | cons a _ ih =>
    rintro m ⟨b, bs, rfl, h1, h2⟩
    obtain ⟨m', h3, h4⟩ := ih h2
    exact ⟨b :: m', h3.cons b, b, m', rfl, h1, h4⟩
  | swap a a' l =>
    rintro m ⟨b, bs, rfl, h1, b', bs', rfl, h2, h3⟩
    exact ⟨b' :: b :: bs', List.Perm.swap _ _ _, b', _, rfl, h2, b, bs', rfl, h1, h3⟩
  | trans _ _ ih1 ih2 =>
    intro m hr
    obtain ⟨m1, h1, h2⟩ := ih1 hr
    obtain ⟨m2, h3, h4⟩ := ih2 h2
    exact ⟨m2, h1.trans h3, h4⟩
theorem rel2_of {α : Type} {ρ : Nat → Option Nat} {h : Array Obj} {I : Nat → Prop} (f : α → Value) (g : α → C) : ∀ {l : List α} {m : List MapEntry}, m.map (·.key) = l.map f → RCs ρ h I (l.map g) (m.map (·.val)) → Rel2 (fun a (e : MapEntry) => e.key = f a ∧ RC ρ h I (g a) e.val) l m
  | [], m, h1, _ => by simpa [Rel2] using h1
  | a :: l, m, h1, h2 => by
    cases m with
    | nil => simp at h1
    | cons e m =>
      simp only [List.map_cons, List.cons.injEq] at h1
      simp only [List.map_cons, RCs] at h2
      obtain ⟨v, rest, he, h3, h4⟩ := h2
      simp only [List.cons.injEq] at he
      obtain ⟨rfl, rfl⟩ := he
      exact ⟨e, m, rfl, ⟨h1.1, h3⟩, rel2_of f g h1.2 h4⟩
theorem rel2_to {α : Type} {ρ : Nat → Option Nat} {h : Array Obj} {I : Nat → Prop} (f : α → Value) (g : α → C) : ∀ {l : List α} {m : List MapEntry}, Rel2 (fun a (e : MapEntry) => e.key = f a ∧ RC ρ h I (g a) e.val) l m → m.map (·.key) = l.map f ∧ RCs ρ h I (l.map g) (m.map (·.val))
  | [], m, hr => by simp only [Rel2] at hr; subst hr; simp [RCs]
  | a :: l, m, hr => by
    obtain ⟨e, es, rfl, ⟨h1, h2⟩, h3⟩ := hr
    obtain ⟨h4, h5⟩ := rel2_to f g h3
    exact ⟨by simp [h1, h4], by simp only [List.map_cons, RCs]; exact ⟨_, _, rfl, h2, h5⟩⟩
theorem RB.perm {α : Type} {ρ : Nat → Option Nat} {h : Array Obj} {I : Nat → Prop} {r : Nat} {f : α → Value} {g : α → C} {l l' : List α} {fz : Bool} (hp : l.Perm l') (hr : RB ρ h I r (.map (l.map f) (l.map g) fz)) : RB ρ h I r (.map (l'.map f) (l'.map g) fz) := by
  simp only [RB] at hr ⊢
  obtain ⟨es, clk, m, h1, hm, h2, h3⟩ := hr
  obtain ⟨m', p, hr'⟩ := rel2_perm hp (rel2_of f g h2 h3)
  obtain ⟨h4, h5⟩ := rel2_to f g hr'
  exact ⟨es, clk, m', h1, ⟨p.symm.trans hm.perm, (p.map _).nodup_iff.1 hm.keys, fun e he => hm.lt e (p.mem_iff.2 he), (p.map _).nodup_iff.1 hm.born⟩, h4, h5⟩
/-- The entries of one of the call's maps, told in another order. -/
theorem weak_perm {G : Nat → Option (List T)} {nt : Nat} {α : Type} {s : S} {i : Nat} {f : α → Value} {g : α → C} {l l' : List α} {fz : Bool} (hi : s.heap[i]? = some (some (.map (l.map f) (l.map g) fz))) (hp : l.Perm l') :
    Weak G nt s ⟨s.env, s.heap.set i (some (.map (l'.map f) (l'.map g) fz))⟩ := by
  intro base w0 ρ I a w _ hs
  obtain ⟨⟨hm, hd, ht, he⟩, hnone⟩ := hs
  have hlt : i < s.heap.length := (List.getElem?_eq_some_iff.1 hi).1
  have hh : ∀ b k, (S.mk s.env (s.heap.set i (some (.map (l'.map f) (l'.map g) fz)))).h b = some k → ∃ k0, s.h b = some k0 ∧ isFz k = isFz k0 ∧ ∀ r, RB ρ w.heap I r k0 → RB ρ w.heap I r k := by
    intro b k hk
    simp only [S.h, List.getElem?_set] at hk
    split at hk
    · rename_i hb
      subst hb
      simp only [Option.join_some, Option.some.injEq] at hk
      subst hk
      exact ⟨.map (l.map f) (l.map g) fz, by show (s.heap[i]?).join = _; rw [hi]; rfl, rfl, fun r hr => hr.perm hp⟩
    · exact ⟨k, hk, rfl, fun r hr => hr⟩
  refine ⟨ρ, ⟨⟨hm.below, hm.ilt, hm.glob, fun b k hk => ?_, fun b b' k k' r h1 h2 h3 h4 => ?_, hm.rlt, hm.io, hm.keep⟩, hd, ht, he⟩, fun b hb => hnone b (by simpa using hb)⟩
  · obtain ⟨k0, g1, g2, g3⟩ := hh b k hk
    obtain ⟨r, t1, t2, t3, t4, t5⟩ := hm.blk b k0 g1
    exact ⟨r, t1, t2, g3 r t3, by rw [g2]; exact t4, by rw [g2]; exact t5⟩
  · obtain ⟨k0, g1, _⟩ := hh b k h1
    obtain ⟨k0', g1', _⟩ := hh b' k' h2
    exact hm.inj b b' k0 k0' r g1 g1' h3 h4
end Go.Va
