/- A region that draws its order: whatever order comes up, it comes to what the order of the text comes to. -/
import Derived.Test.YtaomebcmmjhplaaGreatDoorVa13
namespace Go.Va
open Go Go.RowKit

structure Rc where
  dst : Option Tmp
  val : C
  sets : List (Nat × Option Blk)
  fp : List Nat

def U (r : Rc) (s : (Nat → Option C) × (Nat → Option Blk)) : (Nat → Option C) × (Nat → Option Blk) := (updE s.1 r.dst r.val, updH s.2 r.sets)

/-- What the operations of 'L' have made, put together in the order of the text. -/
def st (L : Nat → Bool) : List Rc → Nat → (Nat → Option C) × (Nat → Option Blk) → (Nat → Option C) × (Nat → Option Blk)
  | [], _, s => s
  | r :: rs, k, s => st L rs (k + 1) (if L k then U r s else s)

theorem updH_not {b : Nat} : ∀ (sets : List (Nat × Option Blk)) (H : Nat → Option Blk), b ∉ sets.map (·.1) → updH H sets b = H b
  | [], _, _ => rfl
  | (x, k) :: r, H, h => by
    simp only [List.map_cons, List.mem_cons, not_or] at h
    simp only [updH]
    rw [updH_not r _ h.2, if_neg h.1]
theorem updH_congr {b : Nat} : ∀ (sets : List (Nat × Option Blk)) (H H' : Nat → Option Blk), H b = H' b → updH H sets b = updH H' sets b
  | [], _, _, h => h
  | (x, k) :: r, H, H', h => by
    simp only [updH]
    refine updH_congr r _ _ ?_
    by_cases hb : b = x
    · simp only [if_pos hb]
    · simp only [if_neg hb]; exact h

theorem st_e {t : Tmp} {L L' : Nat → Bool} : ∀ (rs : List Rc) (k : Nat) (s s' : (Nat → Option C) × (Nat → Option Blk)), (∀ (i : Nat) r, rs[i]? = some r → r.dst = some t → L (k + i) = L' (k + i)) → s.1 t = s'.1 t → (st L rs k s).1 t = (st L' rs k s').1 t
  | [], _, _, _, _, h => h
  | r :: rs, k, s, s', h, hs => by
    simp only [st]
    refine st_e rs (k + 1) _ _ (fun i r' hi hd => by have := h (i + 1) r' (by simpa using hi) hd; simpa [Nat.add_assoc, Nat.add_comm 1 i] using this) ?_
    by_cases hd : r.dst = some t
    · have h0 := h 0 r (by simp) hd
      simp only [Nat.add_zero] at h0
      rw [← h0]
      split
      · simp [U, hd, updE]
      · exact hs
    · have e1 : ∀ x : (Nat → Option C) × (Nat → Option Blk), (U r x).1 t = x.1 t := fun x => by
        simp only [U]
        cases hr : r.dst with
        | none => rfl
        | some d => simp only [updE]; rw [if_neg]; rintro rfl; exact hd hr
      split <;> split <;> simp only [e1, hs]

theorem st_h {b : Nat} {L L' : Nat → Bool} : ∀ (rs : List Rc) (k : Nat) (s s' : (Nat → Option C) × (Nat → Option Blk)), (∀ (i : Nat) r, rs[i]? = some r → b ∈ r.sets.map (·.1) → L (k + i) = L' (k + i)) → s.2 b = s'.2 b → (st L rs k s).2 b = (st L' rs k s').2 b
  | [], _, _, _, _, h => h
  | r :: rs, k, s, s', h, hs => by
    simp only [st]
    refine st_h rs (k + 1) _ _ (fun i r' hi hd => by have := h (i + 1) r' (by simpa using hi) hd; simpa [Nat.add_assoc, Nat.add_comm 1 i] using this) ?_
    by_cases hd : b ∈ r.sets.map (·.1)
    · have h0 := h 0 r (by simp) hd
      simp only [Nat.add_zero] at h0
      rw [← h0]
      split
      · exact updH_congr _ _ _ hs
      · exact hs
    · have e1 : ∀ x : (Nat → Option C) × (Nat → Option Blk), (U r x).2 b = x.2 b := fun x => updH_not _ _ hd
      split <;> split <;> simp only [e1, hs]

/-- Two operations whose effects do not meet. -/
def Clear (r r' : Rc) : Prop := (∀ d, r.dst = some d → r'.dst ≠ some d) ∧ ∀ b, b ∈ r.sets.map (·.1) → b ∉ r'.sets.map (·.1)

theorem updE_comm {e : Nat → Option C} {d d' : Option Tmp} {c c' : C} (h : ∀ x, d = some x → d' ≠ some x) : updE (updE e d c) d' c' = updE (updE e d' c') d c := by
  cases d with
  | none => rfl
  | some x =>
    cases d' with
    | none => rfl
    | some y =>
      have hne : y ≠ x := fun e => h x rfl (by rw [e])
      funext t
      simp only [updE]
      by_cases h1 : t = y <;> by_cases h2 : t = x <;> simp [h1, h2]
      · exact (hne (h1.symm.trans h2)).elim
      · intro h3; exact (hne h3).elim
      · intro h3; exact (hne h3.symm).elim

theorem updH_comm {H : Nat → Option Blk} {x y : List (Nat × Option Blk)} (h : ∀ b, b ∈ x.map (·.1) → b ∉ y.map (·.1)) : updH (updH H x) y = updH (updH H y) x := by
  funext b
  by_cases hx : b ∈ x.map (·.1)
  · have hy := h b hx
    rw [updH_not y _ hy]
    exact updH_congr x _ _ (updH_not y _ hy).symm
  · rw [updH_not x _ hx]
    exact updH_congr y _ _ (updH_not x _ hx)

theorem U_comm {r r' : Rc} (h : Clear r r') (s : (Nat → Option C) × (Nat → Option Blk)) : U r' (U r s) = U r (U r' s) := by
  simp only [U]
  rw [updE_comm h.1, updH_comm h.2]

theorem st_push {L : Nat → Bool} {r : Rc} : ∀ (rs : List Rc) (k : Nat) (s : (Nat → Option C) × (Nat → Option Blk)), (∀ (i : Nat) r', rs[i]? = some r' → L (k + i) = true → Clear r r') → st L rs k (U r s) = U r (st L rs k s)
  | [], _, _, _ => rfl
  | r' :: rs, k, s, h => by
    simp only [st]
    have ih := fun x => st_push rs (k + 1) x (fun i r'' hi hl => h (i + 1) r'' (by simpa using hi) (by simpa [Nat.add_assoc, Nat.add_comm 1 i] using hl))
    split
    · rename_i hk
      rw [U_comm (h 0 r' (by simp) (by simpa using hk)), ih]
    · rw [ih]

theorem st_same {L L' : Nat → Bool} : ∀ (rs : List Rc) (k : Nat) (s : (Nat → Option C) × (Nat → Option Blk)), (∀ i, i < rs.length → L (k + i) = L' (k + i)) → st L rs k s = st L' rs k s
  | [], _, _, _ => rfl
  | r :: rs, k, s, h => by
    simp only [st]
    have h0 := h 0 (by simp)
    simp only [Nat.add_zero] at h0
    rw [h0]
    exact st_same rs (k + 1) _ fun i hi => by have := h (i + 1) (by simp; omega); simpa [Nat.add_assoc, Nat.add_comm 1 i] using this

def upL (L : Nat → Bool) (i : Nat) : Nat → Bool := fun j => if j = i then true else L j

theorem st_insert {L : Nat → Bool} {r : Rc} (n : Nat) : ∀ (rs : List Rc) (k : Nat) (s : (Nat → Option C) × (Nat → Option Blk)), rs[n]? = some r → L (k + n) = false → (∀ (j : Nat) r', n < j → rs[j]? = some r' → L (k + j) = true → Clear r r') →
    st (upL L (k + n)) rs k s = U r (st L rs k s) := by
  induction n with
  | zero =>
    intro rs k s hr hl hc
    cases rs with
    | nil => simp at hr
    | cons r0 rs =>
      simp at hr
      subst hr
      simp only [Nat.add_zero] at hl ⊢
      simp only [st, upL, if_true, hl, Bool.false_eq_true, if_false]
      rw [st_same (L' := L) rs (k + 1) _ (fun i _ => by simp only [upL]; rw [if_neg (by omega)])]
      exact st_push rs (k + 1) s fun i r' hi hli => hc (i + 1) r' (by omega) (by simpa using hi) (by simpa [Nat.add_assoc, Nat.add_comm 1 i] using hli)
  | succ n ih =>
    intro rs k s hr hl hc
    cases rs with
    | nil => simp at hr
    | cons r0 rs =>
      simp only [st]
      have hk : upL L (k + (n + 1)) k = L k := by simp only [upL]; rw [if_neg (by omega)]
      rw [hk]
      have := ih rs (k + 1) (if L k then U r0 s else s) (by simpa using hr) (by rw [show k + 1 + n = k + (n + 1) by omega]; exact hl) fun j r' hj hr' hlj => hc (j + 1) r' (by omega) (by simpa using hr') (by rw [show k + (j + 1) = k + 1 + j by omega]; exact hlj)
      rw [show k + (n + 1) = k + 1 + n by omega]
      exact this

theorem st_all : ∀ (rs : List Rc) (k : Nat) (s : (Nat → Option C) × (Nat → Option Blk)), st (fun _ => true) rs k s = rs.foldl (fun s r => U r s) s
  | [], _, _ => rfl
  | r :: rs, k, s => by simp only [st, if_true, List.foldl_cons]; exact st_all rs (k + 1) _
theorem st_none : ∀ (rs : List Rc) (k : Nat) (s : (Nat → Option C) × (Nat → Option Blk)), (∀ i, i < rs.length → True) → st (fun _ => false) rs k s = s
  | [], _, _, _ => rfl
  | r :: rs, k, s, _ => by simp only [st, Bool.false_eq_true, if_false]; exact st_none rs (k + 1) s fun _ _ => trivial
theorem st_pre (n : Nat) : ∀ (rs : List Rc) (k : Nat) (s : (Nat → Option C) × (Nat → Option Blk)), st (fun j => decide (j < k + n)) rs k s = (rs.take n).foldl (fun s r => U r s) s := by
  induction n with
  | zero =>
    intro rs k s
    rw [st_same (L' := fun _ => false) rs k s fun i _ => by simp]
    simp [st_none]
  | succ n ih =>
    intro rs k s
    cases rs with
    | nil => simp [st]
    | cons r rs =>
      have hk : decide (k < k + (n + 1)) = true := by simp
      simp only [st, hk, if_true, List.take_succ_cons, List.foldl_cons]
      rw [← ih rs (k + 1)]
      rw [show k + (n + 1) = k + 1 + n by omega]

/-! ### What the text alone tells -/
def Deps (L : Nat → Prop) (o : Oper) : Prop := ∀ e, e ∈ o.after → Region.binds .any e = true → L e.on
def Closed (ops : Array Oper) (L : Nat → Prop) : Prop := ∀ (k : Nat) o, ops[k]? = some o → L k → Deps L o

theorem fold_bit {acc : List Nat} {i : Nat} : ∀ (es : List Edge) (s : Nat), (es.foldl (fun s e => if Region.binds .any e then s ||| 2 ^ e.on ||| acc.getD e.on 0 else s) s).testBit i = true →
    s.testBit i = true ∨ ∃ e, e ∈ es ∧ Region.binds .any e = true ∧ (i = e.on ∨ (acc.getD e.on 0).testBit i = true)
  | [], s, h => .inl h
  | e :: es, s, h => by
    simp only [List.foldl_cons] at h
    rcases fold_bit es _ h with h1 | ⟨e', he, hb, hi⟩
    · split at h1
      · rename_i hb
        rw [Nat.testBit_or, Nat.testBit_or, Nat.testBit_two_pow] at h1
        simp only [Bool.or_eq_true, decide_eq_true_eq] at h1
        rcases h1 with (h1 | h1) | h1
        · exact .inl h1
        · exact .inr ⟨e, List.mem_cons_self, hb, .inl h1.symm⟩
        · exact .inr ⟨e, List.mem_cons_self, hb, .inr h1⟩
      · exact .inl h1
    · exact .inr ⟨e', List.mem_cons_of_mem _ he, hb, hi⟩

theorem masks_sound {ops : Array Oper} : ∀ (l : List Oper) (acc : List Nat), (∀ j, l[j]? = ops[acc.length + j]?) →
    (∀ j i, ((acc.getD j 0).testBit i) = true → ∀ L, Closed ops L → (∀ o, ops[j]? = some o → Deps L o) → L i) →
    ∀ j i, (((masks l acc).getD j 0).testBit i) = true → ∀ L, Closed ops L → (∀ o, ops[j]? = some o → Deps L o) → L i
  | [], acc, _, h => h
  | o :: l, acc, hl, h => by
    simp only [masks]
    refine masks_sound l _ (fun j => by have := hl (j + 1); simpa [Nat.add_assoc, Nat.add_comm 1 j] using this) ?_
    intro j i hb L hc hd
    have ho : ops[acc.length]? = some o := by have := hl 0; simpa using this.symm
    by_cases hj : j < acc.length
    · refine h j i ?_ L hc hd
      rw [List.getD_eq_getElem?_getD, List.getElem?_append_left hj, ← List.getD_eq_getElem?_getD] at hb
      exact hb
    · by_cases hj2 : j = acc.length
      · subst hj2
        rw [List.getD_eq_getElem?_getD, List.getElem?_append_right (Nat.le_refl _)] at hb
        simp only [Nat.sub_self, List.getElem?_cons_zero, Option.getD_some] at hb
        rcases fold_bit _ _ hb with h1 | ⟨e, he, hbi, hi⟩
        · simp at h1
        · have hdep := hd o ho
          have hon : L e.on := hdep e (by simpa using he) hbi
          rcases hi with rfl | hi
          · exact hon
          · exact h e.on i hi L hc fun o' ho' => hc e.on o' ho' hon
      · rw [List.getD_eq_getElem?_getD, List.getElem?_eq_none (by simp; omega)] at hb
        simp at hb

theorem apartTail_spec {bf : List Nat} {ops : Array Oper} {i : Nat} {x : Oper} : ∀ (l : List Oper) (k : Nat), apartTail bf ops i x l k = true → ∀ (j : Nat) y, l[j]? = some y → (bf.getD (k + j) 0).testBit i = true ∨ x.apart ops y = true
  | [], _, _, j, y, h => by simp at h
  | z :: l, k, ha, j, y, h => by
    simp only [apartTail, Bool.and_eq_true, Bool.or_eq_true] at ha
    cases j with
    | zero => simp at h; subst h; simpa using ha.1
    | succ j =>
      have := apartTail_spec l (k + 1) ha.2 j y (by simpa using h)
      rw [show k + (j + 1) = k + 1 + j by omega]
      exact this
theorem apartAll_spec {bf : List Nat} {ops : Array Oper} : ∀ (l : List Oper) (k : Nat), apartAll bf ops l k = true → ∀ (i j : Nat) x y, i < j → l[i]? = some x → l[j]? = some y → (bf.getD (k + j) 0).testBit (k + i) = true ∨ x.apart ops y = true
  | [], _, _, i, j, x, y, _, h, _ => by simp at h
  | z :: l, k, ha, i, j, x, y, hij, hx, hy => by
    simp only [apartAll, Bool.and_eq_true] at ha
    cases j with
    | zero => omega
    | succ j =>
      cases i with
      | zero =>
        simp at hx
        subst hx
        have := apartTail_spec l (k + 1) ha.1 j y (by simpa using hy)
        rw [show k + (j + 1) = k + 1 + j by omega, Nat.add_zero]
        exact this
      | succ i =>
        have := apartAll_spec l (k + 1) ha.2 i j x y (by omega) (by simpa using hx) (by simpa using hy)
        rw [show k + (j + 1) = k + 1 + j by omega, show k + (i + 1) = k + 1 + i by omega]
        exact this
theorem freeTail_spec {bf : List Nat} {i : Nat} {x : List Nat × List Nat} : ∀ (l : List (List Nat × List Nat)) (k : Nat), freeTail bf i x l k = true → ∀ (j : Nat) y, l[j]? = some y → (bf.getD (k + j) 0).testBit i = true ∨ meet x y = true
  | [], _, _, j, y, h => by simp at h
  | z :: l, k, ha, j, y, h => by
    simp only [freeTail, Bool.and_eq_true, Bool.or_eq_true] at ha
    cases j with
    | zero => simp at h; subst h; simpa using ha.1
    | succ j =>
      have := freeTail_spec l (k + 1) ha.2 j y (by simpa using h)
      rw [show k + (j + 1) = k + 1 + j by omega]
      exact this
theorem freeAll_spec {bf : List Nat} : ∀ (l : List (List Nat × List Nat)) (k : Nat), freeAll bf l k = true → ∀ (i j : Nat) x y, i < j → l[i]? = some x → l[j]? = some y → (bf.getD (k + j) 0).testBit (k + i) = true ∨ meet x y = true
  | [], _, _, i, j, x, y, _, h, _ => by simp at h
  | z :: l, k, ha, i, j, x, y, hij, hx, hy => by
    simp only [freeAll, Bool.and_eq_true] at ha
    cases j with
    | zero => omega
    | succ j =>
      cases i with
      | zero =>
        simp at hx
        subst hx
        have := freeTail_spec l (k + 1) ha.1 j y (by simpa using hy)
        rw [show k + (j + 1) = k + 1 + j by omega, Nat.add_zero]
        exact this
      | succ i =>
        have := freeAll_spec l (k + 1) ha.2 i j x y (by omega) (by simpa using hx) (by simpa using hy)
        rw [show k + (j + 1) = k + 1 + j by omega, show k + (i + 1) = k + 1 + i by omega]
        exact this
theorem meet_spec {a b : List Nat × List Nat} (h : meet a b = true) : (∀ x, x ∈ a.1 → x ∉ b.1 ∧ x ∉ b.2) ∧ ∀ x, x ∈ b.1 → x ∉ a.2 := by
  unfold meet at h
  simp only [Bool.and_eq_true, List.all_eq_true, Bool.not_eq_true', List.contains_eq_mem, decide_eq_false_iff_not] at h
  exact ⟨fun x hx => h.1 x hx, fun x hx => h.2 x hx⟩
theorem edgesOk_spec : ∀ (l : List Oper) (k : Nat), edgesOk l k = true → ∀ (i : Nat) o, l[i]? = some o → (∀ e, e ∈ o.after → Region.binds .any e = true → e.on < k + i) ∧ ∀ cs b, o.op ≠ .select cs b
  | [], _, _, i, o, h => by simp at h
  | z :: l, k, ha, i, o, h => by
    simp only [edgesOk, Bool.and_eq_true, List.all_eq_true, Bool.or_eq_true, Bool.not_eq_true', decide_eq_true_eq] at ha
    cases i with
    | zero =>
      simp at h
      subst h
      refine ⟨fun e he hb => ?_, fun cs b hs => ?_⟩
      · rcases ha.1.1 e (by simpa using he) with h1 | h1
        · rw [hb] at h1; cases h1
        · simpa using h1
      · have := ha.1.2; rw [hs] at this; cases this
    | succ i =>
      have := edgesOk_spec l (k + 1) ha.2 i o (by simpa using h)
      rw [show k + (i + 1) = k + 1 + i by omega]
      exact this

/-! ### The trace of the order of the text -/
theorem runO_recs {P : Program} {G : Nat → Option (List T)} {nt : Nat} {ops : Array Oper} : ∀ (l : List Oper) (id : Nat) (s s' : S) (tr : List (List Nat × List Nat)), RunR P G nt ops l id s s' tr →
    ∃ recs : List Rc, recs.length = l.length ∧ tr = recs.map (fun r => (r.sets.map (·.1), r.fp)) ∧ (s'.e, s'.h) = recs.foldl (fun s r => U r s) (s.e, s.h) ∧ s.heap.length ≤ s'.heap.length ∧
      ∀ (i : Nat) o, l[i]? = some o → ∃ r, recs[i]? = some r ∧ r.dst = o.dst ∧ Does P G nt ops o (id + total (l.take i)) ((recs.take i).foldl (fun s r => U r s) (s.e, s.h)).1 ((recs.take i).foldl (fun s r => U r s) (s.e, s.h)).2 ⟨r.val, r.sets, r.fp⟩
  | [], id, s, s', tr, h => by
    cases h
    exact ⟨[], rfl, rfl, rfl, Nat.le_refl _, fun i o h => by simp at h⟩
  | o :: l, id, s, s', tr, h => by
    cases h with
    | @cons _ _ _ _ s1 _ eff tr' hdo h1 h2 hlen hrun =>
      obtain ⟨recs, g1, g2, g3, g4, g5⟩ := runO_recs l (id + nalloc o) s1 s' tr' hrun
      have hU : U ⟨o.dst, eff.val, eff.sets, eff.fp⟩ (s.e, s.h) = (s1.e, s1.h) := by simp only [U, h1, h2]
      refine ⟨⟨o.dst, eff.val, eff.sets, eff.fp⟩ :: recs, by simp [g1], by simp [g2], by simp only [List.foldl_cons, hU]; exact g3, Nat.le_trans hlen g4, ?_⟩
      intro i o' hi
      cases i with
      | zero =>
        simp at hi
        subst hi
        refine ⟨⟨o.dst, eff.val, eff.sets, eff.fp⟩, by simp, rfl, ?_⟩
        simp only [List.take_zero, total, List.map_nil, List.sum_nil, Nat.add_zero, List.foldl_nil]
        exact hdo
      | succ i =>
        obtain ⟨r, q1, q2, q3⟩ := g5 i o' (by simpa using hi)
        refine ⟨r, by simpa using q1, q2, ?_⟩
        simp only [List.take_succ_cons, List.foldl_cons, hU]
        have : id + total (o :: l.take i) = id + nalloc o + total (l.take i) := by simp [total]; omega
        rw [this]
        exact q3

theorem total_take_succ {l : List Oper} {i : Nat} {o : Oper} (h : l[i]? = some o) : total (l.take (i + 1)) = total (l.take i) + nalloc o := by
  rw [List.take_add_one, h]
  simp [total]
theorem total_take_le (l : List Oper) : ∀ {i j : Nat}, i ≤ j → total (l.take i) ≤ total (l.take j) := by
  intro i j h
  induction h with
  | refl => exact Nat.le_refl _
  | step _ ih =>
    rename_i m _
    refine Nat.le_trans ih ?_
    rw [List.take_add_one]
    simp [total]
theorem total_take_all (l : List Oper) (i : Nat) : total (l.take i) ≤ total l := by
  have := total_take_le l (i := i) (j := max i l.length) (Nat.le_max_left _ _)
  rwa [List.take_of_length_le (Nat.le_max_right _ _)] at this
end Go.Va
