/- A region that draws its order: whatever order comes up, it comes to what the order of the text comes to. A region that draws its order: the theorem. -/
import Derived.Test.YtiegfchaepbnbaaGreatDoorP6
namespace Go.Va
open Go Go.RowKit

structure Rc where
  dst : Option Tmp
  val : C
  sets : List (Nat × Option Blk)
  fp : List Nat

def U (r : Rc) (s : (Nat → Option C) × (Nat → Option Blk)) : (Nat → Option C) × (Nat → Option Blk) := (updE s.1 r.dst r.val, updH s.2 r.sets)

/-- What the operations of 'L' have made, put together in the order of the text. -/
def st (L : Nat → Bool) : List Rc → Nat → (Nat → Option C) × (Nat → Option Blk) → (Nat → Option C) × (Nat → Option Blk)
  | [], _, s => s
  | r :: rs, k, s => st L rs (k + 1) (if L k then U r s else s)

theorem updH_not {b : Nat} : ∀ (sets : List (Nat × Option Blk)) (H : Nat → Option Blk), b ∉ sets.map (·.1) → updH H sets b = H b
  | [], _, _ => rfl
  | (x, k) :: r, H, h => by
    simp only [List.map_cons, List.mem_cons, not_or] at h
    simp only [updH]
    rw [updH_not r _ h.2, if_neg h.1]
theorem updH_congr {b : Nat} : ∀ (sets : List (Nat × Option Blk)) (H H' : Nat → Option Blk), H b = H' b → updH H sets b = updH H' sets b
  | [], _, _, h => h
  | (x, k) :: r, H, H', h => by
    simp only [updH]
    refine updH_congr r _ _ ?_
    by_cases hb : b = x
    · simp only [if_pos hb]
    · simp only [if_neg hb]; exact h

theorem st_e {t : Tmp} {L L' : Nat → Bool} : ∀ (rs : List Rc) (k : Nat) (s s' : (Nat → Option C) × (Nat → Option Blk)), (∀ (i : Nat) r, rs[i]? = some r → r.dst = some t → L (k + i) = L' (k + i)) → s.1 t = s'.1 t → (st L rs k s).1 t = (st L' rs k s').1 t
  | [], _, _, _, _, h => h
  | r :: rs, k, s, s', h, hs => by
    simp only [st]
    refine st_e rs (k + 1) _ _ (fun i r' hi hd => by have := h (i + 1) r' (by simpa using hi) hd; simpa [Nat.add_assoc, Nat.add_comm 1 i] using this) ?_
    by_cases hd : r.dst = some t
    · have h0 := h 0 r (by simp) hd
      simp only [Nat.add_zero] at h0
      rw [← h0]
      split
      · simp [U, hd, updE]
      · exact hs
    · have e1 : ∀ x : (Nat → Option C) × (Nat → Option Blk), (U r x).1 t = x.1 t := fun x => by
        simp only [U]
        cases hr : r.dst with
        | none => rfl
        | some d => simp only [updE]; rw [if_neg]; rintro rfl; exact hd hr
      split <;> split <;> simp only [e1, hs]

theorem st_h {b : Nat} {L L' : Nat → Bool} : ∀ (rs : List Rc) (k : Nat) (s s' : (Nat → Option C) × (Nat → Option Blk)), (∀ (i : Nat) r, rs[i]? = some r → b ∈ r.sets.map (·.1) → L (k + i) = L' (k + i)) → s.2 b = s'.2 b → (st L rs k s).2 b = (st L' rs k s').2 b
  | [], _, _, _, _, h => h
  | r :: rs, k, s, s', h, hs => by
    simp only [st]
    refine st_h rs (k + 1) _ _ (fun i r' hi hd => by have := h (i + 1) r' (by simpa using hi) hd; simpa [Nat.add_assoc, Nat.add_comm 1 i] using this) ?_
    by_cases hd : b ∈ r.sets.map (·.1)
    · have h0 := h 0 r (by simp) hd
      simp only [Nat.add_zero] at h0
      rw [← h0]
      split
      · exact updH_congr _ _ _ hs
      · exact hs
    · have e1 : ∀ x : (Nat → Option C) × (Nat → Option Blk), (U r x).2 b = x.2 b := fun x => updH_not _ _ hd
      split <;> split <;> simp only [e1, hs]

/-- Two operations whose effects do not meet. -/
def Clear (r r' : Rc) : Prop := (∀ d, r.dst = some d → r'.dst ≠ some d) ∧ ∀ b, b ∈ r.sets.map (·.1) → b ∉ r'.sets.map (·.1)

theorem updE_comm {e : Nat → Option C} {d d' : Option Tmp} {c c' : C} (h : ∀ x, d = some x → d' ≠ some x) : updE (updE e d c) d' c' = updE (updE e d' c') d c := by
  cases d with
  | none => rfl
  | some x =>
    cases d' with
    | none => rfl
    | some y =>
      have hne : y ≠ x := fun e => h x rfl (by rw [e])
      funext t
      simp only [updE]
      by_cases h1 : t = y <;> by_cases h2 : t = x <;> simp [h1, h2]
      · exact (hne (h1.symm.trans h2)).elim
      · intro h3; exact (hne h3).elim
      · intro h3; exact (hne h3.symm).elim

theorem updH_comm {H : Nat → Option Blk} {x y : List (Nat × Option Blk)} (h : ∀ b, b ∈ x.map (·.1) → b ∉ y.map (·.1)) : updH (updH H x) y = updH (updH H y) x := by
  funext b
  by_cases hx : b ∈ x.map (·.1)
  · have hy := h b hx
    rw [updH_not y _ hy]
    exact updH_congr x _ _ (updH_not y _ hy).symm
  · rw [updH_not x _ hx]
    exact updH_congr y _ _ (updH_not x _ hx)

theorem U_comm {r r' : Rc} (h : Clear r r') (s : (Nat → Option C) × (Nat → Option Blk)) : U r' (U r s) = U r (U r' s) := by
  simp only [U]
  rw [updE_comm h.1, updH_comm h.2]

theorem st_push {L : Nat → Bool} {r : Rc} : ∀ (rs : List Rc) (k : Nat) (s : (Nat → Option C) × (Nat → Option Blk)), (∀ (i : Nat) r', rs[i]? = some r' → L (k + i) = true → Clear r r') → st L rs k (U r s) = U r (st L rs k s)
  | [], _, _, _ => rfl
  | r' :: rs, k, s, h => by
    simp only [st]
    have ih := fun x => st_push rs (k + 1) x (fun i r'' hi hl => h (i + 1) r'' (by simpa using hi) (by simpa [Nat.add_assoc, Nat.add_comm 1 i] using hl))
    split
    · rename_i hk
      rw [U_comm (h 0 r' (by simp) (by simpa using hk)), ih]
    · rw [ih]

theorem st_same {L L' : Nat → Bool} : ∀ (rs : List Rc) (k : Nat) (s : (Nat → Option C) × (Nat → Option Blk)), (∀ i, i < rs.length → L (k + i) = L' (k + i)) → st L rs k s = st L' rs k s
  | [], _, _, _ => rfl
  | r :: rs, k, s, h => by
    simp only [st]
    have h0 := h 0 (by simp)
    simp only [Nat.add_zero] at h0
    rw [h0]
    exact st_same rs (k + 1) _ fun i hi => by have := h (i + 1) (by simp; omega); simpa [Nat.add_assoc, Nat.add_comm 1 i] using this

def upL (L : Nat → Bool) (i : Nat) : Nat → Bool := fun j => if j = i then true else L j

theorem st_insert {L : Nat → Bool} {r : Rc} (n : Nat) : ∀ (rs : List Rc) (k : Nat) (s : (Nat → Option C) × (Nat → Option Blk)), rs[n]? = some r → L (k + n) = false → (∀ (j : Nat) r', n < j → rs[j]? = some r' → L (k + j) = true → Clear r r') →
    st (upL L (k + n)) rs k s = U r (st L rs k s) := by
  induction n with
  | zero =>
    intro rs k s hr hl hc
    cases rs with
    | nil => simp at hr
    | cons r0 rs =>
      simp at hr
      subst hr
      simp only [Nat.add_zero] at hl ⊢
      simp only [st, upL, if_true, hl, Bool.false_eq_true, if_false]
      rw [st_same (L' := L) rs (k + 1) _ (fun i _ => by simp only [upL]; rw [if_neg (by omega)])]
      exact st_push rs (k + 1) s fun i r' hi hli => hc (i + 1) r' (by omega) (by simpa using hi) (by simpa [Nat.add_assoc, Nat.add_comm 1 i] using hli)
  | succ n ih =>
    intro rs k s hr hl hc
    cases rs with
    | nil => simp at hr
    | cons r0 rs =>
      simp only [st]
      have hk : upL L (k + (n + 1)) k = L k := by simp only [upL]; rw [if_neg (by omega)]
      rw [hk]
      have := ih rs (k + 1) (if L k then U r0 s else s) (by simpa using hr) (by rw [show k + 1 + n = k + (n + 1) by omega]; exact hl) fun j r' hj hr' hlj => hc (j + 1) r' (by omega) (by simpa using hr') (by rw [show k + (j + 1) = k + 1 + j by omega]; exact hlj)
      rw [show k + (n + 1) = k + 1 + n by omega]
      exact this

theorem st_all : ∀ (rs : List Rc) (k : Nat) (s : (Nat → Option C) × (Nat → Option Blk)), st (fun _ => true) rs k s = rs.foldl (fun s r => U r s) s
  | [], _, _ => rfl
  | r :: rs, k, s => by simp only [st, if_true, List.foldl_cons]; exact st_all rs (k + 1) _
theorem st_none : ∀ (rs : List Rc) (k : Nat) (s : (Nat → Option C) × (Nat → Option Blk)), (∀ i, i < rs.length → True) → st (fun _ => false) rs k s = s
  | [], _, _, _ => rfl
  | r :: rs, k, s, _ => by simp only [st, Bool.false_eq_true, if_false]; exact st_none rs (k + 1) s fun _ _ => trivial
theorem st_pre (n : Nat) : ∀ (rs : List Rc) (k : Nat) (s : (Nat → Option C) × (Nat → Option Blk)), st (fun j => decide (j < k + n)) rs k s = (rs.take n).foldl (fun s r => U r s) s := by
  induction n with
  | zero =>
    intro rs k s
    rw [st_same (L' := fun _ => false) rs k s fun i _ => by simp]
    simp [st_none]
  | succ n ih =>
    intro rs k s
    cases rs with
    | nil => simp [st]
    | cons r rs =>
      have hk : decide (k < k + (n + 1)) = true := by simp
      simp only [st, hk, if_true, List.take_succ_cons, List.foldl_cons]
      rw [← ih rs (k + 1)]
      rw [show k + (n + 1) = k + 1 + n by omega]

/-! ### What the text alone tells -/
def Deps (L : Nat → Prop) (o : Oper) : Prop := ∀ e, e ∈ o.after → Region.binds .any e = true → L e.on
def Closed (ops : Array Oper) (L : Nat → Prop) : Prop := ∀ (k : Nat) o, ops[k]? = some o → L k → Deps L o

theorem fold_bit {acc : List Nat} {i : Nat} : ∀ (es : List Edge) (s : Nat), (es.foldl (fun s e => if Region.binds .any e then s ||| 2 ^ e.on ||| acc.getD e.on 0 else s) s).testBit i = true →
    s.testBit i = true ∨ ∃ e, e ∈ es ∧ Region.binds .any e = true ∧ (i = e.on ∨ (acc.getD e.on 0).testBit i = true)
  | [], s, h => .inl h
  | e :: es, s, h => by
    simp only [List.foldl_cons] at h
    rcases fold_bit es _ h with h1 | ⟨e', he, hb, hi⟩
    · split at h1
      · rename_i hb
        rw [Nat.testBit_or, Nat.testBit_or, Nat.testBit_two_pow] at h1
        simp only [Bool.or_eq_true, decide_eq_true_eq] at h1
        rcases h1 with (h1 | h1) | h1
        · exact .inl h1
        · exact .inr ⟨e, List.mem_cons_self, hb, .inl h1.symm⟩
        · exact .inr ⟨e, List.mem_cons_self, hb, .inr h1⟩
      · exact .inl h1
    · exact .inr ⟨e', List.mem_cons_of_mem _ he, hb, hi⟩

theorem masks_sound {ops : Array Oper} : ∀ (l : List Oper) (acc : List Nat), (∀ j, l[j]? = ops[acc.length + j]?) →
    (∀ j i, ((acc.getD j 0).testBit i) = true → ∀ L, Closed ops L → (∀ o, ops[j]? = some o → Deps L o) → L i) →
    ∀ j i, (((masks l acc).getD j 0).testBit i) = true → ∀ L, Closed ops L → (∀ o, ops[j]? = some o → Deps L o) → L i
  | [], acc, _, h => h
  | o :: l, acc, hl, h => by
    simp only [masks]
    refine masks_sound l _ (fun j => by have := hl (j + 1); simpa [Nat.add_assoc, Nat.add_comm 1 j] using this) ?_
    intro j i hb L hc hd
    have ho : ops[acc.length]? = some o := by have := hl 0; simpa using this.symm
    by_cases hj : j < acc.length
    · refine h j i ?_ L hc hd
      rw [List.getD_eq_getElem?_getD, List.getElem?_append_left hj, ← List.getD_eq_getElem?_getD] at hb
      exact hb
    · by_cases hj2 : j = acc.length
      · subst hj2
        rw [List.getD_eq_getElem?_getD, List.getElem?_append_right (Nat.le_refl _)] at hb
        simp only [Nat.sub_self, List.getElem?_cons_zero, Option.getD_some] at hb
        rcases fold_bit _ _ hb with h1 | ⟨e, he, hbi, hi⟩
        · simp at h1
        · have hdep := hd o ho
          have hon : L e.on := hdep e (by simpa using he) hbi
          rcases hi with rfl | hi
          · exact hon
          · exact h e.on i hi L hc fun o' ho' => hc e.on o' ho' hon
      · rw [List.getD_eq_getElem?_getD, List.getElem?_eq_none (by simp; omega)] at hb
        simp at hb

theorem apartTail_spec {bf : List Nat} {ops : Array Oper} {i : Nat} {x : Oper} : ∀ (l : List Oper) (k : Nat), apartTail bf ops i x l k = true → ∀ (j : Nat) y, l[j]? = some y → (bf.getD (k + j) 0).testBit i = true ∨ x.apart ops y = true
  | [], _, _, j, y, h => by simp at h
  | z :: l, k, ha, j, y, h => by
    simp only [apartTail, Bool.and_eq_true, Bool.or_eq_true] at ha
    cases j with
    | zero => simp at h; subst h; simpa using ha.1
    | succ j =>
      have := apartTail_spec l (k + 1) ha.2 j y (by simpa using h)
      rw [show k + (j + 1) = k + 1 + j by omega]
      exact this
theorem apartAll_spec {bf : List Nat} {ops : Array Oper} : ∀ (l : List Oper) (k : Nat), apartAll bf ops l k = true → ∀ (i j : Nat) x y, i < j → l[i]? = some x → l[j]? = some y → (bf.getD (k + j) 0).testBit (k + i) = true ∨ x.apart ops y = true
  | [], _, _, i, j, x, y, _, h, _ => by simp at h
  | z :: l, k, ha, i, j, x, y, hij, hx, hy => by
    simp only [apartAll, Bool.and_eq_true] at ha
    cases j with
    | zero => omega
    | succ j =>
      cases i with
      | zero =>
        simp at hx
        subst hx
        have := apartTail_spec l (k + 1) ha.1 j y (by simpa using hy)
        rw [show k + (j + 1) = k + 1 + j by omega, Nat.add_zero]
        exact this
      | succ i =>
        have := apartAll_spec l (k + 1) ha.2 i j x y (by omega) (by simpa using hx) (by simpa using hy)
        rw [show k + (j + 1) = k + 1 + j by omega, show k + (i + 1) = k + 1 + i by omega]
        exact this
theorem freeTail_spec {bf : List Nat} {i : Nat} {x : List Nat × List Nat} : ∀ (l : List (List Nat × List Nat)) (k : Nat), freeTail bf i x l k = true → ∀ (j : Nat) y, l[j]? = some y → (bf.getD (k + j) 0).testBit i = true ∨ meet x y = true
  | [], _, _, j, y, h => by simp at h
  | z :: l, k, ha, j, y, h => by
    simp only [freeTail, Bool.and_eq_true, Bool.or_eq_true] at ha
    cases j with
    | zero => simp at h; subst h; simpa using ha.1
    | succ j =>
      have := freeTail_spec l (k + 1) ha.2 j y (by simpa using h)
      rw [show k + (j + 1) = k + 1 + j by omega]
      exact this
theorem freeAll_spec {bf : List Nat} : ∀ (l : List (List Nat × List Nat)) (k : Nat), freeAll bf l k = true → ∀ (i j : Nat) x y, i < j → l[i]? = some x → l[j]? = some y → (bf.getD (k + j) 0).testBit (k + i) = true ∨ meet x y = true
  | [], _, _, i, j, x, y, _, h, _ => by simp at h
  | z :: l, k, ha, i, j, x, y, hij, hx, hy => by
    simp only [freeAll, Bool.and_eq_true] at ha
    cases j with
    | zero => omega
    | succ j =>
      cases i with
      | zero =>
        simp at hx
        subst hx
        have := freeTail_spec l (k + 1) ha.1 j y (by simpa using hy)
        rw [show k + (j + 1) = k + 1 + j by omega, Nat.add_zero]
        exact this
      | succ i =>
        have := freeAll_spec l (k + 1) ha.2 i j x y (by omega) (by simpa using hx) (by simpa using hy)
        rw [show k + (j + 1) = k + 1 + j by omega, show k + (i + 1) = k + 1 + i by omega]
        exact this
theorem meet_spec {a b : List Nat × List Nat} (h : meet a b = true) : (∀ x, x ∈ a.1 → x ∉ b.1 ∧ x ∉ b.2) ∧ ∀ x, x ∈ b.1 → x ∉ a.2 := by
  unfold meet at h
  simp only [Bool.and_eq_true, List.all_eq_true, Bool.not_eq_true', List.contains_eq_mem, decide_eq_false_iff_not] at h
  exact ⟨fun x hx => h.1 x hx, fun x hx => h.2 x hx⟩
theorem edgesOk_spec : ∀ (l : List Oper) (k : Nat), edgesOk l k = true → ∀ (i : Nat) o, l[i]? = some o → (∀ e, e ∈ o.after → Region.binds .any e = true → e.on < k + i) ∧ ∀ cs b, o.op ≠ .select cs b
  | [], _, _, i, o, h => by simp at h
  | z :: l, k, ha, i, o, h => by
    simp only [edgesOk, Bool.and_eq_true, List.all_eq_true, Bool.or_eq_true, Bool.not_eq_true', decide_eq_true_eq] at ha
    cases i with
    | zero =>
      simp at h
      subst h
      refine ⟨fun e he hb => ?_, fun cs b hs => ?_⟩
      · rcases ha.1.1 e (by simpa using he) with h1 | h1
        · rw [hb] at h1; cases h1
        · simpa using h1
      · have := ha.1.2; rw [hs] at this; cases this
    | succ i =>
      have := edgesOk_spec l (k + 1) ha.2 i o (by simpa using h)
      rw [show k + (i + 1) = k + 1 + i by omega]
      exact this

/-! ### The trace of the order of the text -/
theorem runO_recs {P : Program} {G : Nat → Option (List T)} {nt : Nat} {ops : Array Oper} : ∀ (l : List Oper) (id : Nat) (s s' : S) (tr : List (List Nat × List Nat)), RunR P G nt ops l id s s' tr →
    ∃ recs : List Rc, recs.length = l.length ∧ tr = recs.map (fun r => (r.sets.map (·.1), r.fp)) ∧ (s'.e, s'.h) = recs.foldl (fun s r => U r s) (s.e, s.h) ∧ s.heap.length ≤ s'.heap.length ∧
      ∀ (i : Nat) o, l[i]? = some o → ∃ r, recs[i]? = some r ∧ r.dst = o.dst ∧ Does P G nt ops o (id + total (l.take i)) ((recs.take i).foldl (fun s r => U r s) (s.e, s.h)).1 ((recs.take i).foldl (fun s r => U r s) (s.e, s.h)).2 ⟨r.val, r.sets, r.fp⟩
  | [], id, s, s', tr, h => by
    cases h
    exact ⟨[], rfl, rfl, rfl, Nat.le_refl _, fun i o h => by simp at h⟩
  | o :: l, id, s, s', tr, h => by
    cases h with
    | @cons _ _ _ _ s1 _ eff tr' hdo h1 h2 hlen hrun =>
      obtain ⟨recs, g1, g2, g3, g4, g5⟩ := runO_recs l (id + nalloc o) s1 s' tr' hrun
      have hU : U ⟨o.dst, eff.val, eff.sets, eff.fp⟩ (s.e, s.h) = (s1.e, s1.h) := by simp only [U, h1, h2]
      refine ⟨⟨o.dst, eff.val, eff.sets, eff.fp⟩ :: recs, by simp [g1], by simp [g2], by simp only [List.foldl_cons, hU]; exact g3, Nat.le_trans hlen g4, ?_⟩
      intro i o' hi
      cases i with
      | zero =>
        simp at hi
        subst hi
        refine ⟨⟨o.dst, eff.val, eff.sets, eff.fp⟩, by simp, rfl, ?_⟩
        simp only [List.take_zero, total, List.map_nil, List.sum_nil, Nat.add_zero, List.foldl_nil]
        exact hdo
      | succ i =>
        obtain ⟨r, q1, q2, q3⟩ := g5 i o' (by simpa using hi)
        refine ⟨r, by simpa using q1, q2, ?_⟩
        simp only [List.take_succ_cons, List.foldl_cons, hU]
        have : id + total (o :: l.take i) = id + nalloc o + total (l.take i) := by simp [total]; omega
        rw [this]
        exact q3

theorem total_take_succ {l : List Oper} {i : Nat} {o : Oper} (h : l[i]? = some o) : total (l.take (i + 1)) = total (l.take i) + nalloc o := by
  rw [List.take_add_one, h]
  simp [total]
theorem total_take_le (l : List Oper) : ∀ {i j : Nat}, i ≤ j → total (l.take i) ≤ total (l.take j) := by
  intro i j h
  induction h with
  | refl => exact Nat.le_refl _
  | step _ ih =>
    rename_i m _
    refine Nat.le_trans ih ?_
    rw [List.take_add_one]
    simp [total]
theorem total_take_all (l : List Oper) (i : Nat) : total (l.take i) ≤ total l := by
  have := total_take_le l (i := i) (j := max i l.length) (Nat.le_max_left _ _)
  rwa [List.take_of_length_le (Nat.le_max_right _ _)] at this
end Go.Va
namespace Go.Va
open Go Go.RowKit

section
variable {P : Program} {G : Nat → Option (List T)} {base nt : Nat} {w0 : Base} {ops : Array Oper}

/-- What the draw's proof holds on to, 'listed' having come up. -/
structure Drawn (G : Nat → Option (List T)) (base nt : Nat) (w0 : Base) (ops : Array Oper) (recs : List Rc) (id : Nat) (s0 : (Nat → Option C) × (Nat → Option Blk)) (listed : Array Bool) (a : Act) (w : World) : Prop where
  size : listed.size = ops.size
  closed : Closed ops fun k => listed.getD k false = true
  sim : ∃ ρ I, Sim G base w0 nt ρ I (st (fun j => listed.getD j false) recs 0 s0).1 (st (fun j => listed.getD j false) recs 0 s0).2 a w ∧
    (∀ (i : Nat) o, ops[i]? = some o → listed.getD i true = false → ∀ b, id + total (ops.toList.take i) ≤ b → b < id + total (ops.toList.take i) + nalloc o → ρ b = none) ∧
    ∀ b, id + total ops.toList ≤ b → ρ b = none

/-- What is known of the region from its text and from the trace of the text's order. -/
structure Known (P : Program) (G : Nat → Option (List T)) (nt : Nat) (ops : Array Oper) (recs : List Rc) (id : Nat) (s0 : (Nat → Option C) × (Nat → Option Blk)) : Prop where
  len : recs.length = ops.size
  edges : ∀ (i : Nat) o, ops[i]? = some o → (∀ e, e ∈ o.after → Region.binds .any e = true → e.on < i) ∧ ∀ cs b, o.op ≠ .select cs b
  /-- two operations that no edge puts in order -/
  apart : ∀ (i j : Nat) x y, i < j → ops[i]? = some x → ops[j]? = some y → (∀ L, Closed ops L → (Deps L y) → L i) ∨ x.apart ops y = true
  free : ∀ (i j : Nat) y r r', i < j → ops[j]? = some y → recs[i]? = some r → recs[j]? = some r' → (∀ L, Closed ops L → (Deps L y) → L i) ∨
    ((∀ b, b ∈ r.sets.map (·.1) → b ∉ r'.sets.map (·.1) ∧ b ∉ r'.fp) ∧ ∀ b, b ∈ r'.sets.map (·.1) → b ∉ r.fp)
  does : ∀ (i : Nat) o, ops[i]? = some o → ∃ r, recs[i]? = some r ∧ r.dst = o.dst ∧
    Does P G nt ops o (id + total (ops.toList.take i)) (st (fun j => decide (j < i)) recs 0 s0).1 (st (fun j => decide (j < i)) recs 0 s0).2 ⟨r.val, r.sets, r.fp⟩

theorem getD_tf {listed : Array Bool} {i : Nat} (h : i < listed.size) : listed.getD i true = listed.getD i false := by simp [h]

theorem updH_same : ∀ (sets : List (Nat × Option Blk)) (H H' : Nat → Option Blk) (b : Nat), H b = H' b → updH H sets b = updH H' sets b
  | [], H, H', b, h => h
  | (c, k) :: r, H, H', b, h => by
    simp only [updH]
    exact updH_same r _ _ b (by simp only [h])

/-- The operation that has come up does what it does in the order of the text. -/
theorem Known.now {recs : List Rc} {id : Nat} {s0 : (Nat → Option C) × (Nat → Option Blk)} (kn : Known P G nt ops recs id s0) {listed : Array Bool} (hsz : listed.size = ops.size)
    (hcl : Closed ops fun k => listed.getD k false = true) {i : Nat} {o : Oper} {r : Rc} (ho : ops[i]? = some o) (hr : recs[i]? = some r) (hun : listed.getD i true = false) (hdep : Deps (fun k => listed.getD k false = true) o) :
    (∀ (j : Nat) r', i < j → recs[j]? = some r' → listed.getD j false = true → Clear r r') ∧
    (Does P G nt ops o (id + total (ops.toList.take i)) (st (fun j => decide (j < i)) recs 0 s0).1 (st (fun j => decide (j < i)) recs 0 s0).2 ⟨r.val, r.sets, r.fp⟩ →
     Does P G nt ops o (id + total (ops.toList.take i)) (st (fun j => listed.getD j false) recs 0 s0).1 (st (fun j => listed.getD j false) recs 0 s0).2 ⟨r.val, r.sets, r.fp⟩) := by
  have hilt : i < ops.size := (Array.getElem?_eq_some_iff.1 ho).1
  have hunf : listed.getD i false = false := by rw [← getD_tf (by omega)]; exact hun
  have hdst : ∀ (j : Nat) r' y, recs[j]? = some r' → ops[j]? = some y → r'.dst = y.dst := fun j r' y h1 h2 => by
    obtain ⟨r2, q1, q2, _⟩ := kn.does j y h2
    have := eq_of_some h1 q1
    subst this
    exact q2
  have hopj : ∀ (j : Nat) r', recs[j]? = some r' → ∃ y, ops[j]? = some y := fun j r' h => by
    have : j < ops.size := by rw [← kn.len]; exact (List.getElem?_eq_some_iff.1 h).1
    exact ⟨ops[j], by simp [this]⟩
  -- no later one that has come up waits for this one
  have later : ∀ (j : Nat) y, ops[j]? = some y → listed.getD j false = true → ¬ ∀ L, Closed ops L → (Deps L y) → L i := fun j y hy hl hall => by
    have := hall (fun k => listed.getD k false = true) hcl (hcl j y hy hl)
    rw [hunf] at this
    cases this
  -- every earlier one that has not come up is none that this one waits for
  have earlier : ∀ (j : Nat), listed.getD j false = false → ¬ ∀ L, Closed ops L → (Deps L o) → L j := fun j hl hall => by
    have := hall (fun k => listed.getD k false = true) hcl hdep
    rw [hl] at this
    cases this
  have hap1 : ∀ (j : Nat) y, i < j → ops[j]? = some y → listed.getD j false = true → o.apart ops y = true := fun j y hij hy hl => (kn.apart i j o y hij ho hy).resolve_left (later j y hy hl)
  have hap2 : ∀ (j : Nat) y, j < i → ops[j]? = some y → listed.getD j false = false → y.apart ops o = true := fun j y hij hy hl => (kn.apart j i y o hij hy ho).resolve_left (earlier j hl)
  have hfr1 : ∀ (j : Nat) y r', i < j → ops[j]? = some y → recs[j]? = some r' → listed.getD j false = true → ((∀ b, b ∈ r.sets.map (·.1) → b ∉ r'.sets.map (·.1) ∧ b ∉ r'.fp) ∧ ∀ b, b ∈ r'.sets.map (·.1) → b ∉ r.fp) :=
    fun j y r' hij hy hr' hl => (kn.free i j y r r' hij hy hr hr').resolve_left (later j y hy hl)
  have hfr2 : ∀ (j : Nat) r', j < i → recs[j]? = some r' → listed.getD j false = false → ((∀ b, b ∈ r'.sets.map (·.1) → b ∉ r.sets.map (·.1) ∧ b ∉ r.fp) ∧ ∀ b, b ∈ r.sets.map (·.1) → b ∉ r'.fp) :=
    fun j r' hij hr' hl => (kn.free j i o r' r hij ho hr' hr).resolve_left (earlier j hl)
  have hro : r.dst = o.dst := hdst i r o hr ho
  refine ⟨fun j r' hij hr' hl => ?_, fun hdo => ?_⟩
  · obtain ⟨y, hy⟩ := hopj j r' hr'
    obtain ⟨a1, a2, a3⟩ := Oper.apart_spec (hap1 j y hij hy hl)
    refine ⟨fun d hd => ?_, fun b hb => ((hfr1 j y r' hij hy hr' hl).1 b hb).1⟩
    rw [hdst j r' y hr' hy]
    exact a2 d (hro ▸ hd)
  · -- the temporaries that it looks at
    have hE : ∀ t, t ∈ o.looksAt ops → (st (fun j => listed.getD j false) recs 0 s0).1 t = (st (fun j => decide (j < i)) recs 0 s0).1 t := fun t ht => by
      refine st_e recs 0 _ _ (fun j r' hr' hd => ?_) rfl
      obtain ⟨y, hy⟩ := hopj j r' hr'
      have hyd : y.dst = some t := (hdst j r' y hr' hy) ▸ hd
      simp only [Nat.zero_add]
      rcases Nat.lt_trichotomy j i with h | h | h
      · cases hl : listed.getD j false with
        | true => simp [h]
        | false => exact ((Oper.apart_spec (hap2 j y h hy hl)).1 t hyd ht).elim
      · subst h; rw [hunf]; simp
      · cases hl : listed.getD j false with
        | false => simp; omega
        | true => exact ((Oper.apart_spec (hap1 j y h hy hl)).2.2 t hyd ht).elim
    have hH : ∀ b, b ∈ r.fp → (st (fun j => listed.getD j false) recs 0 s0).2 b = (st (fun j => decide (j < i)) recs 0 s0).2 b := fun b hb => by
      refine st_h recs 0 _ _ (fun j r' hr' hd => ?_) rfl
      simp only [Nat.zero_add]
      rcases Nat.lt_trichotomy j i with h | h | h
      · cases hl : listed.getD j false with
        | true => simp [h]
        | false => exact (((hfr2 j r' h hr' hl).1 b hd).2 hb).elim
      · subst h; rw [hunf]; simp
      · cases hl : listed.getD j false with
        | false => simp; omega
        | true =>
          obtain ⟨y, hy⟩ := hopj j r' hr'
          exact ((hfr1 j y r' h hy hr' hl).2 b hd hb).elim
    have hev : ∀ x, x ∈ o.op.operands → ev G (st (fun j => listed.getD j false) recs 0 s0).1 x = ev G (st (fun j => decide (j < i)) recs 0 s0).1 x := fun x hx => by
      cases x with
      | tmp t => exact hE t (List.mem_append_left _ (List.mem_filterMap.2 ⟨.tmp t, by simpa using hx, rfl⟩))
      | _ => rfl
    have hwant : wantC ops (st (fun j => listed.getD j false) recs 0 s0).1 o = wantC ops (st (fun j => decide (j < i)) recs 0 s0).1 o := by
      unfold wantC
      cases hg : o.guard with
      | none => rfl
      | some q =>
        obtain ⟨g, want⟩ := q
        simp only
        have : yieldC ops (st (fun j => listed.getD j false) recs 0 s0).1 g = yieldC ops (st (fun j => decide (j < i)) recs 0 s0).1 g := by
          unfold yieldC
          cases hd : (ops[g]?).bind (·.dst) with
          | none => rfl
          | some d =>
            simp only
            rw [hE d (List.mem_append_right _ (by simp [hg, hd]))]
        rw [this]
    obtain ⟨hd, hw⟩ := hdo
    refine ⟨hd, ?_⟩
    rcases hw with ⟨hw, ⟨rc, eff0, hrc, hop, hfr⟩ | hdo⟩ | ⟨hw, he⟩
    rotate_left
    · obtain ⟨f, cs, hin, res, hout, h1, h2, h3, h4, h5, h6, h7, h8⟩ := hdo
      have hfp : r.fp = hin.map (·.1) := congrArg Eff.fp h8
      refine .inl ⟨by rw [hwant]; exact hw, .inr ⟨f, cs, hin, res, hout, by rw [callee_local fun x hx => hev x hx]; exact h1, h2, h3, h4, fun b k hk => ?_, h6, h7, h8⟩⟩
      obtain ⟨k1, k2⟩ := h5 b k hk
      exact ⟨by rw [← k1]; exact hH b (by rw [hfp]; exact hOf_mem hk), k2⟩
    rotate_left
    · have hfp : ∀ b, b ∈ eff0.fp → b ∈ r.fp := fun b hb => by
        rcases hfr with h | ⟨t, ms, _, _, _, h⟩ | ⟨t, _, _, _, h⟩
        · have : r.fp = eff0.fp := by rw [← h]
          rw [this]; exact hb
        · have : r.fp = eff0.fp ++ ms := congrArg Eff.fp h
          rw [this]; exact List.mem_append.2 (.inl hb)
        · have : r.fp = eff0.fp := congrArg Eff.fp h
          rw [this]; exact hb
      refine .inl ⟨by rw [hwant]; exact hw, .inl ⟨rc, eff0, hrc, opc_local hop (fun x hx => hev x hx) fun b hb => (hH b (hfp b hb)).symm, ?_⟩⟩
      rcases hfr with h | ⟨t, ms, t', hf, hle, h⟩ | ⟨t, t', hf, hle, h⟩
      · exact .inl h
      rotate_left
      · exact .inr (.inr ⟨t, t', hf, hle, h⟩)
      · have hms : ∀ b, b ∈ ms → b ∈ r.fp := fun b hb => by
          have : r.fp = eff0.fp ++ ms := congrArg Eff.fp h
          rw [this]; exact List.mem_append.2 (.inr hb)
        have hag : ∀ b, b ∈ ms → updH (st (fun j => decide (j < i)) recs 0 s0).2 eff0.sets b = updH (st (fun j => listed.getD j false) recs 0 s0).2 eff0.sets b := fun b hb => updH_same _ _ _ b (hH b (hms b hb)).symm
        refine .inr (.inl ⟨t, ms, t', frz_local deep _ t ms hf hag, hle, ?_⟩)
        rw [marks_local ms hag]
        exact h
    · exact .inr ⟨by rw [hwant]; exact hw, he⟩

theorem cnt_set {listed : Array Bool} {i : Nat} (hi : listed.getD i true = false) : ∀ (l : List Nat), l.Nodup → i ∈ l → (l.countP fun j => !(listed.setIfInBounds i true).getD j true) + 1 = l.countP fun j => !listed.getD j true
  | [], _, h => by cases h
  | j :: l, hn, h => by
    simp only [List.nodup_cons] at hn
    have hilt : i < listed.size := by
      rcases Nat.lt_or_ge i listed.size with h' | h'
      · exact h'
      · simp [Array.getElem?_eq_none h'] at hi
    by_cases hij : i = j
    · subst hij
      have h1 : (l.countP fun j => !(listed.setIfInBounds i true).getD j true) = l.countP fun j => !listed.getD j true := by
        apply List.countP_congr
        intro x hx
        have : i ≠ x := fun e => hn.1 (e ▸ hx)
        rw [getD_set_ne true this]
      have h2 : (listed.setIfInBounds i true).getD i true = true := by simp
      rw [List.countP_cons, List.countP_cons, h1, h2, hi]
      simp
    · have hmem : i ∈ l := by
        rcases List.mem_cons.1 h with h | h
        · exact (hij h).elim
        · exact h
      have := cnt_set hi l hn.2 hmem
      rw [List.countP_cons, List.countP_cons, getD_set_ne true hij]
      omega

theorem any_sound (hb : base ≤ w0.w.heap.size) {recs : List Rc} {id : Nat} {s0 : (Nat → Option C) × (Nat → Option Blk)} (kn : Known P G nt ops recs id s0) {Q : Exit → Act → World → Prop}
    (hq : ∀ ρ I a w, Sim G base w0 nt ρ I (recs.foldl (fun s r => U r s) s0).1 (recs.foldl (fun s r => U r s) s0).2 a w → (∀ b, id + total ops.toList ≤ b → ρ b = none) → Q .normal a w) :
    ∀ (fuel : Nat) (listed : Array Bool) (a : Act) (w : World), Drawn G base nt w0 ops recs id s0 listed a w → ((List.range ops.size).countP fun j => !listed.getD j true) = fuel → wpAny P .any ops Q fuel listed a w := by
  intro fuel
  have fin : ∀ (listed : Array Bool) (a : Act) (w : World), Drawn G base nt w0 ops recs id s0 listed a w → (∀ i, i < ops.size → listed.getD i true = true) → Q .normal a w := fun listed a w hd hall => by
    obtain ⟨ρ, I, hs, _, hf⟩ := hd.sim
    have : st (fun j => listed.getD j false) recs 0 s0 = recs.foldl (fun s r => U r s) s0 := by
      rw [← st_all recs 0, st_same (L' := fun _ => true) recs 0 s0]
      intro i hi
      rw [kn.len] at hi
      simp only [Nat.zero_add]
      rw [← getD_tf (by rw [hd.size]; exact hi)]
      exact hall i hi
    rw [this] at hs
    exact hq ρ I a w hs hf
  induction fuel with
  | zero =>
    intro listed a w hd hc
    have hall : ∀ i, i < ops.size → listed.getD i true = true := fun i hi => by
      have := List.countP_eq_zero.1 hc i (List.mem_range.2 hi)
      simpa using this
    refine ⟨?_, fin listed a w hd hall⟩
    rw [List.eq_nil_iff_forall_not_mem]
    intro i hi
    obtain ⟨h1, o, ho, _⟩ := mem_ready.1 hi
    rw [hall i (Array.getElem?_eq_some_iff.1 ho).1] at h1
    cases h1
  | succ fuel ih =>
    intro listed a w hd hc
    refine ⟨fun h0 => ?_, fun i hi => ?_⟩
    · -- something may always come up
      exfalso
      have key : ∀ n, n ≤ ops.size → ∀ i, i < n → listed.getD i true = true := by
        intro n
        induction n with
        | zero => intro _ i hi; omega
        | succ n ihn =>
          intro hn i hi
          by_cases hin : i < n
          · exact ihn (by omega) i hin
          · have hie : i = n := by omega
            subst hie
            cases hl : listed.getD i true with
            | true => rfl
            | false =>
              exfalso
              have ho : ops[i]? = some ops[i] := by simp [show i < ops.size by omega]
              have : i ∈ Region.ready .any ops listed := mem_ready.2 ⟨hl, ops[i], ho, fun e he hbi => by
                have hlt := (kn.edges i _ ho).1 e he hbi
                have := ihn (by omega) e.on hlt
                rw [← getD_tf (by rw [hd.size]; omega)]
                exact this⟩
              rw [h0] at this
              cases this
      have hz : ((List.range ops.size).countP fun j => !listed.getD j true) = 0 := by
        rw [List.countP_eq_zero]
        intro i hi
        rw [key ops.size (Nat.le_refl _) i (List.mem_range.1 hi)]
        simp
      omega
    · obtain ⟨hun, o, ho, hdep⟩ := mem_ready.1 hi
      have hilt : i < ops.size := (Array.getElem?_eq_some_iff.1 ho).1
      obtain ⟨ρ, I, hs, hf1, hf2⟩ := hd.sim
      obtain ⟨r, hr, hrd, hdo⟩ := kn.does i o ho
      obtain ⟨hclear, hnow⟩ := kn.now hd.size hd.closed ho hr hun (fun e he hbi => hdep e he hbi)
      have hunf : listed.getD i false = false := by rw [← getD_tf (by rw [hd.size]; omega)]; exact hun
      refine does_sound hs hb ho (hf1 i o ho hun) (hnow hdo) fun v ρ' I' w' hs' hr' hout => ?_
      refine ih _ _ _ ⟨by simp [hd.size], ?_, ρ', I', ?_, ?_, ?_⟩ ?_
      · intro k y hy hk e he hbi
        by_cases hki : i = k
        · subst hki
          have := eq_of_some ho hy
          subst this
          exact getD_set_true (hdep e he hbi)
        · rw [getD_set_ne false hki] at hk
          exact getD_set_true (hd.closed k y hy hk e he hbi)
      · have e1 : st (fun j => (listed.setIfInBounds i true).getD j false) recs 0 s0 = U r (st (fun j => listed.getD j false) recs 0 s0) := by
          have := st_insert (L := fun j => listed.getD j false) (r := r) i recs 0 s0 hr (by simpa using hunf) (fun j r' hj hr' hl => hclear j r' hj hr' (by simpa using hl))
          rw [← this]
          refine st_same recs 0 s0 fun j hj => ?_
          simp only [Nat.zero_add, upL]
          by_cases hji : j = i
          · subst hji
            have : j < listed.size := by rw [hd.size]; exact hilt
            simp [this]
          · rw [if_neg hji, getD_set_ne false (Ne.symm hji)]
        rw [e1]
        simp only [U, hrd]
        exact hs'
      · intro j y hy hl b hb1 hb2
        have hji : i ≠ j := fun e => by
          subst e
          have : i < listed.size := by rw [hd.size]; exact hilt
          simp [this] at hl
        rw [getD_set_ne true hji] at hl
        rw [hout b ?_]
        · exact hf1 j y hy hl b hb1 hb2
        · rintro ⟨h1, h2⟩
          rcases Nat.lt_or_gt_of_ne hji with h | h
          · have q1 := total_take_succ (l := ops.toList) (i := i) (o := o) (by simpa using ho)
            have q2 := total_take_le ops.toList (i := i + 1) (j := j) h
            omega
          · have q1 := total_take_succ (l := ops.toList) (i := j) (o := y) (by simpa using hy)
            have q2 := total_take_le ops.toList (i := j + 1) (j := i) h
            omega
      · intro b hb1
        rw [hout b ?_]
        · exact hf2 b hb1
        · rintro ⟨h1, h2⟩
          have q1 := total_take_succ (l := ops.toList) (i := i) (o := o) (by simpa using ho)
          have q2 := total_take_all ops.toList (i + 1)
          omega
      · have := cnt_set hun (List.range ops.size) List.nodup_range (List.mem_range.2 hilt)
        omega

theorem region_sound (hm : P.follows .mixedOrders = true) (hb : base ≤ w0.w.heap.size) {s s' : S} {rid : Nat} {draw : Bool} {Q : Exit → Act → World → Prop} {ρ : Nat → Option Nat} {I : Nat → Prop} {a : Act} {w : World}
    (hs : SimS G base w0 nt ρ I s a w) (h : RegionR P G nt ops draw s s') (hq : ∀ ρ' I' a' w', SimS G base w0 nt ρ' I' s' a' w' → Q .normal a' w') : (Code.region rid ops draw).wp P Q a w := by
  cases draw with
  | false => exact region_plain hb hs h hq
  | true =>
    obtain ⟨tr, hrun, hc⟩ := h
    simp only [Bool.not_true, Bool.false_or, Bool.and_eq_true, drawOk] at hc
    obtain ⟨⟨hc1, hc2⟩, hc3⟩ := hc
    obtain ⟨recs, g1, g2, g3, g4, g5⟩ := runO_recs _ _ _ _ _ hrun
    have hsz : recs.length = ops.size := by simpa using g1
    have hmask : ∀ j i, (((masks ops.toList []).getD j 0).testBit i) = true → ∀ L, Closed ops L → (∀ o, ops[j]? = some o → Deps L o) → L i :=
      masks_sound ops.toList [] (fun j => by simp) (fun j i h => by simp at h)
    let s0 : (Nat → Option C) × (Nat → Option Blk) := ((S.mk s.env (s.heap ++ List.replicate (total ops.toList) none)).e, (S.mk s.env (s.heap ++ List.replicate (total ops.toList) none)).h)
    have kn : Known P G nt ops recs s.heap.length s0 := by
      refine ⟨hsz, fun i o ho => ?_, fun i j x y hij hx hy => ?_, fun i j y r r' hij hy hr hr' => ?_, fun i o ho => ?_⟩
      · have := edgesOk_spec ops.toList 0 hc1 i o (by simpa using ho)
        simpa using this
      · rcases apartAll_spec ops.toList 0 hc2 i j x y hij (by simpa using hx) (by simpa using hy) with h1 | h1
        · simp only [Nat.zero_add] at h1
          exact .inl fun L hL hd => hmask j i h1 L hL fun o ho => by rw [hy] at ho; cases ho; exact hd
        · exact .inr h1
      · have t1 : tr[i]? = some (r.sets.map (·.1), r.fp) := by rw [g2, List.getElem?_map, hr]; rfl
        have t2 : tr[j]? = some (r'.sets.map (·.1), r'.fp) := by rw [g2, List.getElem?_map, hr']; rfl
        rcases freeAll_spec tr 0 hc3 i j _ _ hij t1 t2 with h1 | h1
        · simp only [Nat.zero_add] at h1
          exact .inl fun L hL hd => hmask j i h1 L hL fun o ho => by rw [hy] at ho; cases ho; exact hd
        · exact .inr (meet_spec h1)
      · obtain ⟨r, q1, q2, q3⟩ := g5 i o (by simpa using ho)
        refine ⟨r, q1, q2, ?_⟩
        have e1 : st (fun j => decide (j < i)) recs 0 s0 = (recs.take i).foldl (fun s r => U r s) s0 := by
          have := st_pre i recs 0 s0
          simpa using this
        rw [e1]
        exact q3
    refine wp_region_any hm (any_sound hb kn (fun ρ' I' a' w' hs' hf => hq ρ' I' a' w' ⟨?_, fun b hb => hf b ?_⟩) ops.size _ a _ ?_ ?_)
    · have : (s'.e, s'.h) = recs.foldl (fun s r => U r s) s0 := g3
      rw [← this] at hs'
      exact hs'
    · simp only [List.length_append, List.length_replicate] at g4
      omega
    · have hnone : st (fun j => (Array.replicate ops.size false).getD j false) recs 0 s0 = s0 := by
        rw [st_same (L' := fun _ => false) recs 0 s0 (fun j _ => by simp only [Nat.zero_add]; rcases Nat.lt_or_ge j ops.size with h | h <;> simp [h]), st_none recs 0 s0 fun _ _ => trivial]
      refine ⟨by simp, fun k y hy hk => ?_, ρ, I, ?_, fun i o ho hl b hb1 hb2 => hs.2 b (by omega), fun b hb1 => hs.2 b (by omega)⟩
      · exfalso
        rcases Nat.lt_or_ge k ops.size with h | h <;> simp [h] at hk
      · rw [hnone]
        have e1 : (S.mk s.env (s.heap ++ List.replicate (total ops.toList) none)).h = s.h := heapF_pad _ _
        have hsd : Sim G base w0 nt ρ I s.e s.h a { w with drawn := w.drawn + 1 } := ⟨hs.1.mem.drew, hs.1.defers, hs.1.tm, hs.1.env⟩
        show Sim G base w0 nt ρ I s0.1 s0.2 a _
        have e2 : s0.2 = s.h := e1
        rw [e2]
        exact hsd
    · rw [List.countP_eq_length_filter]
      have : (List.range ops.size).filter (fun j => !(Array.replicate ops.size false).getD j true) = List.range ops.size := by
        rw [List.filter_eq_self]
        intro j hj
        have := List.mem_range.1 hj
        simp [this]
      rw [this]
      simp
end
end Go.Va
