/- The plain law: what holds at every step. The plain law: the writer's steps keep what holds. The plain law: the writer's steps keep what holds (2). Worlds of a writer and two readers. -/
import Derived.Test.YtiegfchaepbnbaaGreatDoorP22
namespace Go.Proofs.YtiegfchaepbnbaaGreatDoor
open Go Go.RowKit Go.Va
set_option maxHeartbeats 1000000
def WR.cur (w : WR) : Int := (w.root.v - 1) % 16
def WR.hasOld (w : WR) : Prop := match w.c with
  | .u2 _ => True | .u3 => True | _ => False
def WR.rest (w : WR) : List Int := w.free ++ w.bag.map It.b
def WR.blocks (w : WR) : List Int := match w.c with
  | .u2 _ => w.cur :: w.old :: w.rest
  | .u3 => w.cur :: w.old :: w.rest
  | _ => w.cur :: w.rest
structure WInv (w : WR) (f : Nat → Wd) (k : Int) : Prop where
  e1 : 1 ≤ (f 1).v
  e2 : (f 1).v ≤ k
  ea : ∀ o, w.c = .a1 o → f 1 = o
  rt : match w.c with | .u2 o => f 56 = o ∧ o.v = w.gen w.old.toNat * 16 + w.old + 1 | _ => f 56 = w.root
  rv : w.root.v = w.gen w.cur.toNat * 16 + w.cur + 1
  ra : 0 ≤ w.root.a ∧ w.root.a ≤ k
  part : w.blocks.Perm [0, 1, 2, 3]
  bag : ∀ i ∈ w.bag, i.br ≤ i.re ∧ i.re ≤ (f 1).v
  birth : ∀ b, 0 ≤ w.birth b ∧ w.birth b ≤ (f 1).v
  gen : ∀ b, 0 ≤ w.gen b ∧ w.gen b ≤ k
  ops : w.c ≠ .fin → w.ops ≠ [] ∧ w.oc = opsS w.ops
  fr : w.c = .u1 → w.free ≠ []
  sn : w.c = .u4 → w.seen.length ≤ 2
def Safe (w : WR) (t : Nat) (e : Int) (b : Int) : Prop :=
  (b = w.cur ∧ w.birth b.toNat ≤ e) ∨ (w.hasOld ∧ b = w.old ∧ w.birth b.toNat ≤ e) ∨ (∃ i ∈ w.bag, i.b = b ∧ i.br ≤ e ∧ e ≤ i.re ∧ (w.c = .u4 → t = 2 → 2 ≤ w.seen.length → w.seen[1]? = some e))
def Prot (w : WR) (t : Nat) (e x : Int) : Prop := ∃ b g : Int, x = g * 16 + b + 1 ∧ (b = 0 ∨ b = 1 ∨ b = 2 ∨ b = 3) ∧ 0 ≤ g ∧ w.gen b.toNat = g ∧ Safe w t e b
structure RInv (r : RD) (t : Nat) (w : WR) (f : Nat → Wd) : Prop where
  left : r.c ≠ .fin → 0 < r.left ∧ r.left ≤ 10
  rests : r.c = .p3 → r.rests = 0 ∨ r.rests = 1 ∨ r.rests = 2
  st : match r.c with
    | .e2 v => 1 ≤ v ∧ v ≤ (f 1).v
    | .e3 v => 1 ≤ v ∧ v ≤ (f 1).v ∧ (f (8 * t)).v = v
    | .p1 => 1 ≤ r.er ∧ r.er ≤ (f 1).v ∧ (f (8 * t)).v = r.er
    | .p2 => 1 ≤ r.er ∧ r.er ≤ (f 1).v ∧ (f (8 * t)).v = r.er ∧ ((f 1).v = r.er → Prot w t r.er r.found)
    | .p3 => 1 ≤ r.er ∧ r.er ≤ (f 1).v ∧ (f (8 * t)).v = r.er ∧ Prot w t r.er r.found
    | _ => True
theorem four {b : Int} (h : b ∈ [(0 : Int), 1, 2, 3]) : b = 0 ∨ b = 1 ∨ b = 2 ∨ b = 3 := by simpa using h
theorem WInv.mem {w : WR} {f : Nat → Wd} {k : Int} (h : WInv w f k) {b : Int} (hb : b ∈ w.blocks) : b = 0 ∨ b = 1 ∨ b = 2 ∨ b = 3 := four (h.part.mem_iff.1 hb)
theorem WR.cur_mem (w : WR) : w.cur ∈ w.blocks := by unfold WR.blocks; split <;> simp
theorem WInv.cur4 {w : WR} {f : Nat → Wd} {k : Int} (h : WInv w f k) : w.cur = 0 ∨ w.cur = 1 ∨ w.cur = 2 ∨ w.cur = 3 := h.mem w.cur_mem
theorem WInv.nodup {w : WR} {f : Nat → Wd} {k : Int} (h : WInv w f k) : w.blocks.Nodup := h.part.nodup_iff.2 (by decide)
theorem WInv.len {w : WR} {f : Nat → Wd} {k : Int} (h : WInv w f k) : w.blocks.length = 4 := h.part.length_eq
theorem WR.rest_sub (w : WR) {b : Int} (hb : b ∈ w.rest) : b ∈ w.blocks := by unfold WR.blocks; split <;> simp [hb]
theorem WR.old_mem (w : WR) (h : w.hasOld) : w.old ∈ w.blocks := by
  unfold WR.hasOld at h; unfold WR.blocks; split <;> simp_all
/-- A safe block is not free. -/
theorem WInv.notFree {w : WR} {f : Nat → Wd} {k : Int} (h : WInv w f k) {t : Nat} {e b : Int} (hs : Safe w t e b) : b ∉ w.free := by
  intro hb
  have hn := h.nodup
  rcases hs with ⟨h1, _⟩ | ⟨ho, h1, _⟩ | ⟨i, hi, h1, _⟩
  · have h2 : w.cur ∈ w.rest := by rw [← h1]; simp [WR.rest, hb]
    unfold WR.blocks at hn
    split at hn <;> simp only [List.nodup_cons, List.mem_cons, not_or] at hn
    · exact hn.1.2 h2
    · exact hn.1.2 h2
    · exact hn.1 h2
  · have h2 : w.old ∈ w.rest := by rw [← h1]; simp [WR.rest, hb]
    unfold WR.hasOld at ho
    unfold WR.blocks at hn
    split at hn
    · simp only [List.nodup_cons] at hn; exact hn.2.1 h2
    · simp only [List.nodup_cons] at hn; exact hn.2.1 h2
    · split at ho <;> simp_all
  · have h2 : w.rest.Nodup := by
      unfold WR.blocks at hn
      split at hn <;> simp only [List.nodup_cons] at hn
      · exact hn.2.2
      · exact hn.2.2
      · exact hn.2
    unfold WR.rest at h2
    rw [List.nodup_append] at h2
    exact h2.2.2 b hb i.b (List.mem_map.2 ⟨i, hi, rfl⟩) h1.symm
/-! ### The readers -/
theorem got_look (f : Nat → Wd) (ad : Nat) (o w : Wd) : gotOf f ⟨5, ad, o, w⟩ = ⟨f ad, true⟩ := by simp [gotOf]
theorem mem_look' (f : Nat → Wd) (ad : Nat) (o w : Wd) : memOf f ⟨5, ad, o, w⟩ = f := by simp [memOf]
theorem mem_rel (f : Nat → Wd) (ad : Nat) (o w : Wd) : memOf f ⟨4, ad, o, w⟩ = upd f ad w := by simp [memOf]
theorem got_swap (f : Nat → Wd) (ad : Nat) (o w : Wd) : gotOf f ⟨6, ad, o, w⟩ = ⟨o, true⟩ := by simp [gotOf]
theorem mem_swap (f : Nat → Wd) (ad : Nat) (o w : Wd) : memOf f ⟨6, ad, o, w⟩ = upd f ad w := by simp [memOf]
theorem mem_rest (f : Nat → Wd) : memOf f ac0 = f := by simp [memOf, ac0]
theorem rd_actOk (r : RD) (t : Nat) (ht : t = 2 ∨ t = 3) (f : Nat → Wd) : actOk f (r.act t) := by
  unfold RD.act
  split
  · exact .inr (.inr (.inr rfl))
  · exact .inl ⟨rfl, by simp⟩
  · exact .inr (.inl ⟨rfl, by rcases ht with rfl | rfl <;> simp⟩)
  · exact .inl ⟨rfl, by simp⟩
  · exact .inl ⟨rfl, by simp⟩
  · exact .inl ⟨rfl, by simp⟩
  · exact .inr (.inr (.inr rfl))
  · exact .inr (.inl ⟨rfl, by rcases ht with rfl | rfl <;> simp⟩)
/-- A reader writes at most its own announcement. -/
theorem rd_mem (r : RD) (t : Nat) (f : Nat → Wd) (a : Nat) (ha : a ≠ 8 * t) : memOf f (r.act t) a = f a := by
  unfold RD.act
  split
  · rw [mem_rest]
  · rw [mem_look']
  · rw [mem_rel, upd_other _ _ ha]
  · rw [mem_look']
  · rw [mem_look']
  · rw [mem_look']
  · rw [mem_rest]
  · rw [mem_rel, upd_other _ _ ha]
theorem WInv.same {w : WR} {f f' : Nat → Wd} {k k' : Int} (h : WInv w f k) (h1 : f' 1 = f 1) (h2 : f' 56 = f 56) (hk : k ≤ k') : WInv w f' k' where
  e1 := by rw [h1]; exact h.e1
  e2 := by rw [h1]; have := h.e2; omega
  ea := by rw [h1]; exact h.ea
  rt := by rw [h2]; exact h.rt
  rv := h.rv
  ra := by have := h.ra; omega
  part := h.part
  bag := by rw [h1]; exact h.bag
  birth := by rw [h1]; exact h.birth
  gen := fun b => by have := h.gen b; omega
  ops := h.ops
  fr := h.fr
  sn := h.sn
theorem RInv.same {r : RD} {t : Nat} {w : WR} {f f' : Nat → Wd} (h : RInv r t w f) (h1 : f' 1 = f 1) (h2 : f' (8 * t) = f (8 * t)) : RInv r t w f' where
  left := h.left
  rests := h.rests
  st := by rw [h1, h2]; exact h.st
theorem rd_inv {r : RD} {t : Nat} {w : WR} {f : Nat → Wd} {k : Int} (ht : t = 2 ∨ t = 3) (hw : WInv w f k) (h : RInv r t w f) (hc : r.c ≠ .fin) :
    RInv (r.next (gotOf f (r.act t))) t w (memOf f (r.act t)) := by
  obtain ⟨c, left, rests, er, found⟩ := r
  have hl := h.left hc
  have hst := h.st
  have hrs := h.rests
  have he := hw.e1
  have h8 : 1 ≠ 8 * t := by omega
  cases c with
  | fin => exact (hc rfl).elim
  | e1 =>
    simp only [RD.act, RD.next, got_look, mem_look']
    exact ⟨fun _ => hl, fun h => (by cases h), ⟨he, Int.le_refl _⟩⟩
  | e2 v =>
    simp only [RD.act, RD.next, mem_rel]
    simp only at hst
    exact ⟨fun _ => hl, fun h => (by cases h), by simp only [upd_same, upd_other _ _ h8]; exact ⟨hst.1, hst.2, trivial⟩⟩
  | e3 v =>
    simp only at hst
    simp only [RD.act, RD.next, got_look, mem_look']
    by_cases hv : (f 1).v = v
    · rw [if_pos hv]
      exact ⟨fun _ => hl, fun h => (by cases h), ⟨hst.1, hst.2.1, hst.2.2⟩⟩
    · rw [if_neg hv]
      exact ⟨fun _ => hl, fun h => (by cases h), ⟨he, Int.le_refl _⟩⟩
  | p1 =>
    simp only at hst
    simp only [RD.act, RD.next, got_look, mem_look']
    refine ⟨fun _ => hl, fun h => (by cases h), ⟨hst.1, hst.2.1, hst.2.2, fun hE => ?_⟩⟩
    have hrt := hw.rt
    have hcase : (∃ o, w.c = .u2 o ∧ f 56 = o ∧ o.v = w.gen w.old.toNat * 16 + w.old + 1) ∨ f 56 = w.root := by
      split at hrt
      · rename_i o ho; exact .inl ⟨o, ho, hrt.1, hrt.2⟩
      · exact .inr hrt
    rcases hcase with ⟨o, ho, h1, h2⟩ | h1
    · have hO : w.hasOld := by unfold WR.hasOld; rw [ho]; trivial
      refine ⟨w.old, w.gen w.old.toNat, by rw [h1]; exact h2, hw.mem (w.old_mem hO), (hw.gen _).1, rfl, .inr (.inl ⟨hO, rfl, ?_⟩)⟩
      have := (hw.birth w.old.toNat).2
      simp only at hE ⊢
      omega
    · refine ⟨w.cur, w.gen w.cur.toNat, by rw [h1]; exact hw.rv, hw.cur4, (hw.gen _).1, rfl, .inl ⟨rfl, ?_⟩⟩
      have := (hw.birth w.cur.toNat).2
      simp only at hE ⊢
      omega
  | p2 =>
    simp only at hst
    simp only [RD.act, RD.next, got_look, mem_look']
    by_cases hv : (f 1).v = er
    · rw [if_pos hv]
      exact ⟨fun _ => hl, fun _ => .inr (.inr rfl), ⟨hst.1, hst.2.1, hst.2.2.1, hst.2.2.2 hv⟩⟩
    · rw [if_neg hv]
      exact ⟨fun _ => hl, fun h => (by cases h), trivial⟩
  | p3 =>
    simp only at hst
    have hr := hrs rfl
    simp only at hr
    simp only [RD.act, RD.next, mem_rest]
    by_cases hv : rests = 0
    · rw [if_pos hv]
      exact ⟨fun _ => hl, fun h => (by cases h), trivial⟩
    · rw [if_neg hv]
      exact ⟨fun _ => hl, fun _ => by simp only; omega, hst⟩
  | l1 =>
    simp only [RD.act, RD.next, mem_rel]
    simp only at hl
    by_cases hv : left - 1 ≤ 0
    · rw [if_pos hv]
      exact ⟨fun h => (h rfl).elim, fun h => (by cases h), trivial⟩
    · rw [if_neg hv]
      exact ⟨fun _ => by simp only; omega, fun h => (by cases h), trivial⟩
end Go.Proofs.YtiegfchaepbnbaaGreatDoor
namespace Go.Proofs.YtiegfchaepbnbaaGreatDoor
open Go Go.RowKit Go.Va
set_option maxHeartbeats 1000000
structure WCore (w : WR) (f : Nat → Wd) (k : Int) : Prop where
  e1 : 1 ≤ (f 1).v
  e2 : (f 1).v ≤ k
  rt : f 56 = w.root
  rv : w.root.v = w.gen w.cur.toNat * 16 + w.cur + 1
  ra : 0 ≤ w.root.a ∧ w.root.a ≤ k
  part : (w.cur :: w.rest).Perm [0, 1, 2, 3]
  bag : ∀ i ∈ w.bag, i.br ≤ i.re ∧ i.re ≤ (f 1).v
  birth : ∀ b, 0 ≤ w.birth b ∧ w.birth b ≤ (f 1).v
  gen : ∀ b, 0 ≤ w.gen b ∧ w.gen b ≤ k
theorem begin_inv {w : WR} {f : Nat → Wd} {k : Int} (h : WCore w f k) : WInv w.begin f k := by
  obtain ⟨c, oc, ops, bag, free, gen, birth, root, old, seen⟩ := w
  obtain ⟨a1, a2, a3, a4, a5, a6, a7, a8, a9⟩ := h
  cases ops with
  | nil => exact ⟨a1, a2, fun o h => (by cases h), a3, a4, a5, a6, a7, a8, a9, fun h => (h rfl).elim, fun h => (by cases h), fun h => (by cases h)⟩
  | cons x r =>
    unfold WR.begin
    simp only
    by_cases h1 : Int.tmod x 3 = 0
    · rw [if_pos h1]
      exact ⟨a1, a2, fun o h => (by cases h), a3, a4, a5, a6, a7, a8, a9, fun _ => ⟨by simp, rfl⟩, fun h => (by cases h), fun h => (by cases h)⟩
    · rw [if_neg h1]
      by_cases h2 : free = []
      · rw [if_pos h2]
        exact ⟨a1, a2, fun o h => (by cases h), a3, a4, a5, a6, a7, a8, a9, fun _ => ⟨by simp, rfl⟩, fun h => (by cases h), fun _ => by simp⟩
      · rw [if_neg h2]
        exact ⟨a1, a2, fun o h => (by cases h), a3, a4, a5, a6, a7, a8, a9, fun _ => ⟨by simp, rfl⟩, fun _ => h2, fun h => (by cases h)⟩
/-- What begin leaves alone. -/
theorem begin_same (w : WR) : w.begin.root = w.root ∧ w.begin.bag = w.bag ∧ w.begin.birth = w.birth ∧ w.begin.gen = w.gen ∧ w.begin.free = w.free ∧ (w.begin.c = .u4 → w.begin.seen = []) := by
  obtain ⟨c, oc, ops, bag, free, gen, birth, root, old, seen⟩ := w
  cases ops with
  | nil => exact ⟨rfl, rfl, rfl, rfl, rfl, fun h => by cases h⟩
  | cons x r =>
    unfold WR.begin
    simp only
    split
    · exact ⟨rfl, rfl, rfl, rfl, rfl, fun h => by cases h⟩
    · split
      · exact ⟨rfl, rfl, rfl, rfl, rfl, fun _ => rfl⟩
      · exact ⟨rfl, rfl, rfl, rfl, rfl, fun h => by cases h⟩
theorem begin_safe {w : WR} {t : Nat} {e b : Int} (h : (b = w.cur ∧ w.birth b.toNat ≤ e) ∨ (∃ i ∈ w.bag, i.b = b ∧ i.br ≤ e ∧ e ≤ i.re)) : Safe w.begin t e b := by
  obtain ⟨h1, h2, h3, h4, h5, h6⟩ := begin_same w
  rcases h with ⟨g1, g2⟩ | ⟨i, g1, g2, g3, g4⟩
  · exact .inl ⟨by unfold WR.cur; rw [h1]; exact g1, by rw [h3]; exact g2⟩
  · refine .inr (.inr ⟨i, by rw [h2]; exact g1, g2, g3, g4, fun hc _ hl => ?_⟩)
    rw [h6 hc] at hl
    simp at hl
theorem RInv.tr {r : RD} {t : Nat} {w w' : WR} {f f' : Nat → Wd} (h : RInv r t w f) (hE : (f 1).v ≤ (f' 1).v) (hA : f' (8 * t) = f (8 * t))
    (hP : ∀ e x, 1 ≤ e → e ≤ (f 1).v → (f (8 * t)).v = e → Prot w t e x → Prot w' t e x) : RInv r t w' f' := by
  obtain ⟨c, left, rests, er, found⟩ := r
  refine ⟨h.left, h.rests, ?_⟩
  have hst := h.st
  cases c with
  | fin => trivial
  | e1 => trivial
  | e2 v => simp only at hst ⊢; omega
  | e3 v => simp only at hst ⊢; rw [hA]; omega
  | p1 => simp only at hst ⊢; rw [hA]; omega
  | p2 =>
    simp only at hst ⊢
    rw [hA]
    obtain ⟨h1, h2, h3, h4⟩ := hst
    exact ⟨h1, by omega, h3, fun hh => hP _ _ h1 h2 h3 (h4 (by omega))⟩
  | p3 =>
    simp only at hst ⊢
    rw [hA]
    obtain ⟨h1, h2, h3, h4⟩ := hst
    exact ⟨h1, by omega, h3, hP _ _ h1 h2 h3 h4⟩
  | l1 => trivial
theorem Prot.tr {w w' : WR} {t : Nat} {e x : Int} (h : Prot w t e x) (hS : ∀ b, (b = 0 ∨ b = 1 ∨ b = 2 ∨ b = 3) → Safe w t e b → Safe w' t e b ∧ w'.gen b.toNat = w.gen b.toNat) : Prot w' t e x := by
  obtain ⟨b, g, h1, h2, h3, h4, h5⟩ := h
  obtain ⟨h6, h7⟩ := hS b h2 h5
  exact ⟨b, g, h1, h2, h3, by rw [h7]; exact h4, h6⟩
theorem toNat_ne {a b : Int} (ha : a = 0 ∨ a = 1 ∨ a = 2 ∨ a = 3) (hb : b = 0 ∨ b = 1 ∨ b = 2 ∨ b = 3) (h : a ≠ b) : a.toNat ≠ b.toNat := by omega
theorem wr_pre {w : WR} {f : Nat → Wd} {k : Int} (h : WInv w f k) (hk : k ≤ 50000) (hc : w.c ≠ .fin) : w.pre (gotOf f w.act) ∧ actOk f w.act := by
  obtain ⟨c, oc, ops, bag, free, gen, birth, root, old, seen⟩ := w
  have hops := h.ops hc
  have hlen := h.len
  have hn := h.nodup
  cases c with
  | fin => exact (hc rfl).elim
  | a0 =>
    have := h.e1; have := h.e2
    refine ⟨?_, .inl ⟨rfl, by simp [WR.act]⟩⟩
    simp only [WR.act, got_look]
    exact ⟨by simp only; omega, by simp only; omega⟩
  | a1 o =>
    refine ⟨?_, .inr (.inr (.inl ⟨rfl, by simp [WR.act], h.ea o rfl⟩))⟩
    simp only [WR.act, got_swap]
    exact ⟨rfl, hops⟩
  | u1 =>
    refine ⟨?_, .inl ⟨rfl, by simp [WR.act]⟩⟩
    cases free with
    | nil => exact (h.fr rfl rfl).elim
    | cons b fr =>
      have hb := h.mem (b := b) (WR.rest_sub _ (by simp [WR.rest]))
      have h1 := h.cur4
      have h2 := h.rv
      have h3 := h.gen
      have h4 := h.ra
      have h5 := h3 (WR.cur ⟨.u1, oc, ops, bag, b :: fr, gen, birth, root, old, seen⟩).toNat
      have h6 := h3 b.toNat
      simp only at h2 h4 h5 h6
      exact ⟨b, fr, rfl, hb, by simp only; omega, by simp only; omega, by simp only; omega, by simp only; omega, h6.1, by simp only; omega⟩
  | u2 o =>
    have hrt := h.rt
    refine ⟨?_, .inr (.inr (.inl ⟨rfl, by simp [WR.act], hrt.1⟩))⟩
    simp only [WR.act, got_swap]
    rfl
  | u3 =>
    refine ⟨?_, .inl ⟨rfl, by simp [WR.act]⟩⟩
    simp only [WR.act, got_look]
    have ho := h.mem (WR.old_mem _ trivial)
    have hb := h.birth old.toNat
    simp only [WR.blocks, WR.rest, List.length_cons, List.length_append, List.length_map] at hlen
    refine ⟨ho, by simp only; omega, hb.1, hb.2, fun i hi he => ?_⟩
    simp only [WR.blocks, List.nodup_cons] at hn
    exact hn.2.1 (by simp only [WR.rest, List.mem_append, List.mem_map]; exact .inr ⟨i, hi, he⟩)
  | u4 =>
    have hsn := h.sn rfl
    simp only at hsn
    refine ⟨?_, .inl ⟨rfl, by simp only [WR.act]; omega⟩⟩
    simp only [WR.blocks, WR.rest, List.length_cons, List.length_append, List.length_map] at hlen
    exact ⟨hsn, by simp only; omega, by simp only; omega, hops⟩
end Go.Proofs.YtiegfchaepbnbaaGreatDoor
namespace Go.Proofs.YtiegfchaepbnbaaGreatDoor
open Go Go.RowKit Go.Va
set_option maxHeartbeats 2000000
theorem up1 {a k : Int} (h : 0 ≤ a ∧ a ≤ k) : 0 ≤ a ∧ a ≤ k + 1 := ⟨h.1, by omega⟩
theorem up2 {a k k' : Int} (h : 0 ≤ a ∧ a ≤ k) (hk : k' = k + 1) : 0 ≤ a ∧ a ≤ k' := ⟨h.1, by omega⟩
theorem up3 {a b k k' : Int} (h : a ≤ b ∧ b ≤ k) (hk : k' = k + 1) : a ≤ b ∧ b ≤ k' := ⟨h.1, by omega⟩
theorem wr_inv {w : WR} {f : Nat → Wd} {k : Int} {gn : List Int} (h : WInv w f k) (hc : w.c ≠ .fin) (hgn : w.c = .u4 → 2 ≤ w.seen.length → swept w (gotOf f w.act) gn) :
    WInv (w.next (gotOf f w.act) gn) (memOf f w.act) (k + 1) ∧ ∀ (r : RD) (t : Nat), (t = 2 ∨ t = 3) → RInv r t w f → RInv r t (w.next (gotOf f w.act) gn) (memOf f w.act) := by
  obtain ⟨c, oc, ops, bag, free, gen, birth, root, old, seen⟩ := w
  have hops := h.ops hc
  cases c with
  | fin => exact (hc rfl).elim
  | a0 =>
    simp only [WR.act, got_look, mem_look', WR.next]
    have hk2 : (f 1).v ≤ k + 1 := by have := h.e2; omega
    refine ⟨⟨h.e1, hk2, fun o ho => (by simp only [WC.a1.injEq] at ho; exact ho), h.rt, h.rv, (up1 h.ra), h.part, h.bag, h.birth, (fun b => up1 (h.gen b)), fun _ => hops, fun hh => (by cases hh), fun hh => (by cases hh)⟩, fun r t ht hr => ?_⟩
    refine hr.tr (Int.le_refl _) rfl fun e x _ _ _ hp => hp.tr fun b _ hs => ⟨?_, rfl⟩
    rcases hs with hs | ⟨ho, _⟩ | ⟨i, g1, g2, g3, g4, _⟩
    · exact .inl hs
    · exact ho.elim
    · exact .inr (.inr ⟨i, g1, g2, g3, g4, fun hh => (by cases hh)⟩)
  | a1 o =>
    simp only [WR.act, got_swap, mem_swap, WR.next]
    have hea := h.ea o rfl
    have he1 := h.e1
    have he2 := h.e2
    have hE : (upd f 1 ⟨o.v + 1, 0, 0⟩ 1).v = (f 1).v + 1 := by rw [upd_same, hea]
    have hcore : WCore ⟨.a1 o, oc, ops.tail, bag, free, gen, birth, root, old, seen⟩ (upd f 1 ⟨o.v + 1, 0, 0⟩) (k + 1) :=
      ⟨by rw [hE]; omega, by rw [hE]; omega, by rw [upd_other _ _ (by decide)]; exact h.rt, h.rv, up1 h.ra, h.part, fun i hi => up3 (h.bag i hi) hE, fun b => up2 (h.birth b) hE, fun b => up1 (h.gen b)⟩
    refine ⟨begin_inv hcore, fun r t ht hr => ?_⟩
    have hs := begin_same (w := ⟨.a1 o, oc, ops.tail, bag, free, gen, birth, root, old, seen⟩)
    refine hr.tr (by rw [hE]; omega) (upd_other _ _ (by rcases ht with rfl | rfl <;> decide)) fun e x _ _ _ hp => hp.tr fun b _ hs2 => ⟨?_, by rw [hs.2.2.2.1]⟩
    rcases hs2 with hs2 | ⟨ho, _⟩ | ⟨i, g1, g2, g3, g4, _⟩
    · exact begin_safe (.inl hs2)
    · exact ho.elim
    · exact begin_safe (.inr ⟨i, g1, g2, g3, g4⟩)
  | u1 =>
    cases free with
    | nil => exact (h.fr rfl rfl).elim
    | cons b0 fr =>
      simp only [WR.act, got_look, mem_look', WR.next]
      have hb0 : b0 = 0 ∨ b0 = 1 ∨ b0 = 2 ∨ b0 = 3 := h.mem (b := b0) (WR.rest_sub _ (by simp [WR.rest]))
      have hcur := h.cur4
      have hrv := h.rv
      have hra := h.ra
      have he2 := h.e2
      have hn := h.nodup
      simp only [WR.blocks, WR.rest, List.nodup_cons, List.mem_append, not_or, List.mem_cons, List.cons_append] at hn
      have hne : WR.cur ⟨.u1, oc, ops, bag, b0 :: fr, gen, birth, root, old, seen⟩ ≠ b0 := hn.1.1
      have hg0 := h.gen b0.toNat
      simp only at hg0 hrv hra
      have hcur' : ((((gen b0.toNat + 1) * 16 + b0 + 1) - 1) % 16 : Int) = b0 := by omega
      have hold : (root.v - 1) % 16 = WR.cur ⟨.u1, oc, ops, bag, b0 :: fr, gen, birth, root, old, seen⟩ := rfl
      have hgc : upd gen b0.toNat (gen b0.toNat + 1) ((root.v - 1) % 16).toNat = gen ((root.v - 1) % 16).toNat := upd_other _ _ (by rw [hold]; exact toNat_ne hcur hb0 hne)
      have hbag := h.bag
      refine ⟨⟨h.e1, by omega, fun o ho => (by cases ho), ⟨h.rt, ?_⟩, ?_, by simp only; omega, ?_, h.bag, fun b => ?_, fun b => ?_, fun _ => hops, fun hh => (by cases hh), fun hh => (by cases hh)⟩, fun r t ht hr => ?_⟩
      · simp only; rw [hgc]; exact hrv
      · simp only [WR.cur]; rw [hcur', upd_same]
      · have hp := h.part
        simp only [WR.blocks, WR.rest, WR.cur] at hp ⊢
        rw [hcur']
        exact (List.Perm.swap _ _ _).trans hp
      · simp only [upd]
        have h1 : 0 ≤ birth b ∧ birth b ≤ (f 1).v := h.birth b
        have h2 : 1 ≤ (f 1).v := h.e1
        split <;> omega
      · simp only [upd]
        have h1 : 0 ≤ gen b ∧ gen b ≤ k := h.gen b
        split <;> omega
      · refine hr.tr (Int.le_refl _) rfl fun e x _ _ _ hp => hp.tr fun b hb hs => ?_
        have hnf := h.notFree hs
        have hbne : b ≠ b0 := fun hh => hnf (by simp only; rw [hh]; exact List.mem_cons_self)
        have htn := toNat_ne hb hb0 hbne
        refine ⟨?_, upd_other _ _ htn⟩
        rcases hs with ⟨g1, g2⟩ | ⟨ho, _⟩ | ⟨i, g1, g2, g3, g4, _⟩
        · exact .inr (.inl ⟨trivial, g1, by simp only; rw [upd_other _ _ htn]; exact g2⟩)
        · exact ho.elim
        · exact .inr (.inr ⟨i, g1, g2, g3, g4, fun hh => (by cases hh)⟩)
  | u2 o =>
    simp only [WR.act, got_swap, mem_swap, WR.next]
    have hf1 : upd f 56 root 1 = f 1 := upd_other _ _ (by decide)
    have he2 := h.e2
    refine ⟨⟨by rw [hf1]; exact h.e1, by rw [hf1]; omega, fun o ho => (by cases ho), upd_same _ _ _, h.rv, up1 h.ra, h.part, by rw [hf1]; exact h.bag, by rw [hf1]; exact h.birth, fun b => up1 (h.gen b), fun _ => hops, fun hh => (by cases hh), fun hh => (by cases hh)⟩, fun r t ht hr => ?_⟩
    refine hr.tr (by rw [hf1]; exact Int.le_refl _) (upd_other _ _ (by rcases ht with rfl | rfl <;> decide)) fun e x _ _ _ hp => hp.tr fun b _ hs => ⟨?_, rfl⟩
    rcases hs with hs | ⟨_, hs⟩ | ⟨i, g1, g2, g3, g4, _⟩
    · exact .inl hs
    · exact .inr (.inl ⟨trivial, hs⟩)
    · exact .inr (.inr ⟨i, g1, g2, g3, g4, fun hh => (by cases hh)⟩)
  | u3 =>
    simp only [WR.act, got_look, mem_look', WR.next]
    have he2 := h.e2
    have hbo := h.birth old.toNat
    simp only at hbo
    refine ⟨⟨h.e1, by omega, fun o ho => (by cases ho), h.rt, h.rv, up1 h.ra, ?_, fun i hi => ?_, h.birth, fun b => up1 (h.gen b), fun _ => hops, fun hh => (by cases hh), fun _ => by simp⟩, fun r t ht hr => ?_⟩
    · have hp := h.part
      simp only [WR.blocks, WR.rest, WR.cur, List.map_append, List.map_cons, List.map_nil] at hp ⊢
      refine (List.Perm.cons _ ?_).trans hp
      rw [← List.append_assoc]
      exact List.perm_append_comm
    · rcases List.mem_append.1 hi with hi | hi
      · exact h.bag i hi
      · simp only [List.mem_singleton] at hi
        subst hi
        exact ⟨hbo.2, Int.le_refl _⟩
    · refine hr.tr (Int.le_refl _) rfl fun e x _ he _ hp => hp.tr fun b _ hs => ⟨?_, rfl⟩
      rcases hs with hs | ⟨_, g1, g2⟩ | ⟨i, g1, g2, g3, g4, _⟩
      · exact .inl hs
      · simp only at g1 g2
        subst g1
        exact .inr (.inr ⟨⟨b, birth b.toNat, (f 1).v⟩, by simp, rfl, g2, he, fun _ _ hl => by simp at hl⟩)
      · exact .inr (.inr ⟨i, by simp only [List.mem_append]; exact .inl g1, g2, g3, g4, fun _ _ hl => by simp at hl⟩)
  | u4 =>
    have hsn := h.sn rfl
    simp only at hsn
    have he2 := h.e2
    simp only [WR.act, got_look, mem_look', WR.next] at hgn ⊢
    by_cases hl : seen.length < 2
    · rw [if_pos hl]
      refine ⟨⟨h.e1, by omega, fun o ho => (by cases ho), h.rt, h.rv, up1 h.ra, h.part, h.bag, h.birth, fun b => up1 (h.gen b), fun _ => hops, fun hh => (by cases hh), fun _ => by simp; omega⟩, fun r t ht hr => ?_⟩
      refine hr.tr (Int.le_refl _) rfl fun e x _ _ hA hp => hp.tr fun b _ hs => ⟨?_, rfl⟩
      rcases hs with hs | ⟨ho, _⟩ | ⟨i, g1, g2, g3, g4, _⟩
      · exact .inl hs
      · exact ho.elim
      · refine .inr (.inr ⟨i, g1, g2, g3, g4, fun _ h2 hll => ?_⟩)
        subst h2
        simp only [List.length_append, List.length_cons, List.length_nil] at hll
        have h1 : seen.length = 1 := by omega
        simp only [h1]
        rw [List.getElem?_append_right (by omega), h1]
        simp only [Nat.sub_self, List.getElem?_cons_zero]
        rw [← hA]
    · rw [if_neg hl]
      have hsw := hgn trivial (by omega)
      have h2 : seen.length = 2 := by omega
      obtain ⟨s0, s1, hs01⟩ := len2 h2
      subst hs01
      have hcore : WCore ⟨.u4, oc, ops.tail, bag.filter fun i => wayB i ([s0, s1] ++ [(f (8 * ([s0, s1].length + 1))).v]), free ++ gn, gen, birth, root, old, [s0, s1] ++ [(f (8 * ([s0, s1].length + 1))).v]⟩ f (k + 1) := by
        refine ⟨h.e1, by omega, h.rt, h.rv, up1 h.ra, ?_, fun i hi => h.bag i (List.mem_filter.1 hi).1, h.birth, fun b => up1 (h.gen b)⟩
        have hp := h.part
        simp only [WR.blocks, WR.rest, WR.cur] at hp ⊢
        refine (List.Perm.cons _ ?_).trans hp
        rw [List.append_assoc]
        refine List.Perm.append_left _ ?_
        refine (List.Perm.append_right _ hsw).trans ?_
        rw [← List.map_append]
        refine List.Perm.map _ ?_
        refine List.perm_append_comm.trans ?_
        exact List.filter_append_perm _ _
      refine ⟨begin_inv hcore, fun r t ht hr => ?_⟩
      have hs := begin_same (w := ⟨.u4, oc, ops.tail, bag.filter fun i => wayB i ([s0, s1] ++ [(f (8 * ([s0, s1].length + 1))).v]), free ++ gn, gen, birth, root, old, [s0, s1] ++ [(f (8 * ([s0, s1].length + 1))).v]⟩)
      refine hr.tr (Int.le_refl _) rfl fun e x he1 _ hA hp => hp.tr fun b _ hs2 => ⟨?_, by rw [hs.2.2.2.1]⟩
      rcases hs2 with hs2 | ⟨ho, _⟩ | ⟨i, g1, g2, g3, g4, g5⟩
      · exact begin_safe (.inl hs2)
      · exact ho.elim
      · refine begin_safe (.inr ⟨i, List.mem_filter.2 ⟨g1, ?_⟩, g2, g3, g4⟩)
        have hlv : livesB i e = true := decide_eq_true ⟨by omega, g3, g4⟩
        unfold wayB
        rw [List.any_eq_true]
        refine ⟨e, ?_, hlv⟩
        rcases ht with rfl | rfl
        · have := g5 rfl rfl (by simp)
          simp at this
          simp [this]
        · have : (f (8 * ([s0, s1].length + 1))).v = e := hA
          simp only [List.mem_append, List.mem_singleton]
          exact .inr this.symm
end Go.Proofs.YtiegfchaepbnbaaGreatDoor
namespace Go.Proofs.YtiegfchaepbnbaaGreatDoor
open Go Go.RowKit Go.Va
set_option maxHeartbeats 1000000
structure ES where
  w : WR
  a : RD
  b : RD
  f : Nat → Wd
structure SInv (s : ES) (k : Int) : Prop where
  w : WInv s.w s.f k
  a : RInv s.a 2 s.w s.f
  b : RInv s.b 3 s.w s.f
abbrev tyW : TypeId := 68
abbrev tyR : TypeId := 87
def tkW (s : ES) (l : List Gt) : TK := told tyW (wtT s.w) s.w.act s.w.fin l
def tkA (s : ES) (l : List Gt) : TK := told tyR (rdT 2 s.a) (s.a.act 2) s.a.fin l
def tkB (s : ES) (l : List Gt) : TK := told tyR (rdT 3 s.b) (s.b.act 3) s.b.fin l
structure WOk (x : Wld) (s : ES) (n m : Nat) : Prop where
  q : MOk x.q s.f n
  tasks : ∃ l0 l1 l2, x.tasks = [tkW s l0, tkA s l1, tkB s l2] ∧ l0.length = m ∧ l1.length ≤ n ∧ l2.length ≤ n
  mn : m ≤ n
  stopped : x.stopped = [false, false, false]
theorem MOk.mono {q : Mach} {f : Nat → Wd} {n n' : Nat} (h : MOk q f n) (hn : n ≤ n') : MOk q f n' where
  np := h.np
  last := fun ad ha => by
    obtain ⟨l, k, x, h1, h2, h3, h4, h5⟩ := h.last ad ha
    exact ⟨l, k, x, h1, h2, h3, h4, by omega⟩
  nv := h.nv
  nl := h.nl
  nf := h.nf
  lg := fun j g hj => by have := h.lg j g hj; omega
  ns := h.ns
  st := fun j s hj => by have := h.st j s hj; omega
theorem WOk.mono {x : Wld} {s : ES} {n n' m : Nat} (h : WOk x s n m) (hn : n ≤ n') : WOk x s n' m where
  q := h.q.mono hn
  tasks := by
    obtain ⟨l0, l1, l2, h1, h2, h3, h4⟩ := h.tasks
    exact ⟨l0, l1, l2, h1, h2, by omega, by omega⟩
  mn := by have := h.mn; omega
  stopped := h.stopped
theorem SInv.mono {s : ES} {k k' : Int} (h : SInv s k) (hk : k ≤ k') : SInv s k' := ⟨h.w.same rfl rfl hk, h.a, h.b⟩
def ES.goW (s : ES) (gn : List Int) : ES := ⟨s.w.next (gotOf s.f s.w.act) gn, s.a, s.b, memOf s.f s.w.act⟩
def ES.goA (s : ES) : ES := ⟨s.w, s.a.next (gotOf s.f (s.a.act 2)), s.b, memOf s.f (s.a.act 2)⟩
def ES.goB (s : ES) : ES := ⟨s.w, s.a, s.b.next (gotOf s.f (s.b.act 3)), memOf s.f (s.b.act 3)⟩
def stepT (x : Wld) (t c : Int) (x' : Wld) (b : Bool) : Prop := HoldsL 6 [worldT x, .agg [i64 0, i64 t, i64 c]] [.t (worldT x'), .t (bl b)]
theorem fin_w {w : WR} (h : w.c ≠ .fin) : w.fin = false := by unfold WR.fin; split <;> simp_all
theorem fin_r {w : RD} (h : w.c ≠ .fin) : w.fin = false := by unfold RD.fin; split <;> simp_all
theorem fin_w' {w : WR} (h : w.c = .fin) : w.fin = true := by unfold WR.fin; rw [h]
theorem fin_r' {w : RD} (h : w.c = .fin) : w.fin = true := by unfold RD.fin; rw [h]
theorem step_W {x : Wld} {s : ES} {n m : Nat} (hx : WOk x s n m) (hs : SInv s (n + 1 : Nat)) (hn : n < 40000) (hc : s.w.c ≠ .fin) :
    ∃ x' gn, WOk x' (s.goW gn) (n + 1) (m + 1) ∧ SInv (s.goW gn) (n + 1 + 1 : Nat) ∧ (s.w.c = .u4 → 2 ≤ s.w.seen.length → swept s.w (gotOf s.f s.w.act) gn) ∧ ∀ c, stepT x 1 c x' true := by
  obtain ⟨l0, l1, l2, h1, h2, h3, h4⟩ := hx.tasks
  obtain ⟨hp, ha⟩ := wr_pre hs.w (by omega) hc
  obtain ⟨gn, hg1, hg2⟩ := wr_next s.w _ hp
  obtain ⟨hw, hr⟩ := wr_inv hs.w hc hg1
  have hmn := hx.mn
  have hg := give_W (wtT s.w) (wtT (s.w.next (gotOf s.f s.w.act) gn)) s.w.act (s.w.next (gotOf s.f s.w.act) gn).act (s.w.next (gotOf s.f s.w.act) gn).fin l0 (gotOf s.f s.w.act) (by omega) hg2
  obtain ⟨q', g1, g2⟩ := wstep x s.f n 0 tyW (wtT s.w) s.w.act l0 _ hx.q (by omega) (by omega) (by rw [h1]; simp only [tkW, fin_w hc]; rfl) (by rw [h1]; rfl) hx.stopped ha hg
  refine ⟨⟨q', x.tasks.set 0 (told tyW (wtT (s.w.next (gotOf s.f s.w.act) gn)) (s.w.next (gotOf s.f s.w.act) gn).act (s.w.next (gotOf s.f s.w.act) gn).fin (l0 ++ [gotOf s.f s.w.act])), x.stopped⟩, gn, ⟨g1, ⟨l0 ++ [gotOf s.f s.w.act], l1, l2, by rw [h1]; rfl, by simp; omega, by omega, by omega⟩, by omega, hx.stopped⟩, ⟨by have := hw; rwa [show ((n + 1 : Nat) : Int) + 1 = ((n + 1 + 1 : Nat) : Int) by omega] at this, hr _ _ (.inl rfl) hs.a, hr _ _ (.inr rfl) hs.b⟩, hg1, fun c => g2 c⟩
theorem step_A {x : Wld} {s : ES} {n m : Nat} (hx : WOk x s n m) (hs : SInv s (n + 1 : Nat)) (hn : n < 40000) (hc : s.a.c ≠ .fin) :
    ∃ x', WOk x' s.goA (n + 1) m ∧ SInv s.goA (n + 1 + 1 : Nat) ∧ ∀ c, stepT x 2 c x' true := by
  obtain ⟨l0, l1, l2, h1, h2, h3, h4⟩ := hx.tasks
  have hmn := hx.mn
  have hnx := rd_next 2 (.inl rfl) s.a (gotOf s.f (s.a.act 2)) hc (hs.a.left hc) hs.a.rests
  have hg := give_R (rdT 2 s.a) (rdT 2 (s.a.next (gotOf s.f (s.a.act 2)))) (s.a.act 2) ((s.a.next (gotOf s.f (s.a.act 2))).act 2) (s.a.next (gotOf s.f (s.a.act 2))).fin l1 (gotOf s.f (s.a.act 2)) (by omega) hnx
  obtain ⟨q', g1, g2⟩ := wstep x s.f n 1 tyR (rdT 2 s.a) (s.a.act 2) l1 _ hx.q (by omega) (by omega) (by rw [h1]; simp only [tkA, fin_r hc]; rfl) (by rw [h1]; rfl) hx.stopped (rd_actOk _ _ (.inl rfl) _) hg
  have e1 := rd_mem s.a 2 s.f 1 (by decide)
  have e2 := rd_mem s.a 2 s.f 56 (by decide)
  have e3 := rd_mem s.a 2 s.f 24 (by decide)
  exact ⟨⟨q', x.tasks.set 1 (told tyR (rdT 2 (s.a.next (gotOf s.f (s.a.act 2)))) ((s.a.next (gotOf s.f (s.a.act 2))).act 2) (s.a.next (gotOf s.f (s.a.act 2))).fin (l1 ++ [gotOf s.f (s.a.act 2)])), x.stopped⟩, ⟨g1, ⟨l0, l1 ++ [gotOf s.f (s.a.act 2)], l2, by rw [h1]; rfl, h2, by simp; omega, by omega⟩, by omega, hx.stopped⟩, ⟨hs.w.same e1 e2 (by omega), rd_inv (.inl rfl) hs.w hs.a hc, hs.b.same e1 e3⟩, fun c => g2 c⟩
theorem step_B {x : Wld} {s : ES} {n m : Nat} (hx : WOk x s n m) (hs : SInv s (n + 1 : Nat)) (hn : n < 40000) (hc : s.b.c ≠ .fin) :
    ∃ x', WOk x' s.goB (n + 1) m ∧ SInv s.goB (n + 1 + 1 : Nat) ∧ ∀ c, stepT x 3 c x' true := by
  obtain ⟨l0, l1, l2, h1, h2, h3, h4⟩ := hx.tasks
  have hmn := hx.mn
  have hnx := rd_next 3 (.inr rfl) s.b (gotOf s.f (s.b.act 3)) hc (hs.b.left hc) hs.b.rests
  have hg := give_R (rdT 3 s.b) (rdT 3 (s.b.next (gotOf s.f (s.b.act 3)))) (s.b.act 3) ((s.b.next (gotOf s.f (s.b.act 3))).act 3) (s.b.next (gotOf s.f (s.b.act 3))).fin l2 (gotOf s.f (s.b.act 3)) (by omega) hnx
  obtain ⟨q', g1, g2⟩ := wstep x s.f n 2 tyR (rdT 3 s.b) (s.b.act 3) l2 _ hx.q (by omega) (by omega) (by rw [h1]; simp only [tkB, fin_r hc]; rfl) (by rw [h1]; rfl) hx.stopped (rd_actOk _ _ (.inr rfl) _) hg
  have e1 := rd_mem s.b 3 s.f 1 (by decide)
  have e2 := rd_mem s.b 3 s.f 56 (by decide)
  have e3 := rd_mem s.b 3 s.f 16 (by decide)
  exact ⟨⟨q', x.tasks.set 2 (told tyR (rdT 3 (s.b.next (gotOf s.f (s.b.act 3)))) ((s.b.next (gotOf s.f (s.b.act 3))).act 3) (s.b.next (gotOf s.f (s.b.act 3))).fin (l2 ++ [gotOf s.f (s.b.act 3)])), x.stopped⟩, ⟨g1, ⟨l0, l1, l2 ++ [gotOf s.f (s.b.act 3)], by rw [h1]; rfl, h2, by omega, by simp; omega⟩, by omega, hx.stopped⟩, ⟨hs.w.same e1 e2 (by omega), hs.a.same e1 e3, rd_inv (.inr rfl) hs.w hs.b hc⟩, fun c => g2 c⟩
end Go.Proofs.YtiegfchaepbnbaaGreatDoor
