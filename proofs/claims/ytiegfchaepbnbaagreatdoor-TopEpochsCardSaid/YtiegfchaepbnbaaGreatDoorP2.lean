/- How the interpreter's state stands in memory, and the steps that memory takes. Each operation of the interpreter is what the model does: words and plain operations. -/
import Derived.Test.YtiegfchaepbnbaaGreatDoorP1
namespace Go.Va
open Go Go.RowKit

theorem pr_run {α : Type} {P : Program} : ∀ (s : Sem α) (a : α), pr P s = some a → ∀ w, s.run P w = .ok a w
  | .pure b, a, h, w => by simp only [pr, Option.some.injEq] at h; subst h; rfl
  | .program k, a, h, w => by simp only [pr] at h; simp only [Sem.run]; exact pr_run _ _ h w
  | .mark m k, a, h, w => by simp only [pr] at h; simp only [Sem.run]; exact pr_run _ _ h w
  | .choose q k, a, h, w => by
    simp only [pr] at h
    split at h
    · rename_i hq; simp only [Sem.run, hq, if_true]; exact pr_run _ _ h w
    · cases h
  | .load .., a, h, w => by simp [pr] at h
  | .store .., a, h, w => by simp [pr] at h
  | .new .., a, h, w => by simp [pr] at h
  | .shape .., a, h, w => by simp [pr] at h
  | .freeze .., a, h, w => by simp [pr] at h
  | .frozen .., a, h, w => by simp [pr] at h
  | .getObj .., a, h, w => by simp [pr] at h
  | .setObj .., a, h, w => by simp [pr] at h
  | .sys .., a, h, w => by simp [pr] at h
  | .halt .., a, h, w => by simp [pr] at h

theorem alloc_old (w : World) (o : Obj) (k : Nat) (h : k < w.heap.size) : (w.alloc o).heap[k]? = w.heap[k]? := by
  show (w.heap.push o)[k]? = _
  rw [Array.getElem?_push, if_neg (by omega)]
theorem alloc_new (w : World) (o : Obj) : (w.alloc o).heap[w.heap.size]? = some o := by
  show (w.heap.push o)[w.heap.size]? = _
  rw [Array.getElem?_push, if_pos rfl]
/-- The old world stays, but for the blocks that were handed over. -/
structure BelowX (K : Nat → Option Nat) (B : Nat) (w w' : World) : Prop where
  os : w'.os = w.os
  tape : w'.tape = w.tape
  output : w'.output = w.output
  size : w.heap.size ≤ w'.heap.size
  block : ∀ k, k < B → (∀ b, K b ≠ some k) → w'.heap[k]? = w.heap[k]?
  rows : ∀ (b : Nat) c e fr, w.heap[b]? = some (.cells c e fr) → ∃ c' e' fr', w'.heap[b]? = some (.cells c' e' fr') ∧ c.size ≤ c'.size
theorem BelowX.of {K : Nat → Option Nat} {B : Nat} {w w' : World} (h : Below w.heap.size w w') (hB : B ≤ w.heap.size) : BelowX K B w w' :=
  ⟨h.os, h.tape, h.output, h.size, fun k hk _ => h.block k (by omega), fun b c e fr hb => ⟨c, e, fr, by rw [h.block b (Array.getElem?_eq_some_iff.1 hb).1]; exact hb, Nat.le_refl _⟩⟩
theorem BelowX.refl (K : Nat → Option Nat) (B : Nat) (w : World) : BelowX K B w w := ⟨rfl, rfl, rfl, Nat.le_refl _, fun _ _ _ => rfl, fun _ c e fr hb => ⟨c, e, fr, hb, Nat.le_refl _⟩⟩
theorem BelowX.to {K : Nat → Option Nat} {B : Nat} {w w' : World} (hK : ∀ b, K b = none) (h : BelowX K B w w') : Below B w w' := ⟨h.os, h.tape, h.output, h.size, fun k hk => h.block k hk fun b hb => by rw [hK] at hb; cases hb⟩
theorem BelowX.trans {K : Nat → Option Nat} {B : Nat} {a b c : World} (h : BelowX K B a b) (k : BelowX K B b c) : BelowX K B a c :=
  ⟨k.os.trans h.os, k.tape.trans h.tape, k.output.trans h.output, Nat.le_trans h.size k.size, fun i hi hn => (k.block i hi hn).trans (h.block i hi hn), fun i c e fr hi => by
    obtain ⟨c', e', fr', h1, h2⟩ := h.rows i c e fr hi
    obtain ⟨c'', e'', fr'', h3, h4⟩ := k.rows i c' e' fr' h1
    exact ⟨c'', e'', fr'', h3, Nat.le_trans h2 h4⟩⟩
def OwnR (K : Nat → Option Nat) (B r : Nat) : Prop := B ≤ r ∨ ∃ b, K b = some r
theorem below_set {K : Nat → Option Nat} {B g : Nat} {w0 w w' : World} (hb : BelowX K B w0 w) (hBg : OwnR K B g) (h1 : w'.os = w.os) (h2 : w'.tape = w.tape) (h3 : w'.output = w.output) (h4 : w.heap.size ≤ w'.heap.size) (h5 : ∀ k, k ≠ g → w'.heap[k]? = w.heap[k]?) (h6 : ∀ c e fr, w.heap[g]? = some (.cells c e fr) → ∃ c' e' fr', w'.heap[g]? = some (.cells c' e' fr') ∧ c.size ≤ c'.size) : BelowX K B w0 w' :=
  hb.trans ⟨h1, h2, h3, h4, fun k hk hn => h5 k fun e => by
    rcases hBg with h | ⟨b, hb⟩
    · omega
    · exact hn b (e ▸ hb), fun k c e fr hk => by
    by_cases hkg : k = g
    · subst hkg; exact h6 c e fr hk
    · exact ⟨c, e, fr, by rw [h5 k hkg]; exact hk, Nat.le_refl _⟩⟩
theorem below_row {K : Nat → Option Nat} {B g : Nat} {w0 w : World} (hb : BelowX K B w0 w) (hBg : OwnR K B g) (cs : Array Value) (h6 : ∀ c e fr, w.heap[g]? = some (.cells c e fr) → ∃ c' e' fr', (w.setRow g cs).heap[g]? = some (.cells c' e' fr') ∧ c.size ≤ c'.size) : BelowX K B w0 (w.setRow g cs) :=
  below_set hb hBg rfl rfl rfl (by simp [World.setRow]) (fun k hk => setRow_other w g k cs hk) h6

def isFz : Blk → Bool
  | .cells _ fz => fz
  | .map _ _ fz => fz
  | .iter .. => false
  | .dead => true

/-- An iterator over an immutable map: what is still to come, in whatever order; what came last. -/
def RIter (h : Array Obj) (I : Nat → Prop) (r : Nat) (todo : List (Value × T)) (cur : Option (Value × T)) : Prop :=
  (todo = [] ∧ cur = none ∧ ∃ a s b, h[r]? = some (.mapIter none a s b)) ∨
  ∃ (m : Nat) (es : Array MapEntry) (clk : Nat) (seen : Array Nat) (l : List MapEntry), I m ∧ h[m]? = some (.map es clk) ∧ (es.toList.map (·.born)).Nodup ∧ (∀ e, e ∈ es.toList → e.born < clk) ∧ h[r]? = some (.mapIter (some m) clk seen clk) ∧
    l.Perm (leftOf es seen).toList ∧ l.map (·.key) = todo.map (·.1) ∧ RTs h I (todo.map (·.2)) (l.map (·.val)) ∧ (∀ p, p ∈ todo → flat p.1 = true) ∧
    (∀ q, cur = some q → ∃ (e : MapEntry) (seen' : Array Nat), seen = seen'.push e.born ∧ e ∈ es.toList ∧ e.key = q.1 ∧ RT h I q.2 e.val ∧ flat q.1 = true)

def RB (ρ : Nat → Option Nat) (h : Array Obj) (I : Nat → Prop) (r : Nat) : Blk → Prop
  | .cells cs _ => ∃ c e, h[r]? = some (.cells c e (0, 0)) ∧ cs.length ≤ c.size ∧ RCs ρ h I cs (win c 0 cs.length) ∧ ones (win c 0 cs.length)
  | .map ks vs _ => ∃ es clk l, h[r]? = some (.map es clk) ∧ MapOf es clk l ∧ l.map (·.key) = ks ∧ RCs ρ h I vs (l.map (·.val))
  | .iter todo cur => RIter h I r todo cur
  | .dead => r < h.size

def updH (H : Nat → Option Blk) : List (Nat × Option Blk) → Nat → Option Blk
  | [] => H
  | (b, k) :: r => updH (fun x => if x = b then k else H x) r

/-- What stood when the call began: its world, and what of it is immutable for good. -/
structure Base where
  w : World
  I0 : Nat → Prop
  K : Nat → Option Nat
def NoK (w0 : Base) : Prop := ∀ b, w0.K b = none
theorem NoK.own {w0 : Base} (h : NoK w0) {B r : Nat} (ho : OwnR w0.K B r) : B ≤ r := ho.elim id fun ⟨b, hb⟩ => by rw [h] at hb; cases hb
def BaseOk (base : Nat) (w0 : Base) : Prop := base ≤ w0.w.heap.size ∧ NoK w0

/-- The memory side: the call's own blocks, what is immutable, the old world. -/
structure SimH (G : Nat → Option (List T)) (base : Nat) (w0 : Base) (ρ : Nat → Option Nat) (I : Nat → Prop) (H : Nat → Option Blk) (w : World) : Prop where
  below : BelowX w0.K base w0.w w
  ilt : ∀ b, I b → b < w.heap.size
  glob : ∀ g cells, G g = some cells → RT w.heap I (.ptr cells 0) (.pointer (some ⟨g, 0, none⟩))
  blk : ∀ b k, H b = some k → ∃ r, ρ b = some r ∧ OwnR w0.K base r ∧ RB ρ w.heap I r k ∧ (isFz k = true → I r) ∧ (isFz k = false → ¬ I r)
  inj : ∀ b b' k k' r, H b = some k → H b' = some k' → ρ b = some r → ρ b' = some r → b = b'
  rlt : ∀ b r, ρ b = some r → r < w.heap.size
  io : (∀ b, w0.I0 b → I b) ∧ ∀ b, I b → w0.I0 b ∨ OwnR w0.K base b
  keep : ∀ b r, w0.K b = some r → ρ b = some r

structure Sim (G : Nat → Option (List T)) (base : Nat) (w0 : Base) (nt : Nat) (ρ : Nat → Option Nat) (I : Nat → Prop) (e : Nat → Option C) (H : Nat → Option Blk) (a : Act) (w : World) : Prop where
  mem : SimH G base w0 ρ I H w
  defers : a.defers = []
  tm : a.tmps.size = nt
  env : ∀ k c, e k = some c → RC ρ w.heap I c (a.tmps.getD k undef)

theorem win_length (c : Array Value) (lo n : Nat) : (win c lo n).length ≤ n := by simp [win]; omega
theorem RB.mono {I J : Nat → Prop} {h h' : Array Obj} {ρ ρ' : Nat → Option Nat} (x : Ext I J h h') (hρ : ∀ b r, ρ b = some r → ρ' b = some r) {r : Nat} (hr : h'[r]? = h[r]?) : ∀ {k : Blk}, RB ρ h I r k → RB ρ' h' J r k
  | .cells cs fz, hb => by
    simp only [RB] at hb ⊢
    obtain ⟨c, e, h1, h2, h3, h4⟩ := hb
    exact ⟨c, e, hr.trans h1, h2, RCs.mono x hρ _ _ h3, h4⟩
  | .map ks vs fz, hb => by
    simp only [RB] at hb ⊢
    obtain ⟨es, clk, l, h1, hl, h2, h3⟩ := hb
    exact ⟨es, clk, l, hr.trans h1, hl, h2, RCs.mono x hρ _ _ h3⟩
  | .iter todo cur, hb => by
    simp only [RB] at hb ⊢
    rcases hb with ⟨h1, h2, a, s, b, h3⟩ | ⟨m, es, clk, seen, l, h1, h2, h3, h4, h5, h6, h7, h8, h9, h10⟩
    · exact .inl ⟨h1, h2, a, s, b, hr.trans h3⟩
    · refine .inr ⟨m, es, clk, seen, l, x.sub _ h1, (x.imm _ h1).trans h2, h3, h4, hr.trans h5, h6, h7, RTs.mono x _ _ h8, h9, fun q hq => ?_⟩
      obtain ⟨e, seen', g1, g2, g3, g4, g5⟩ := h10 q hq
      exact ⟨e, seen', g1, g2, g3, RT.mono x _ _ g4, g5⟩
  | .dead, hb => by
    simp only [RB] at hb ⊢
    rcases Nat.lt_or_ge r h'.size with h1 | h1
    · exact h1
    · rw [Array.getElem?_eq_none h1] at hr
      rw [Array.getElem?_eq_getElem hb] at hr
      cases hr
theorem RB.lt {ρ : Nat → Option Nat} {h : Array Obj} {I : Nat → Prop} {r : Nat} : ∀ {k : Blk}, RB ρ h I r k → r < h.size
  | .cells cs fz, hb => by
    simp only [RB] at hb
    obtain ⟨c, e, h1, _⟩ := hb
    exact (Array.getElem?_eq_some_iff.1 h1).1
  | .map ks vs fz, hb => by
    simp only [RB] at hb
    obtain ⟨es, clk, l, h1, _⟩ := hb
    exact (Array.getElem?_eq_some_iff.1 h1).1
  | .iter todo cur, hb => by
    simp only [RB] at hb
    rcases hb with ⟨h1, h2, a, s, b, h3⟩ | ⟨m, es, clk, seen, l, h1, h2, h3, h4, h5, _⟩
    · exact (Array.getElem?_eq_some_iff.1 h3).1
    · exact (Array.getElem?_eq_some_iff.1 h5).1
  | .dead, hb => by simpa only [RB] using hb

section
variable {P : Program} {G : Nat → Option (List T)} {base nt : Nat} {w0 : Base} {w : World} {ρ : Nat → Option Nat} {I : Nat → Prop} {e : Nat → Option C} {H : Nat → Option Blk} {a : Act}

/-- What a step of an operation leaves: 'v' its value; blocks numbered from 'lo' to 'hi' may have been made. -/
structure Step (G : Nat → Option (List T)) (base : Nat) (w0 : Base) (ρ : Nat → Option Nat) (I : Nat → Prop) (H : Nat → Option Blk) (w : World) (lo hi : Nat) (eff : Eff) (v : Value)
    (ρ' : Nat → Option Nat) (I' : Nat → Prop) (w' : World) : Prop where
  ext : Ext I I' w.heap w'.heap
  rho : ∀ b r, ρ b = some r → ρ' b = some r
  out : ∀ b, ¬ (lo ≤ b ∧ b < hi) → ρ' b = ρ b
  val : RC ρ' w'.heap I' eff.val v
  mem : SimH G base w0 ρ' I' (updH H eff.sets) w'

theorem Step.still (hs : SimH G base w0 ρ I H w) {lo hi : Nat} {c : C} {fp : List Nat} {v : Value} (hv : RC ρ w.heap I c v) : Step G base w0 ρ I H w lo hi ⟨c, [], fp⟩ v ρ I w :=
  ⟨Ext.refl _ _, fun _ _ h => h, fun _ _ => rfl, hv, hs⟩

/-- The old world, and all that is immutable, stays when a new block is laid. -/
theorem ext_alloc (hs : SimH G base w0 ρ I H w) (o : Obj) : Ext I I w.heap (w.alloc o).heap :=
  ⟨fun b hb => alloc_old w o b (hs.ilt b hb), fun _ h => h, fun b c e fr hb => ⟨c, e, fr, by
    rw [alloc_old w o b (Array.getElem?_eq_some_iff.1 hb).1]; exact hb, Nat.le_refl _⟩⟩

def upR (ρ : Nat → Option Nat) (b r : Nat) : Nat → Option Nat := fun x => if x = b then some r else ρ x

theorem SimH.base_le (hs : SimH G base w0 ρ I H w) (hb : base ≤ w0.w.heap.size) : base ≤ w.heap.size := Nat.le_trans hb hs.below.size

/-- A new block of the call's own. -/
theorem SimH.alloc (hs : SimH G base w0 ρ I H w) (hb : base ≤ w0.w.heap.size) {id : Nat} (hid : ρ id = none) (o : Obj) {k : Blk} (hfz : isFz k = false)
    (hk : RB (upR ρ id w.heap.size) (w.alloc o).heap I w.heap.size k) :
    SimH G base w0 (upR ρ id w.heap.size) I (updH H [(id, some k)]) (w.alloc o) := by
  have hx := ext_alloc hs o
  have hsz : (w.alloc o).heap.size = w.heap.size + 1 := by simp
  have hup : ∀ b r, ρ b = some r → upR ρ id w.heap.size b = some r := fun b r h => by
    unfold upR; rw [if_neg]; exact h
    rintro rfl; rw [hid] at h; cases h
  refine ⟨below_set hs.below (g := w.heap.size) (.inl (hs.base_le hb)) rfl rfl rfl (by omega) (fun k hk => by show (w.heap.push o)[k]? = _; rw [Array.getElem?_push, if_neg hk]) (fun c e fr h => by have := (Array.getElem?_eq_some_iff.1 h).1; omega), fun b h => by have := hs.ilt b h; omega, fun g cells hg => RT.mono hx _ _ (hs.glob g cells hg), ?_, ?_, ?_, hs.io, fun b r h => hup b r (hs.keep b r h)⟩
  · intro b k' hk'
    simp only [updH] at hk'
    by_cases hbi : b = id
    · subst hbi
      rw [if_pos rfl] at hk'
      cases hk'
      refine ⟨w.heap.size, by simp [upR], .inl (hs.base_le hb), hk, (fun h => by rw [hfz] at h; cases h), fun _ hI => ?_⟩
      have := hs.ilt _ hI
      omega
    · rw [if_neg hbi] at hk'
      obtain ⟨r, h1, h2, h3, h4⟩ := hs.blk b k' hk'
      exact ⟨r, hup _ _ h1, h2, RB.mono hx hup (alloc_old w o r h3.lt) h3, h4⟩
  · intro b b' k1 k2 r h1 h2 h3 h4
    simp only [updH] at h1 h2
    unfold upR at h3 h4
    by_cases e1 : b = id <;> by_cases e2 : b' = id
    · rw [e1, e2]
    · rw [if_pos e1] at h3
      rw [if_neg e2] at h4
      have := hs.rlt _ _ h4
      cases h3
      omega
    · rw [if_neg e1] at h3
      rw [if_pos e2] at h4
      have := hs.rlt _ _ h3
      cases h4
      omega
    · rw [if_neg e1] at h1 h3
      rw [if_neg e2] at h2 h4
      exact hs.inj b b' k1 k2 r h1 h2 h3 h4
  · intro b r h
    unfold upR at h
    split at h
    · cases h; omega
    · have := hs.rlt _ _ h; omega

theorem rho_alloc {id r : Nat} (hid : ρ id = none) : ∀ b x, ρ b = some x → upR ρ id r b = some x := fun b x h => by
  unfold upR; rw [if_neg]; exact h
  rintro rfl; rw [hid] at h; cases h

/-- A draw of the tape turns no block. -/
theorem SimH.drew (hs : SimH G base w0 ρ I H w) : SimH G base w0 ρ I H w.drew := ⟨hs.below.trans ⟨rfl, (Below.refl base w).drew.tape, rfl, Nat.le_refl _, fun _ _ _ => rfl, fun _ c e fr hb => ⟨c, e, fr, hb, Nat.le_refl _⟩⟩, hs.ilt, hs.glob, hs.blk, hs.inj, hs.rlt, hs.io, hs.keep⟩

/-- One of the call's own rows of cells is written. -/
theorem SimH.setRow (hs : SimH G base w0 ρ I H w) {b r : Nat} {cs : List C} (hb : H b = some (.cells cs false)) (hr : ρ b = some r) {c : Array Value} {el : TypeId}
    (hc : w.heap[r]? = some (.cells c el (0, 0))) (c' : Array Value) (hsz : c'.size = c.size) {cs' : List C} (hl : cs'.length ≤ c'.size) (ho : ones (win c' 0 cs'.length))
    (hcs : RCs ρ w.heap I cs' (win c' 0 cs'.length)) :
    Ext I I w.heap (w.setRow r c').heap ∧ SimH G base w0 ρ I (updH H [(b, some (.cells cs' false))]) (w.setRow r c') := by
  obtain ⟨r', hr', hbase, _, _, hnI⟩ := hs.blk b _ hb
  have : r' = r := by rw [hr] at hr'; cases hr'; rfl
  subst this
  have hx : Ext I I w.heap (w.setRow r' c').heap := by
    refine ⟨fun k hk => setRow_other w r' k c' (fun e => hnI rfl (e ▸ hk)), fun _ h => h, fun k d e fr hd => ?_⟩
    by_cases hkr : k = r'
    · subst hkr
      rw [hc] at hd
      cases hd
      exact ⟨c', _, _, setRow_heap w k c c' el (0, 0) hc, by omega⟩
    · exact ⟨d, e, fr, by rw [setRow_other w r' k c' hkr]; exact hd, Nat.le_refl _⟩
  refine ⟨hx, below_row hs.below hbase c' (fun d e fr hd => by rw [hc] at hd; cases hd; exact ⟨c', _, _, setRow_heap w r' c c' el (0, 0) hc, by omega⟩), fun k hk => by rw [setRow_size]; exact hs.ilt k hk, fun g cells hg => RT.mono hx _ _ (hs.glob g cells hg), ?_, ?_, fun b r h => by rw [setRow_size]; exact hs.rlt b r h, hs.io, hs.keep⟩
  · intro b2 k2 hk2
    simp only [updH] at hk2
    by_cases hbb : b2 = b
    · subst hbb
      rw [if_pos rfl] at hk2
      cases hk2
      exact ⟨r', hr, hbase, ⟨c', el, setRow_heap w r' c c' el (0, 0) hc, hl, RCs.mono hx (fun _ _ h => h) _ _ hcs, ho⟩, (fun h => by cases h), hnI⟩
    · rw [if_neg hbb] at hk2
      obtain ⟨r2, h1, h2, h3, h4⟩ := hs.blk b2 k2 hk2
      have hne : r2 ≠ r' := fun e => hbb (hs.inj b2 b k2 _ r2 hk2 hb h1 (e ▸ hr))
      exact ⟨r2, h1, h2, RB.mono hx (fun _ _ h => h) (setRow_other w r' r2 c' hne) h3, h4⟩
  · intro b1 b2 k1 k2 r h1 h2 h3 h4
    simp only [updH] at h1 h2
    by_cases e1 : b1 = b <;> by_cases e2 : b2 = b
    · rw [e1, e2]
    · rw [if_neg e2] at h2; exact hs.inj b1 b2 _ k2 r (e1 ▸ hb) h2 h3 h4
    · rw [if_neg e1] at h1; exact hs.inj b1 b2 k1 _ r h1 (e2 ▸ hb) h3 h4
    · rw [if_neg e1] at h1; rw [if_neg e2] at h2; exact hs.inj b1 b2 k1 k2 r h1 h2 h3 h4

def setObjW (w : World) (r : Nat) (o : Obj) : World := { w with heap := w.heap.setIfInBounds r o }

/-- One of the call's own maps is written. -/
theorem SimH.setMap (hs : SimH G base w0 ρ I H w) {b r : Nat} {ks : List Value} {vs : List C} (hb : H b = some (.map ks vs false)) (hr : ρ b = some r) {es : Array MapEntry} {clk : Nat}
    (hc : w.heap[r]? = some (.map es clk)) (es' : Array MapEntry) (clk' : Nat) {ks' : List Value} {vs' : List C} {l' : List MapEntry} (hl : MapOf es' clk' l') (hk : l'.map (·.key) = ks')
    (hcs : RCs ρ w.heap I vs' (l'.map (·.val))) :
    Ext I I w.heap (setObjW w r (.map es' clk')).heap ∧ SimH G base w0 ρ I (updH H [(b, some (.map ks' vs' false))]) (setObjW w r (.map es' clk')) := by
  obtain ⟨r', hr', hbase, _, _, hnI⟩ := hs.blk b _ hb
  have : r' = r := by rw [hr] at hr'; cases hr'; rfl
  subst this
  have hlt := (Array.getElem?_eq_some_iff.1 hc).1
  have hoth : ∀ k, k ≠ r' → (setObjW w r' (.map es' clk')).heap[k]? = w.heap[k]? := fun k hk => by
    simp [setObjW, Ne.symm hk]
  have hsame : (setObjW w r' (.map es' clk')).heap[r']? = some (.map es' clk') := by simp [setObjW, hlt]
  have hsz : (setObjW w r' (.map es' clk')).heap.size = w.heap.size := by simp [setObjW]
  have hx : Ext I I w.heap (setObjW w r' (.map es' clk')).heap := by
    refine ⟨fun k hk => hoth k (fun e => hnI rfl (e ▸ hk)), fun _ h => h, fun k d e fr hd => ?_⟩
    by_cases hkr : k = r'
    · subst hkr; rw [hc] at hd; cases hd
    · exact ⟨d, e, fr, by rw [hoth k hkr]; exact hd, Nat.le_refl _⟩
  have hbel : BelowX w0.K base w0.w (setObjW w r' (.map es' clk')) := below_set hs.below hbase rfl rfl rfl (by rw [hsz]; exact Nat.le_refl _) hoth (fun d e fr hd => by rw [hc] at hd; cases hd)
  refine ⟨hx, hbel, fun k hk => by rw [hsz]; exact hs.ilt k hk, fun g cells hg => RT.mono hx _ _ (hs.glob g cells hg), ?_, ?_, fun b r h => by rw [hsz]; exact hs.rlt b r h, hs.io, hs.keep⟩
  · intro b2 k2 hk2
    simp only [updH] at hk2
    by_cases hbb : b2 = b
    · subst hbb
      rw [if_pos rfl] at hk2
      cases hk2
      exact ⟨r', hr, hbase, ⟨es', clk', l', hsame, hl, hk, RCs.mono hx (fun _ _ h => h) _ _ hcs⟩, (fun h => by cases h), hnI⟩
    · rw [if_neg hbb] at hk2
      obtain ⟨r2, h1, h2, h3, h4⟩ := hs.blk b2 k2 hk2
      have hne : r2 ≠ r' := fun e => hbb (hs.inj b2 b k2 _ r2 hk2 hb h1 (e ▸ hr))
      exact ⟨r2, h1, h2, RB.mono hx (fun _ _ h => h) (hoth r2 hne) h3, h4⟩
  · intro b1 b2 k1 k2 r h1 h2 h3 h4
    simp only [updH] at h1 h2
    by_cases e1 : b1 = b <;> by_cases e2 : b2 = b
    · rw [e1, e2]
    · rw [if_neg e2] at h2; exact hs.inj b1 b2 _ k2 r (e1 ▸ hb) h2 h3 h4
    · rw [if_neg e1] at h1; exact hs.inj b1 b2 k1 _ r h1 (e2 ▸ hb) h3 h4
    · rw [if_neg e1] at h1; rw [if_neg e2] at h2; exact hs.inj b1 b2 k1 k2 r h1 h2 h3 h4

/-- One of the call's own iterators goes on. -/
theorem SimH.setIter (hs : SimH G base w0 ρ I H w) {b r : Nat} {k k' : Blk} (hb : H b = some k) (hfz : isFz k = false) (hfz' : isFz k' = false) (hr : ρ b = some r) {m : Option Nat} {x y : Nat} {s : Array Nat}
    (hc : w.heap[r]? = some (.mapIter m x s y)) (o : Obj) (hk : ∀ {h : Array Obj}, h[r]? = some o → Ext I I w.heap h → RB ρ h I r k') :
    Ext I I w.heap (setObjW w r o).heap ∧ SimH G base w0 ρ I (updH H [(b, some k')]) (setObjW w r o) := by
  obtain ⟨r', hr', hbase, _, _, hnI⟩ := hs.blk b _ hb
  have : r' = r := by rw [hr] at hr'; cases hr'; rfl
  subst this
  have hlt := (Array.getElem?_eq_some_iff.1 hc).1
  have hoth : ∀ k, k ≠ r' → (setObjW w r' o).heap[k]? = w.heap[k]? := fun k hk => by
    simp [setObjW, Ne.symm hk]
  have hsame : (setObjW w r' o).heap[r']? = some o := by simp [setObjW, hlt]
  have hsz : (setObjW w r' o).heap.size = w.heap.size := by simp [setObjW]
  have hx : Ext I I w.heap (setObjW w r' o).heap := by
    refine ⟨fun k hk => hoth k (fun e => hnI hfz (e ▸ hk)), fun _ h => h, fun k d e fr hd => ?_⟩
    by_cases hkr : k = r'
    · subst hkr; rw [hc] at hd; cases hd
    · exact ⟨d, e, fr, by rw [hoth k hkr]; exact hd, Nat.le_refl _⟩
  have hbel : BelowX w0.K base w0.w (setObjW w r' o) := below_set hs.below hbase rfl rfl rfl (by rw [hsz]; exact Nat.le_refl _) hoth (fun d e fr hd => by rw [hc] at hd; cases hd)
  refine ⟨hx, hbel, fun k hk => by rw [hsz]; exact hs.ilt k hk, fun g cells hg => RT.mono hx _ _ (hs.glob g cells hg), ?_, ?_, fun b r h => by rw [hsz]; exact hs.rlt b r h, hs.io, hs.keep⟩
  · intro b2 k2 hk2
    simp only [updH] at hk2
    by_cases hbb : b2 = b
    · subst hbb
      rw [if_pos rfl] at hk2
      cases hk2
      exact ⟨r', hr, hbase, hk hsame hx, (fun h => by rw [hfz'] at h; cases h), fun _ => hnI hfz⟩
    · rw [if_neg hbb] at hk2
      obtain ⟨r2, h1, h2, h3, h4⟩ := hs.blk b2 k2 hk2
      have hne : r2 ≠ r' := fun e => hbb (hs.inj b2 b k2 _ r2 hk2 hb h1 (e ▸ hr))
      exact ⟨r2, h1, h2, RB.mono hx (fun _ _ h => h) (hoth r2 hne) h3, h4⟩
  · intro b1 b2 k1 k2 r h1 h2 h3 h4
    simp only [updH] at h1 h2
    by_cases e1 : b1 = b <;> by_cases e2 : b2 = b
    · rw [e1, e2]
    · rw [if_neg e2] at h2; exact hs.inj b1 b2 _ k2 r (e1 ▸ hb) h2 h3 h4
    · rw [if_neg e1] at h1; exact hs.inj b1 b2 k1 _ r h1 (e2 ▸ hb) h3 h4
    · rw [if_neg e1] at h1; rw [if_neg e2] at h2; exact hs.inj b1 b2 k1 k2 r h1 h2 h3 h4

/-- A block is given up. -/
theorem SimH.kill (hs : SimH G base w0 ρ I H w) (b : Nat) : SimH G base w0 ρ I (updH H [(b, none)]) w := by
  refine ⟨hs.below, hs.ilt, hs.glob, fun b2 k hk => ?_, fun b1 b2 k1 k2 r h1 h2 h3 h4 => ?_, hs.rlt, hs.io, hs.keep⟩
  · simp only [updH] at hk
    split at hk
    · cases hk
    · exact hs.blk b2 k hk
  · simp only [updH] at h1 h2
    split at h1
    · cases h1
    · split at h2
      · cases h2
      · exact hs.inj b1 b2 k1 k2 r h1 h2 h3 h4

/-- Blocks are made immutable. -/
def J (ρ : Nat → Option Nat) (I : Nat → Prop) (ms : List Nat) : Nat → Prop := fun k => I k ∨ ∃ b, b ∈ ms ∧ ρ b = some k

theorem ext_J (w : World) (ms : List Nat) : Ext I (J ρ I ms) w.heap w.heap := ⟨fun _ _ => rfl, fun _ h => .inl h, fun _ c e fr hb => ⟨c, e, fr, hb, Nat.le_refl _⟩⟩
theorem ext_JJ (w : World) {ms ns : List Nat} (h : ∀ b, b ∈ ms → b ∈ ns) : Ext (J ρ I ms) (J ρ I ns) w.heap w.heap :=
  ⟨fun _ _ => rfl, fun _ hk => hk.elim .inl fun ⟨b, hb, hr⟩ => .inr ⟨b, h b hb, hr⟩, fun _ c e fr hb => ⟨c, e, fr, hb, Nat.le_refl _⟩⟩

theorem updH_marks : ∀ (ms : List Nat) (H0 H : Nat → Option Blk) (b : Nat), updH H (marks H0 ms) b = if b ∈ ms then (match H0 b with | some k => some (markB k) | none => H b) else H b
  | [], H0, H, b => by simp [marks, updH]
  | m :: ms, H0, H, b => by
    simp only [marks]
    cases hm : H0 m with
    | none =>
      rw [updH_marks ms H0 H b]
      by_cases hb : b ∈ ms
      · simp [hb]
      · by_cases hbm : b = m
        · subst hbm; simp [hb, hm]
        · simp [hb, hbm]
    | some k =>
      simp only [updH]
      rw [updH_marks ms H0 _ b]
      by_cases hb : b ∈ ms
      · simp only [hb, if_true, List.mem_cons, or_true]
        cases h0 : H0 b with
        | some k' => rfl
        | none =>
          have : b ≠ m := fun e => by rw [e, hm] at h0; cases h0
          simp [this]
      · by_cases hbm : b = m
        · subst hbm; simp [hb, hm]
        · simp [hb, hbm]

theorem updH_append : ∀ (a b : List (Nat × Option Blk)) (H : Nat → Option Blk), updH H (a ++ b) = updH (updH H a) b
  | [], b, H => rfl
  | (x, k) :: a, b, H => by simp only [List.cons_append, updH]; exact updH_append a b _

theorem isFz_markB (k : Blk) : isFz (markB k) = true := by cases k <;> rfl
theorem RB.markB {h : Array Obj} {r : Nat} : ∀ {k : Blk}, RB ρ h I r k → RB ρ h I r (markB k)
  | .cells .., hb => hb
  | .map .., hb => hb
  | .iter .., hb => by have := hb.lt; simpa only [Va.markB, RB] using this
  | .dead, hb => hb

theorem SimH.marks (hs : SimH G base w0 ρ I H w) {ms : List Nat} (hd : ∀ b, b ∈ ms → ∃ k, H b = some k) : SimH G base w0 ρ (J ρ I ms) (updH H (marks H ms)) w := by
  have hx : Ext I (J ρ I ms) w.heap w.heap := ext_J w ms
  have hupd : ∀ b, updH H (Va.marks H ms) b = if b ∈ ms then (match H b with | some k => some (Va.markB k) | none => H b) else H b := updH_marks ms H H
  have hold : ∀ b k, updH H (Va.marks H ms) b = some k → ∃ k0, H b = some k0 ∧ k = if b ∈ ms then Va.markB k0 else k0 := fun b k hk => by
    rw [hupd] at hk
    by_cases hb : b ∈ ms
    · rw [if_pos hb] at hk
      obtain ⟨k0, h0⟩ := hd b hb
      rw [h0] at hk
      exact ⟨k0, h0, by rw [if_pos hb]; simpa using hk.symm⟩
    · rw [if_neg hb] at hk
      exact ⟨k, hk, by rw [if_neg hb]⟩
  refine ⟨hs.below, fun k hk => ?_, fun g cells hg => RT.mono hx _ _ (hs.glob g cells hg), fun b k hk => ?_, fun b1 b2 k1 k2 r h1 h2 h3 h4 => ?_, hs.rlt, ⟨fun b hb => .inl (hs.io.1 b hb), fun k hk => ?_⟩, hs.keep⟩
  · rcases hk with hk | ⟨b, _, hr⟩
    · exact hs.ilt k hk
    · exact hs.rlt b k hr
  · obtain ⟨k0, h0, hk0⟩ := hold b k hk
    obtain ⟨r, h1, h2, h3, h4, h5⟩ := hs.blk b k0 h0
    by_cases hb : b ∈ ms
    · rw [if_pos hb] at hk0
      subst hk0
      refine ⟨r, h1, h2, RB.mono hx (fun _ _ h => h) rfl (RB.markB h3), fun _ => .inr ⟨b, hb, h1⟩, fun h => by rw [isFz_markB] at h; cases h⟩
    · rw [if_neg hb] at hk0
      subst hk0
      refine ⟨r, h1, h2, RB.mono hx (fun _ _ h => h) rfl h3, fun h => .inl (h4 h), fun h hJ => ?_⟩
      rcases hJ with hJ | ⟨b', hb', hr'⟩
      · exact h5 h hJ
      · obtain ⟨k', hk'⟩ := hd b' hb'
        have := hs.inj b b' _ k' r h0 hk' h1 hr'
        exact hb (this ▸ hb')
  · obtain ⟨k3, e1, _⟩ := hold b1 k1 h1
    obtain ⟨k4, e2, _⟩ := hold b2 k2 h2
    exact hs.inj b1 b2 k3 k4 r e1 e2 h3 h4
  · rcases hk with hk | ⟨b, hb, hr⟩
    · exact hs.io.2 k hk
    · obtain ⟨k0, h0⟩ := hd b hb
      obtain ⟨r, h1, h2, _⟩ := hs.blk b k0 h0
      rw [hr] at h1
      cases h1
      exact .inr h2

/-! ## From cells to trees -/
theorem frzL_sound {w : World} {f : C → Option (T × List Nat)} (hf : ∀ c t ms, f c = some (t, ms) → (∀ b, b ∈ ms → ∃ k, H b = some k) ∧ ∀ v, RC ρ w.heap I c v → RT w.heap (J ρ I ms) t v) :
    ∀ (cs : List C) (ts : List T) (ms : List Nat), frzL f cs = some (ts, ms) → (∀ b, b ∈ ms → ∃ k, H b = some k) ∧ ts.length = cs.length ∧ ∀ vs, RCs ρ w.heap I cs vs → RTs w.heap (J ρ I ms) ts vs
  | [], ts, ms, h => by
    simp only [frzL, Option.some.injEq, Prod.mk.injEq] at h
    obtain ⟨rfl, rfl⟩ := h
    exact ⟨(fun b hb => by cases hb), rfl, fun vs hv => by simpa only [RCs, RTs] using hv⟩
  | c :: cs, ts, ms, h => by
    simp only [frzL] at h
    split at h
    · rename_i t m ts' ms' h1 h2
      simp only [Option.some.injEq, Prod.mk.injEq] at h
      obtain ⟨rfl, rfl⟩ := h
      obtain ⟨d1, g1⟩ := hf c t m h1
      obtain ⟨d2, l2, g2⟩ := frzL_sound hf cs ts' ms' h2
      refine ⟨fun b hb => (List.mem_append.1 hb).elim (d1 b) (d2 b), by simp [l2], fun vs hv => ?_⟩
      simp only [RCs, RTs] at hv ⊢
      obtain ⟨v, rest, rfl, h3, h4⟩ := hv
      exact ⟨v, rest, rfl, RT.mono (ext_JJ w fun b hb => List.mem_append.2 (.inl hb)) _ _ (g1 v h3), RTs.mono (ext_JJ w fun b hb => List.mem_append.2 (.inr hb)) _ _ (g2 rest h4)⟩
    · cases h

theorem win_take {c : Array Value} {lo n m : Nat} (h : m ≤ n) : (win c lo n).take m = win c lo m := by
  simp only [win, List.take_take]; rw [Nat.min_eq_left h]
theorem ones_sub {l l' : List Value} (h : ones l) (hs : ∀ v, v ∈ l' → v ∈ l) : ones l' := fun v hv => h v (hs v hv)

theorem frz_sound (hs : SimH G base w0 ρ I H w) : ∀ (n : Nat) (c : C) (t : T) (ms : List Nat), frz H n c = some (t, ms) → (∀ b, b ∈ ms → ∃ k, H b = some k) ∧ ∀ v, RC ρ w.heap I c v → RT w.heap (J ρ I ms) t v
  | 0, c, t, ms, h => by simp [frz] at h
  | n + 1, .t x, t, ms, h => by
    simp only [frz, Option.some.injEq, Prod.mk.injEq] at h
    obtain ⟨rfl, rfl⟩ := h
    exact ⟨(fun b hb => by cases hb), fun v hv => by simp only [RC] at hv; exact RT.mono (ext_J w _) _ _ hv⟩
  | n + 1, .loc b off, t, ms, h => by
    simp only [frz] at h
    split at h
    · rename_i cs fz hb
      cases hq : frzL (frz H n) cs with
      | none => simp [hq] at h
      | some q =>
        obtain ⟨ts, ns⟩ := q
        simp only [hq, Option.map_some, Option.some.injEq, Prod.mk.injEq] at h
        obtain ⟨rfl, rfl⟩ := h
        obtain ⟨d, l, g⟩ := frzL_sound (frz_sound hs n) cs ts ns hq
        refine ⟨fun x hx => (List.mem_cons.1 hx).elim (fun e => ⟨_, e ▸ hb⟩) (d x), fun v hv => ?_⟩
        simp only [RC, RT] at hv ⊢
        obtain ⟨r, hr, rfl⟩ := hv
        obtain ⟨r', hr', _, hrb, _⟩ := hs.blk b _ hb
        have : r' = r := by rw [hr] at hr'; cases hr'; rfl
        subst this
        simp only [RB] at hrb
        obtain ⟨c, e, h1, h2, h3, h4⟩ := hrb
        refine ⟨r', 0, c, e, (0, 0), by simp, .inr ⟨b, List.mem_cons_self, hr⟩, h1, ?_, by rw [l]; exact h4⟩
        rw [l]
        exact RTs.mono (ext_JJ w fun x hx => List.mem_cons_of_mem _ hx) _ _ (g _ h3)
    · cases h
  | n + 1, .osl b k sz, t, ms, h => by
    simp only [frz] at h
    split at h
    · rename_i cs fz hb
      split at h
      · rename_i hle
        cases hq : frzL (frz H n) (cs.take (k * sz)) with
        | none => simp [hq] at h
        | some q =>
          obtain ⟨ts, ns⟩ := q
          simp only [hq, Option.map_some, Option.some.injEq, Prod.mk.injEq] at h
          obtain ⟨rfl, rfl⟩ := h
          obtain ⟨d, l, g⟩ := frzL_sound (frz_sound hs n) _ ts ns hq
          refine ⟨fun x hx => (List.mem_cons.1 hx).elim (fun e => ⟨_, e ▸ hb⟩) (d x), fun v hv => ?_⟩
          simp only [RC, RT] at hv ⊢
          obtain ⟨r, cap, c0, e0, fr0, hr, rfl, hcap, _, _⟩ := hv
          obtain ⟨r', hr', _, hrb, _⟩ := hs.blk b _ hb
          have : r' = r := by rw [hr] at hr'; cases hr'; rfl
          subst this
          simp only [RB] at hrb
          obtain ⟨c, e, h1, h2, h3, h4⟩ := hrb
          have hl : ts.length = k * sz := by rw [l, List.length_take]; omega
          refine ⟨r', 0, cap, c, e, (0, 0), rfl, .inr ⟨b, List.mem_cons_self, hr⟩, h1, ?_, ?_, hcap, fun h => by cases h⟩
          · rw [hl]
            have h5 := h3.take (k * sz)
            rw [win_take hle] at h5
            exact RTs.mono (ext_JJ w fun x hx => List.mem_cons_of_mem _ hx) _ _ (g _ h5)
          · rw [hl, ← win_take hle]
            exact ones_sub h4 fun v hv => List.mem_of_mem_take hv
      · cases h
    · cases h
  | n + 1, .omp b, t, ms, h => by
    simp only [frz] at h
    split at h
    · rename_i ks vs fz hb
      cases hq : frzL (frz H n) vs with
      | none => simp [hq] at h
      | some q =>
        obtain ⟨ts, ns⟩ := q
        simp only [hq, Option.map_some, Option.some.injEq, Prod.mk.injEq] at h
        obtain ⟨rfl, rfl⟩ := h
        obtain ⟨d, l, g⟩ := frzL_sound (frz_sound hs n) _ ts ns hq
        refine ⟨fun x hx => (List.mem_cons.1 hx).elim (fun e => ⟨_, e ▸ hb⟩) (d x), fun v hv => ?_⟩
        simp only [RC, RT] at hv ⊢
        obtain ⟨r, hr, rfl⟩ := hv
        obtain ⟨r', hr', _, hrb, _⟩ := hs.blk b _ hb
        have : r' = r := by rw [hr] at hr'; cases hr'; rfl
        subst this
        simp only [RB] at hrb
        obtain ⟨es, clk, l, h1, hl, h2, h3⟩ := hrb
        exact ⟨r', es, clk, l, rfl, .inr ⟨b, List.mem_cons_self, hr⟩, h1, hl, h2, RTs.mono (ext_JJ w fun x hx => List.mem_cons_of_mem _ hx) _ _ (g _ h3)⟩
    · cases h
  | n + 1, .agg cs, t, ms, h => by
    simp only [frz] at h
    cases hq : frzL (frz H n) cs with
    | none => simp [hq] at h
    | some q =>
      obtain ⟨ts, ns⟩ := q
      simp only [hq, Option.map_some, Option.some.injEq, Prod.mk.injEq] at h
      obtain ⟨rfl, rfl⟩ := h
      obtain ⟨d, l, g⟩ := frzL_sound (frz_sound hs n) _ ts ns hq
      refine ⟨d, fun v hv => ?_⟩
      simp only [RC, RT] at hv ⊢
      obtain ⟨vs, rfl, h1⟩ := hv
      exact ⟨vs, rfl, g _ h1⟩
  | n + 1, .fn f x y, t, ms, h => by
    simp only [frz] at h
    split at h
    · rename_i ts m us m' h1 h2
      simp only [Option.some.injEq, Prod.mk.injEq] at h
      obtain ⟨rfl, rfl⟩ := h
      obtain ⟨d1, _, g1⟩ := frzL_sound (frz_sound hs n) _ ts m h1
      obtain ⟨d2, _, g2⟩ := frzL_sound (frz_sound hs n) _ us m' h2
      refine ⟨fun b hb => (List.mem_append.1 hb).elim (d1 b) (d2 b), fun v hv => ?_⟩
      simp only [RC, RT] at hv ⊢
      obtain ⟨as, bs, rfl, h3, h4⟩ := hv
      exact ⟨as, bs, rfl, RTs.mono (ext_JJ w fun b hb => List.mem_append.2 (.inl hb)) _ _ (g1 _ h3), RTs.mono (ext_JJ w fun b hb => List.mem_append.2 (.inr hb)) _ _ (g2 _ h4)⟩
    · cases h
  | n + 1, .bad, t, ms, h => by simp [frz] at h
  | n + 1, .tup cs, t, ms, h => by simp [frz] at h
end
end Go.Va
namespace Go.Va
open Go Go.RowKit

def Res (P : Program) (o : Oper) (a : Act) (w : World) (K : Value → World → Prop) : Prop :=
  (∃ v w', (execOp a.eval o).run P w = .ok (.value v) w' ∧ K v w') ∨ (∃ w', (execOp a.eval o).run P w = .ok .skip w' ∧ K undef w')

section
variable {P : Program} {G : Nat → Option (List T)} {base nt : Nat} {w0 : Base} {w : World} {ρ : Nat → Option Nat} {I : Nat → Prop} {e : Nat → Option C} {H : Nat → Option Blk} {a : Act}

theorem ev_sound (hs : Sim G base w0 nt ρ I e H a w) {x : Operand} {c : C} (h : ev G e x = some c) : RC ρ w.heap I c (a.eval x) := by
  cases x with
  | tmp t => exact hs.env t c h
  | const v =>
    simp only [ev] at h
    split at h
    · rename_i hf; cases h; simp only [RC, RT]; exact ⟨rfl, hf⟩
    · cases h
  | func f =>
    simp only [ev, Option.some.injEq] at h
    subst h
    simp only [RC, RT]
    exact ⟨#[], #[], rfl, by simp only [RTs], by simp only [RTs]⟩
  | global g =>
    simp only [ev] at h
    cases hg : G g with
    | none => simp [hg] at h
    | some cells =>
      simp only [hg, Option.map_some, Option.some.injEq] at h
      subst h
      simp only [RC]
      exact hs.mem.glob g cells hg

theorem evs_sound (hs : Sim G base w0 nt ρ I e H a w) : ∀ {xs : List Operand} {cs : List C}, evs G e xs = some cs → RCs ρ w.heap I cs (xs.map a.eval)
  | [], cs, h => by simp only [evs, Option.some.injEq] at h; subst h; simp only [RCs]; rfl
  | x :: xs, cs, h => by
    simp only [evs] at h
    split at h
    · rename_i c cs' h1 h2
      cases h
      simp only [RCs]
      exact ⟨_, _, rfl, ev_sound hs h1, evs_sound hs h2⟩
    · cases h

/-! ### One word -/
theorem oneC_one {c : C} {v : Value} (h : oneC c = true) (hv : RC ρ w.heap I c v) : v.oneCell' = true := by
  cases c with
  | bad => simp [oneC] at h
  | agg _ => simp [oneC] at h
  | tup _ => simp [oneC] at h
  | loc b off => simp only [RC] at hv; obtain ⟨r, _, rfl⟩ := hv; rfl
  | osl b n sz => simp only [RC] at hv; obtain ⟨r, cap, c, e, fr, _, rfl, _⟩ := hv; rfl
  | omp b => simp only [RC] at hv; obtain ⟨r, _, rfl⟩ := hv; rfl
  | fn f a b => simp only [RC] at hv; obtain ⟨as, bs, rfl, _⟩ := hv; rfl
  | t x =>
    simp only [RC] at hv
    cases x with
    | lit u =>
      simp only [RT] at hv
      obtain ⟨rfl, hf⟩ := hv
      cases v <;> first | rfl | simp [flat] at hf
    | agg _ => simp [oneC] at h
    | ptr cells off => simp only [RT] at hv; obtain ⟨b, lo, c, e, fr, rfl, _⟩ := hv; rfl
    | sl cells n clip => simp only [RT] at hv; obtain ⟨b, lo, cap, c, e, fr, rfl, _⟩ := hv; rfl
    | mp ks vs => simp only [RT] at hv; obtain ⟨r, es, clk, l, rfl, _⟩ := hv; rfl
    | ifc t x => simp only [RT] at hv; obtain ⟨u, rfl, _⟩ := hv; rfl
    | fn f a b => simp only [RT] at hv; obtain ⟨as, bs, rfl, _⟩ := hv; rfl
    | box x => simp only [RT] at hv; exact hv.2

theorem flat_one {v : Value} (hf : flat v = true) : v.oneCell' = true := by cases v <;> first | rfl | simp [flat] at hf

theorem all_ones : ∀ {cs : List C} {vs : List Value}, cs.all oneC = true → RCs ρ w.heap I cs vs → ones vs
  | [], vs, _, h => by simp only [RCs] at h; subst h; intro v hv; cases hv
  | c :: cs, vs, ho, h => by
    simp only [RCs] at h
    obtain ⟨v, rest, rfl, h1, h2⟩ := h
    simp only [List.all_cons, Bool.and_eq_true] at ho
    intro u hu
    rcases List.mem_cons.1 hu with rfl | hu
    · exact oneC_one ho.1 h1
    · exact all_ones ho.2 h2 u hu

/-- The cells of a value. -/
theorem cellsC_sound {c : C} {xs : List C} {v : Value} (h : cellsC c = some xs) (hv : RC ρ w.heap I c v) : RCs ρ w.heap I xs v.cells.toList := by
  cases c with
  | bad => simp [cellsC] at h
  | tup _ => simp [cellsC] at h
  | agg cs =>
    simp only [cellsC, Option.some.injEq] at h
    subst h
    simp only [RC] at hv
    obtain ⟨vs, rfl, h1⟩ := hv
    exact h1
  | t x =>
    cases x with
    | agg ts =>
      simp only [cellsC, Option.some.injEq] at h
      subst h
      simp only [RC, RT] at hv
      obtain ⟨vs, rfl, h1⟩ := hv
      exact RCs.of_RTs h1
    | _ =>
      simp only [cellsC, Option.some.injEq] at h
      subst h
      have h1 := oneC_one (c := .t _) rfl hv
      have : v.cells = #[v] := by cases v <;> first | rfl | simp [Value.oneCell'] at h1
      rw [this]
      simp only [RCs]
      exact ⟨v, [], rfl, hv, rfl⟩
  | _ =>
    simp only [cellsC, Option.some.injEq] at h
    subst h
    have h1 := oneC_one rfl hv
    have : v.cells = #[v] := by cases v <;> first | rfl | simp [Value.oneCell'] at h1
    rw [this]
    simp only [RCs]
    exact ⟨v, [], rfl, hv, rfl⟩

theorem ofLits_sound : ∀ {l : List Value} {cs : List C}, ofLits l = some cs → RCs ρ w.heap I cs l ∧ ones l ∧ cs.length = l.length
  | [], cs, h => by simp only [ofLits, Option.some.injEq] at h; subst h; exact ⟨by simp only [RCs], (fun v hv => by cases hv), rfl⟩
  | v :: l, cs, h => by
    simp only [ofLits] at h
    split at h
    · rename_i hf
      cases hq : ofLits l with
      | none => simp [hq] at h
      | some r =>
        simp only [hq, Option.map_some, Option.some.injEq] at h
        subst h
        obtain ⟨h1, h2, h3⟩ := ofLits_sound hq
        refine ⟨by simp only [RCs, RC, RT]; exact ⟨v, l, rfl, ⟨rfl, hf⟩, h1⟩, fun u hu => ?_, by simp [h3]⟩
        rcases List.mem_cons.1 hu with rfl | hu
        · exact flat_one hf
        · exact h2 u hu
    · cases h

theorem RC_lit {v : Value} (h : flat v = true) : RC ρ w.heap I (.t (.lit v)) v := by simp [RC, RT, h]

theorem ofV_sound {v : Value} {c : C} (h : ofV v = some c) : RC ρ w.heap I c v := by
  cases v with
  | agg x =>
    simp only [ofV] at h
    cases hq : ofLits x.toList with
    | none => simp [hq] at h
    | some r =>
      simp only [hq, Option.map_some, Option.some.injEq] at h
      subst h
      simp only [RC]
      exact ⟨x, rfl, (ofLits_sound hq).1⟩
  | tuple x =>
    simp only [ofV] at h
    cases hq : ofLits x.toList with
    | none => simp [hq] at h
    | some r =>
      simp only [hq, Option.map_some, Option.some.injEq] at h
      subst h
      simp only [RC]
      exact ⟨x, rfl, (ofLits_sound hq).1⟩
  | _ =>
    simp only [ofV] at h
    split at h
    · rename_i hf; cases h; exact RC_lit hf
    · cases h

theorem litsV_sound {h : Array Obj} : ∀ {ts : List T} {l vs : List Value}, litsV ts = some l → RTs h I ts vs → vs = l
  | [], l, vs, h1, h2 => by simp only [litsV, Option.some.injEq] at h1; subst h1; simpa only [RTs] using h2
  | t :: ts, l, vs, h1, h2 => by
    cases t with
    | lit u =>
      simp only [litsV] at h1
      cases hq : litsV ts with
      | none => simp [hq] at h1
      | some r =>
        simp only [hq, Option.map_some, Option.some.injEq] at h1
        subst h1
        simp only [RTs, RT] at h2
        obtain ⟨v, rest, rfl, ⟨rfl, _⟩, h3⟩ := h2
        rw [litsV_sound hq h3]
    | _ => simp [litsV] at h1
theorem litsC_sound : ∀ {cs : List C} {l vs : List Value}, litsC cs = some l → RCs ρ w.heap I cs vs → vs = l
  | [], l, vs, h1, h2 => by simp only [litsC, Option.some.injEq] at h1; subst h1; simpa only [RCs] using h2
  | c :: cs, l, vs, h1, h2 => by
    cases c with
    | t x =>
      cases x with
      | lit u =>
        simp only [litsC] at h1
        cases hq : litsC cs with
        | none => simp [hq] at h1
        | some r =>
          simp only [hq, Option.map_some, Option.some.injEq] at h1
          subst h1
          simp only [RCs, RC, RT] at h2
          obtain ⟨v, rest, rfl, ⟨rfl, _⟩, h3⟩ := h2
          rw [litsC_sound hq h3]
      | _ => simp [litsC] at h1
    | _ => simp [litsC] at h1
theorem flatV_sound {c : C} {u v : Value} (h : flatV c = some u) (hv : RC ρ w.heap I c v) : v = u := by
  cases c with
  | t x =>
    cases x with
    | lit y =>
      simp only [flatV, Option.some.injEq] at h
      subst h
      simp only [RC, RT] at hv
      exact hv.1
    | agg ts =>
      simp only [flatV] at h
      cases hq : litsV ts with
      | none => simp [hq] at h
      | some r =>
        simp only [hq, Option.map_some, Option.some.injEq] at h
        subst h
        simp only [RC, RT] at hv
        obtain ⟨vs, rfl, h1⟩ := hv
        rw [← litsV_sound hq h1]
    | _ => simp [flatV] at h
  | agg cs =>
    simp only [flatV] at h
    cases hq : litsC cs with
    | none => simp [hq] at h
    | some r =>
      simp only [hq, Option.map_some, Option.some.injEq] at h
      subst h
      simp only [RC] at hv
      obtain ⟨vs, rfl, h1⟩ := hv
      rw [← litsC_sound hq h1]
  | _ => simp [flatV] at h

/-! ### Plain operations -/
theorem evs_mem : ∀ {xs : List Operand} {cs : List C}, evs G e xs = some cs → ∀ x, x ∈ xs → ∃ c, c ∈ cs ∧ ev G e x = some c
  | [], cs, h, x, hx => by cases hx
  | _ :: ys, cs, h, x, hx => by
    simp only [evs] at h
    split at h
    · rename_i c cs' h1 h2
      cases h
      rcases List.mem_cons.1 hx with rfl | hx
      · exact ⟨c, List.mem_cons_self, h1⟩
      · obtain ⟨d, hd, he⟩ := evs_mem h2 x hx
        exact ⟨d, List.mem_cons_of_mem _ hd, he⟩
    · cases h

theorem flatOp_sound (hs : Sim G base w0 nt ρ I e H a w) {o : Oper} {eff : Eff} (lo hi : Nat) (hsel : ∀ cs b, o.op ≠ .select cs b) (h : flatOp P G e o = some eff) :
    Res P o a w fun v w' => Step G base w0 ρ I H w lo hi eff v ρ I w' := by
  unfold flatOp at h
  split at h
  · rename_i cs hcs
    split at h
    · rename_i hall
      split at h
      · rename_i v hpr
        cases hv : ofV v with
        | none => simp [hv] at h
        | some c =>
          simp only [hv, Option.map_some, Option.some.injEq] at h
          subst h
          have he : execOp a.eval o = execOp (fun x => ((ev G e x).bind flatV).getD undef) o := by
            refine execOp_congr o hsel fun x hx => ?_
            obtain ⟨c', hc', hx'⟩ := evs_mem hcs x (by simpa using hx)
            have h1 := List.all_eq_true.1 hall c' hc'
            obtain ⟨u, hu⟩ := Option.isSome_iff_exists.1 h1
            simp only [hx', Option.bind_some, hu, Option.getD_some]
            exact flatV_sound hu (ev_sound hs hx')
          refine .inl ⟨v, w, ?_, Step.still hs.mem (ofV_sound hv)⟩
          rw [he]
          exact pr_run _ _ hpr w
      · cases h
    · cases h
  · cases h

theorem eq_of_some {α : Type} {x : Option α} {a b : α} (h : x = some a) (h' : x = some b) : a = b := by rw [h] at h'; cases h'; rfl

/-! ### Reading a part of a row -/
theorem run_isAgg {ty : TypeId} {d : TypeDesc} (hd : P.underlying ty = some d) (w : World) : (isAgg ty).run P w = .ok (isAggB d) w := by
  unfold isAgg
  rw [Sem.run_bind, run_underlying hd w]
  cases d <;> rfl
theorem run_sizeOf' {ty : TypeId} {i : TypeInfo} (hi : P.info? ty = some i) (w : World) : (sizeOf ty).run P w = .ok i.size w := by
  simp [sizeOf, typeInfo, hi]

theorem addr_add (b off j : Nat) : (⟨b, off, none⟩ : Addr).add j = ⟨b, off + j, none⟩ := by unfold Addr.add; split <;> simp_all

theorem win_get {c : Array Value} {lo n j : Nat} {v : Value} (h : (win c lo n)[j]? = some v) : j < n ∧ c[lo + j]? = some v := by
  simp only [win, List.getElem?_take, List.getElem?_drop] at h
  split at h
  · rename_i hj; exact ⟨hj, by simpa using h⟩
  · cases h

theorem win_drop_take {c : Array Value} {lo n off k : Nat} (h : off + k ≤ n) : ((win c lo n).drop off).take k = win c (lo + off) k := by
  apply List.ext_getElem?
  intro j
  simp only [win, List.getElem?_take, List.getElem?_drop]
  by_cases hj : j < k
  · have : off + j < n := by omega
    simp [hj, this, Nat.add_assoc]
  · simp [hj]

theorem loadVar_part {ty : TypeId} {cs : List C} {off lo r : Nat} {x : C} {c : Array Value} {el : TypeId} {fr : Nat × Nat} (h : partC P ty cs off = some x)
    (hr : w.heap[r]? = some (.cells c el fr)) (hcs : RCs ρ w.heap I cs (win c lo cs.length)) :
    ∃ v, (loadVar ty ⟨r, lo + off, none⟩).run P w = .ok v w ∧ RC ρ w.heap I x v := by
  unfold partC at h
  split at h
  · rename_i d i hd hi
    split at h
    · rename_i hagg
      split at h
      · rename_i hle
        cases h
        have h1 := (hcs.drop off).take i.size
        rw [win_drop_take (by omega)] at h1
        have hlen := h1.length
        rw [List.length_take, List.length_drop] at hlen
        have hlen' : (win c (lo + off) i.size).length = i.size := by omega
        refine ⟨.agg (win c (lo + off) i.size).toArray, ?_, by simp only [RC]; exact ⟨_, rfl, by simpa using h1⟩⟩
        have hl : (loadCells ⟨r, lo + off, none⟩ (win c (lo + off) i.size).length).run P w = .ok (win c (lo + off) i.size).toArray w :=
          run_loadCells_list (P := P) w ⟨r, lo + off, none⟩ _ (fun j v hv => by
            rw [addr_add, cell_of_row w r _ c el fr hr]
            exact (win_get hv).2)
        rw [hlen'] at hl
        simp only [loadVar, Sem.run_bind, run_isAgg hd, Result.andThen_ok, hagg, if_true, run_sizeOf' hi, hl, Sem.run_pure]
      · cases h
    · rename_i hagg
      obtain ⟨v, hv, hrc⟩ := hcs.get h
      refine ⟨v, ?_, hrc⟩
      have hcell := (win_get hv).2
      have hagg' : isAggB d = false := by simpa using hagg
      simp only [loadVar, Sem.run_bind, run_isAgg hd, Result.andThen_ok, hagg', Bool.false_eq_true, if_false]
      rw [run_load, cell_of_row w r _ c el fr hr, hcell]
  · cases h

/-- The same of a value's own cells. -/
theorem part_part {ty : TypeId} {cs : List C} {off : Nat} {x : C} {vs : Array Value} (h : partC P ty cs off = some x) (hcs : RCs ρ w.heap I cs vs.toList) :
    ∃ v, (part ty vs off).run P w = .ok v w ∧ RC ρ w.heap I x v := by
  unfold partC at h
  split at h
  · rename_i d i hd hi
    split at h
    · rename_i hagg
      split at h
      · rename_i hle
        cases h
        have h1 := (hcs.drop off).take i.size
        refine ⟨.agg (vs.extract off (off + i.size)), ?_, by
          simp only [RC]
          refine ⟨_, rfl, ?_⟩
          rw [Array.toList_extract, List.extract_eq_take_drop]
          simpa using h1⟩
        simp only [part, Sem.run_bind, run_isAgg hd, Result.andThen_ok, hagg, if_true, run_sizeOf' hi, Sem.run_pure]
      · cases h
    · rename_i hagg
      obtain ⟨v, hv, hrc⟩ := hcs.get h
      have hagg' : isAggB d = false := by simpa using hagg
      have hv' : vs[off]? = some v := by simpa using hv
      refine ⟨v, ?_, hrc⟩
      simp only [part, Sem.run_bind, run_isAgg hd, Result.andThen_ok, hagg', Bool.false_eq_true, if_false, hv', Sem.run_pure]
  · cases h

theorem blk_cells (hs : SimH G base w0 ρ I H w) {b r : Nat} {cs : List C} {fz : Bool} (hb : H b = some (.cells cs fz)) (hr : ρ b = some r) :
    ∃ c el, w.heap[r]? = some (.cells c el (0, 0)) ∧ cs.length ≤ c.size ∧ RCs ρ w.heap I cs (win c 0 cs.length) ∧ ones (win c 0 cs.length) := by
  obtain ⟨r', hr', _, hrb, _⟩ := hs.blk b _ hb
  have := eq_of_some hr hr'
  subst this
  simpa only [RB] using hrb
theorem blk_map (hs : SimH G base w0 ρ I H w) {b r : Nat} {ks : List Value} {vs : List C} {fz : Bool} (hb : H b = some (.map ks vs fz)) (hr : ρ b = some r) :
    ∃ es clk l, w.heap[r]? = some (.map es clk) ∧ MapOf es clk l ∧ l.map (·.key) = ks ∧ RCs ρ w.heap I vs (l.map (·.val)) := by
  obtain ⟨r', hr', _, hrb, _⟩ := hs.blk b _ hb
  have := eq_of_some hr hr'
  subst this
  simpa only [RB] using hrb

theorem load_sound (hs : Sim G base w0 nt ρ I e H a w) {o : Oper} {ty : TypeId} {x : Operand} (ho : o.op = .load ty x) {eff : Eff} (lo hi : Nat)
    (h : (match ev G e x with
      | some (.loc b off) => match H b with
        | some (.cells cs _) => (partC P ty cs off).map fun c => (⟨c, [], [b]⟩ : Eff)
        | _ => none
      | some (.t (.ptr ts off)) => (partC P ty (ts.map .t) off).map fun c => ⟨c, [], []⟩
      | _ => none) = some eff) : Res P o a w fun v w' => Step G base w0 ρ I H w lo hi eff v ρ I w' := by
  split at h
  · rename_i b off hx
    split at h
    · rename_i cs fz hb
      cases hp : partC P ty cs off with
      | none => simp [hp] at h
      | some y =>
        simp only [hp, Option.map_some, Option.some.injEq] at h
        subst h
        have hv := ev_sound hs hx
        simp only [RC] at hv
        obtain ⟨r, hr, hv⟩ := hv
        obtain ⟨c, el, h1, h2, h3, h4⟩ := blk_cells hs.mem hb hr
        obtain ⟨v, hl, hrc⟩ := loadVar_part hp h1 h3
        rw [Nat.zero_add] at hl
        refine .inl ⟨v, w, ?_, Step.still hs.mem hrc⟩
        simp only [execOp, ho, hv, Instr.loadAt, Instr.sureAddr, Sem.run_bind, Sem.run_pure, Result.andThen_ok, hl]
    · cases h
  · rename_i ts off hx
    cases hp : partC P ty (ts.map .t) off with
    | none => simp [hp] at h
    | some y =>
      simp only [hp, Option.map_some, Option.some.injEq] at h
      subst h
      have hv := ev_sound hs hx
      simp only [RC, RT] at hv
      obtain ⟨b, l, c, el, fr, hv, _, h1, h3, _⟩ := hv
      have h3' : RCs ρ w.heap I (ts.map .t) (win c l (ts.map C.t).length) := by rw [List.length_map]; exact RCs.of_RTs h3
      obtain ⟨v, hl, hrc⟩ := loadVar_part hp h1 h3'
      refine .inl ⟨v, w, ?_, Step.still hs.mem hrc⟩
      simp only [execOp, ho, hv, Instr.loadAt, Instr.sureAddr, Sem.run_bind, Sem.run_pure, Result.andThen_ok, hl]
  · cases h

theorem splice_length {cs xs : List C} {off : Nat} (h : off + xs.length ≤ cs.length) : (splice cs off xs).length = cs.length := by
  simp [splice]; omega

theorem store_sound (hs : Sim G base w0 nt ρ I e H a w) {o : Oper} {ty : TypeId} {x y : Operand} (ho : o.op = .store ty x y) {eff : Eff} (lo hi : Nat)
    (h : (match ev G e x, (ev G e y).bind cellsC, P.info? ty with
    | some (.loc b off), some xs, some i => match H b with
      | some (.cells cs false) => if xs.length = i.size ∧ off + xs.length ≤ cs.length ∧ xs.all oneC then some (⟨.tup [], [(b, some (.cells (splice cs off xs) false))], [b]⟩ : Eff) else none
      | _ => none
    | _, _, _ => none) = some eff) : Res P o a w fun v w' => Step G base w0 ρ I H w lo hi eff v ρ I w' := by
  split at h
  · rename_i b off xs i hx hy hi
    split at h
    · rename_i cs hb
      split at h
      · rename_i hc
        obtain ⟨hc1, hc2, hc3⟩ := hc
        cases h
        have hv := ev_sound hs hx
        simp only [RC] at hv
        obtain ⟨r, hr, hv⟩ := hv
        obtain ⟨c, el, h1, h2, h3, h4⟩ := blk_cells hs.mem hb hr
        obtain ⟨cy, hy1, hy2⟩ := Option.bind_eq_some_iff.1 hy
        have hcy := cellsC_sound hy2 (ev_sound hs hy1)
        have hones := all_ones hc3 hcy
        have hlen := hcy.length
        have hst := run_storeCells_at P r off el (a.eval y).cells.toList 0 c w h1 (by omega) hones
        simp only [Nat.add_zero] at hst
        generalize hnew : (c.toList.take off ++ (a.eval y).cells.toList ++ c.toList.drop (off + (a.eval y).cells.toList.length)).toArray = c' at hst
        have hsz : c'.size = c.size := by rw [← hnew]; simp at hlen ⊢; omega
        have hwin : win c' 0 (splice cs off xs).length = (win c 0 cs.length).take off ++ (a.eval y).cells.toList ++ (win c 0 cs.length).drop (off + xs.length) := by
          rw [splice_length hc2, ← hnew]
          simp only [win, List.drop_zero]
          apply List.ext_getElem?
          intro j
          have hcs : c.toList.length = c.size := by simp
          simp only [List.getElem?_take, List.getElem?_append, List.getElem?_drop, List.length_take, List.length_append, hlen, List.getElem?_take, hcs]
          have e1 : min off c.size = off := by omega
          have e2 : min off (min cs.length c.size) = off := by omega
          rw [e1, e2]
          repeat' split
          all_goals first
            | rfl
            | (exfalso; omega)
            | (congr 1; omega)
            | (symm; apply List.getElem?_eq_none; simp; omega)
            | skip
        obtain ⟨g1, g2⟩ := hs.mem.setRow hb hr h1 c' hsz (cs' := splice cs off xs) (by rw [splice_length hc2, hsz]; exact h2)
          (by
            rw [hwin]
            intro v hv
            rcases List.mem_append.1 hv with hv | hv
            · rcases List.mem_append.1 hv with hv | hv
              · exact h4 v (List.mem_of_mem_take hv)
              · exact hones v hv
            · exact h4 v (List.mem_of_mem_drop hv))
          (by
            rw [hwin]
            exact ((h3.take off).append hcy).append (h3.drop _))
        refine .inr ⟨w.setRow r c', ?_, ⟨g1, fun _ _ h => h, fun _ _ => rfl, by simp only [RC]; exact ⟨#[], rfl, by simp only [RCs]⟩, g2⟩⟩
        have hsz2 : (a.eval y).cells.size = i.size := by simpa using hlen.trans hc1
        simp only [execOp, ho, hv, Instr.storeAt, Instr.sureAddr, Sem.run_bind, Sem.run_pure, Result.andThen_ok, storeVar, run_sizeOf' hi, hsz2]
        simp [hst]
      · cases h
    · cases h
  · cases h
end
end Go.Va
