/- Trees for Go values, local cells, and how they stand in memory: definitions and their first laws. The interpreter over trees: what a call comes to, with no memory but the call's own blocks. -/
import Derived.WalkKit
import Derived.Maps.RangeRun
namespace Go.Va
open Go Go.RowKit

/-- An immutable value: no address in it. -/
inductive T where
  | lit (v : Value)
  | agg (cs : List T)
  | ptr (cells : List T) (off : Nat)
  | sl (cells : List T) (n : Nat) (clip : Bool)
  | mp (ks : List Value) (vs : List T)
  | ifc (t : TypeId) (x : T)
  | fn (f : Fn) (first capt : List T)
  | box (x : T)

/-- What a slot or a cell of a running call holds: a tree, or a way to one of the call's own blocks. -/
inductive C where
  | bad
  | t (x : T)
  | loc (b off : Nat)
  | osl (b n sz : Nat)
  | omp (b : Nat)
  | agg (cs : List C)
  | tup (cs : List C)
  | fn (f : Fn) (first capt : List C)

/-- A block of the call's own; 'fz': nothing is stored into it any more. -/
inductive Blk where
  | cells (cs : List C) (fz : Bool)
  | map (ks : List Value) (vs : List C) (fz : Bool)
  | iter (todo : List (Value × T)) (cur : Option (Value × T))
  | dead

/-- One result of a call: a tree, or a slice or a map that nobody else holds. -/
inductive R where
  | t (x : T)
  | osl (cells : List T) (n sz : Nat)
  | omp (ks : List Value) (vs : List T)

def flat : Value → Bool
  | .bool _ | .int _ _ | .float _ _ | .complex _ _ _ | .string _ | .nilFunc | .nilIface => true
  | .pointer none | .slice none 0 0 | .map none | .chan none => true
  | _ => false

def win (c : Array Value) (lo n : Nat) : List Value := (c.toList.drop lo).take n
def ones (l : List Value) : Prop := ∀ v, v ∈ l → v.oneCell' = true

/-- The entries of a map, in whatever order: no key twice, each with a stamp of its own. -/
structure MapOf (es : Array MapEntry) (clk : Nat) (l : List MapEntry) : Prop where
  perm : l.Perm es.toList
  keys : (l.map (·.key)).Nodup
  lt : ∀ e, e ∈ l → e.born < clk
  born : (l.map (·.born)).Nodup

mutual
def RT (h : Array Obj) (I : Nat → Prop) : T → Value → Prop
  | .lit x, v => v = x ∧ flat x = true
  | .agg cs, v => ∃ vs : Array Value, v = .agg vs ∧ RTs h I cs vs.toList
  | .ptr cells off, v => ∃ b lo c e fr, v = .pointer (some ⟨b, lo + off, none⟩) ∧ I b ∧ h[b]? = some (.cells c e fr) ∧ RTs h I cells (win c lo cells.length) ∧ ones (win c lo cells.length)
  | .sl cells n clip, v => ∃ b lo cap c e fr, v = .slice (some ⟨b, lo, none⟩) n cap ∧ I b ∧ h[b]? = some (.cells c e fr) ∧ RTs h I cells (win c lo cells.length) ∧ ones (win c lo cells.length) ∧ n ≤ cap ∧ (clip = true → cap = n)
  | .mp ks vs, v => ∃ r es clk l, v = .map (some r) ∧ I r ∧ h[r]? = some (.map es clk) ∧ MapOf es clk l ∧ l.map (·.key) = ks ∧ RTs h I vs (l.map (·.val))
  | .ifc t x, v => ∃ u, v = .iface t u ∧ RT h I x u
  | .fn f a b, v => ∃ as bs, v = .func f as bs ∧ RTs h I a as.toList ∧ RTs h I b bs.toList
  | .box x, v => RT h I x v ∧ v.oneCell' = true
def RTs (h : Array Obj) (I : Nat → Prop) : List T → List Value → Prop
  | [], vs => vs = []
  | c :: cs, vs => ∃ v rest, vs = v :: rest ∧ RT h I c v ∧ RTs h I cs rest
end

mutual
def RC (ρ : Nat → Option Nat) (h : Array Obj) (I : Nat → Prop) : C → Value → Prop
  | .bad, _ => True
  | .t x, v => RT h I x v
  | .loc b off, v => ∃ r, ρ b = some r ∧ v = .pointer (some ⟨r, off, none⟩)
  | .osl b n sz, v => ∃ r cap c e fr, ρ b = some r ∧ v = .slice (some ⟨r, 0, none⟩) n cap ∧ n ≤ cap ∧ h[r]? = some (.cells c e fr) ∧ cap * sz ≤ c.size
  | .omp b, v => ∃ r, ρ b = some r ∧ v = .map (some r)
  | .agg cs, v => ∃ vs : Array Value, v = .agg vs ∧ RCs ρ h I cs vs.toList
  | .tup cs, v => ∃ vs : Array Value, v = .tuple vs ∧ RCs ρ h I cs vs.toList
  | .fn f a b, v => ∃ as bs, v = .func f as bs ∧ RCs ρ h I a as.toList ∧ RCs ρ h I b bs.toList
def RCs (ρ : Nat → Option Nat) (h : Array Obj) (I : Nat → Prop) : List C → List Value → Prop
  | [], vs => vs = []
  | c :: cs, vs => ∃ v rest, vs = v :: rest ∧ RC ρ h I c v ∧ RCs ρ h I cs rest
end

/-- Memory goes on: what is immutable stays; no row of cells changes its length. -/
structure Ext (I J : Nat → Prop) (h h' : Array Obj) : Prop where
  imm : ∀ b, I b → h'[b]? = h[b]?
  sub : ∀ b, I b → J b
  size : ∀ (b : Nat) c e fr, h[b]? = some (.cells c e fr) → ∃ c' e' fr', h'[b]? = some (.cells c' e' fr') ∧ c.size ≤ c'.size

theorem Ext.refl (I : Nat → Prop) (h : Array Obj) : Ext I I h h := ⟨fun _ _ => rfl, fun _ h => h, fun _ c e fr hb => ⟨c, e, fr, hb, Nat.le_refl _⟩⟩
theorem Ext.trans {I J K : Nat → Prop} {h h' h'' : Array Obj} (a : Ext I J h h') (b : Ext J K h' h'') : Ext I K h h'' :=
  ⟨fun k hk => (b.imm k (a.sub k hk)).trans (a.imm k hk), fun k hk => b.sub k (a.sub k hk), fun k c e fr hb => by
    obtain ⟨c', e', fr', h1, h2⟩ := a.size k c e fr hb
    obtain ⟨c'', e'', fr'', h3, h4⟩ := b.size k c' e' fr' h1
    exact ⟨c'', e'', fr'', h3, Nat.le_trans h2 h4⟩⟩

mutual
theorem RT.mono {I J : Nat → Prop} {h h' : Array Obj} (x : Ext I J h h') : ∀ (t : T) (v : Value), RT h I t v → RT h' J t v
  | .lit _, _, hr => by simpa only [RT] using hr
  | .agg cs, v, hr => by
    simp only [RT] at hr ⊢
    obtain ⟨vs, rfl, hs⟩ := hr
    exact ⟨vs, rfl, RTs.mono x cs _ hs⟩
  | .ptr cells off, v, hr => by
    simp only [RT] at hr ⊢
    obtain ⟨b, lo, c, e, fr, rfl, hi, hb, hs, ho⟩ := hr
    exact ⟨b, lo, c, e, fr, rfl, x.sub _ hi, (x.imm _ hi).trans hb, RTs.mono x cells _ hs, ho⟩
  | .sl cells n clip, v, hr => by
    simp only [RT] at hr ⊢
    obtain ⟨b, lo, cap, c, e, fr, rfl, hi, hb, hs, ho, h1, h2⟩ := hr
    exact ⟨b, lo, cap, c, e, fr, rfl, x.sub _ hi, (x.imm _ hi).trans hb, RTs.mono x cells _ hs, ho, h1, h2⟩
  | .mp ks vs, v, hr => by
    simp only [RT] at hr ⊢
    obtain ⟨r, es, clk, l, rfl, hi, hb, hl, hk, hs⟩ := hr
    exact ⟨r, es, clk, l, rfl, x.sub _ hi, (x.imm _ hi).trans hb, hl, hk, RTs.mono x vs _ hs⟩
  | .ifc t y, v, hr => by
    simp only [RT] at hr ⊢
    obtain ⟨u, rfl, hu⟩ := hr
    exact ⟨u, rfl, RT.mono x y u hu⟩
  | .fn f a b, v, hr => by
    simp only [RT] at hr ⊢
    obtain ⟨as, bs, rfl, h1, h2⟩ := hr
    exact ⟨as, bs, rfl, RTs.mono x a _ h1, RTs.mono x b _ h2⟩
  | .box y, v, hr => by
    simp only [RT] at hr ⊢
    exact ⟨RT.mono x y v hr.1, hr.2⟩
theorem RTs.mono {I J : Nat → Prop} {h h' : Array Obj} (x : Ext I J h h') : ∀ (ts : List T) (vs : List Value), RTs h I ts vs → RTs h' J ts vs
  | [], _, hr => by simpa only [RTs] using hr
  | t :: ts, vs, hr => by
    simp only [RTs] at hr ⊢
    obtain ⟨v, rest, rfl, h1, h2⟩ := hr
    exact ⟨v, rest, rfl, RT.mono x t v h1, RTs.mono x ts rest h2⟩
end

mutual
theorem RC.mono {I J : Nat → Prop} {h h' : Array Obj} {ρ ρ' : Nat → Option Nat} (x : Ext I J h h') (hρ : ∀ b r, ρ b = some r → ρ' b = some r) : ∀ (t : C) (v : Value), RC ρ h I t v → RC ρ' h' J t v
  | .bad, _, _ => by simp only [RC]
  | .t y, v, hr => by simp only [RC] at hr ⊢; exact RT.mono x y v hr
  | .loc b off, v, hr => by
    simp only [RC] at hr ⊢
    obtain ⟨r, h1, h2⟩ := hr
    exact ⟨r, hρ _ _ h1, h2⟩
  | .osl b n sz, v, hr => by
    simp only [RC] at hr ⊢
    obtain ⟨r, cap, c, e, fr, h1, h2, h3, h4, h5⟩ := hr
    obtain ⟨c', e', fr', h6, h7⟩ := x.size _ _ _ _ h4
    exact ⟨r, cap, c', e', fr', hρ _ _ h1, h2, h3, h6, Nat.le_trans h5 h7⟩
  | .omp b, v, hr => by
    simp only [RC] at hr ⊢
    obtain ⟨r, h1, h2⟩ := hr
    exact ⟨r, hρ _ _ h1, h2⟩
  | .agg cs, v, hr => by
    simp only [RC] at hr ⊢
    obtain ⟨vs, rfl, hs⟩ := hr
    exact ⟨vs, rfl, RCs.mono x hρ cs _ hs⟩
  | .tup cs, v, hr => by
    simp only [RC] at hr ⊢
    obtain ⟨vs, rfl, hs⟩ := hr
    exact ⟨vs, rfl, RCs.mono x hρ cs _ hs⟩
  | .fn f a b, v, hr => by
    simp only [RC] at hr ⊢
    obtain ⟨as, bs, rfl, h1, h2⟩ := hr
    exact ⟨as, bs, rfl, RCs.mono x hρ a _ h1, RCs.mono x hρ b _ h2⟩
theorem RCs.mono {I J : Nat → Prop} {h h' : Array Obj} {ρ ρ' : Nat → Option Nat} (x : Ext I J h h') (hρ : ∀ b r, ρ b = some r → ρ' b = some r) : ∀ (ts : List C) (vs : List Value), RCs ρ h I ts vs → RCs ρ' h' J ts vs
  | [], _, hr => by simpa only [RCs] using hr
  | t :: ts, vs, hr => by
    simp only [RCs] at hr ⊢
    obtain ⟨v, rest, rfl, h1, h2⟩ := hr
    exact ⟨v, rest, rfl, RC.mono x hρ t v h1, RCs.mono x hρ ts rest h2⟩
end

/-! Lists of cells. -/
section
variable {h : Array Obj} {I : Nat → Prop} {ρ : Nat → Option Nat}

theorem RTs.length : ∀ {ts : List T} {vs : List Value}, RTs h I ts vs → vs.length = ts.length
  | [], _, hr => by simp only [RTs] at hr; simp [hr]
  | t :: ts, vs, hr => by
    simp only [RTs] at hr
    obtain ⟨v, rest, rfl, _, h2⟩ := hr
    simp [RTs.length h2]
theorem RCs.length : ∀ {ts : List C} {vs : List Value}, RCs ρ h I ts vs → vs.length = ts.length
  | [], _, hr => by simp only [RCs] at hr; simp [hr]
  | t :: ts, vs, hr => by
    simp only [RCs] at hr
    obtain ⟨v, rest, rfl, _, h2⟩ := hr
    simp [RCs.length h2]
theorem RCs.get : ∀ {ts : List C} {vs : List Value}, RCs ρ h I ts vs → ∀ {i : Nat} {c : C}, ts[i]? = some c → ∃ v, vs[i]? = some v ∧ RC ρ h I c v
  | [], _, _, i, c, hi => by simp at hi
  | t :: ts, vs, hr, i, c, hi => by
    simp only [RCs] at hr
    obtain ⟨v, rest, rfl, h1, h2⟩ := hr
    cases i with
    | zero => simp at hi; subst hi; exact ⟨v, by simp, h1⟩
    | succ i => simp at hi; simpa using RCs.get h2 hi
theorem RTs.get : ∀ {ts : List T} {vs : List Value}, RTs h I ts vs → ∀ {i : Nat} {c : T}, ts[i]? = some c → ∃ v, vs[i]? = some v ∧ RT h I c v
  | [], _, _, i, c, hi => by simp at hi
  | t :: ts, vs, hr, i, c, hi => by
    simp only [RTs] at hr
    obtain ⟨v, rest, rfl, h1, h2⟩ := hr
    cases i with
    | zero => simp at hi; subst hi; exact ⟨v, by simp, h1⟩
    | succ i => simp at hi; simpa using RTs.get h2 hi
theorem RCs.of_get : ∀ {ts : List C} {vs : List Value}, vs.length = ts.length → (∀ (i : Nat) c v, ts[i]? = some c → vs[i]? = some v → RC ρ h I c v) → RCs ρ h I ts vs
  | [], vs, hl, _ => by simp only [RCs]; exact List.length_eq_zero_iff.1 (by simpa using hl)
  | t :: ts, [], hl, _ => by simp at hl
  | t :: ts, v :: vs, hl, hg => by
    simp only [RCs]
    exact ⟨v, vs, rfl, hg 0 t v (by simp) (by simp), RCs.of_get (by simpa using hl) fun i c u hc hu => hg (i + 1) c u (by simpa using hc) (by simpa using hu)⟩
theorem RTs.of_get : ∀ {ts : List T} {vs : List Value}, vs.length = ts.length → (∀ (i : Nat) c v, ts[i]? = some c → vs[i]? = some v → RT h I c v) → RTs h I ts vs
  | [], vs, hl, _ => by simp only [RTs]; exact List.length_eq_zero_iff.1 (by simpa using hl)
  | t :: ts, [], hl, _ => by simp at hl
  | t :: ts, v :: vs, hl, hg => by
    simp only [RTs]
    exact ⟨v, vs, rfl, hg 0 t v (by simp) (by simp), RTs.of_get (by simpa using hl) fun i c u hc hu => hg (i + 1) c u (by simpa using hc) (by simpa using hu)⟩
theorem RCs.get' {ts : List C} {vs : List Value} (hr : RCs ρ h I ts vs) {i : Nat} {c : C} {v : Value} (hc : ts[i]? = some c) (hv : vs[i]? = some v) : RC ρ h I c v := by
  obtain ⟨u, h1, h2⟩ := hr.get hc
  rw [hv] at h1
  cases h1
  exact h2
theorem RTs.get' {ts : List T} {vs : List Value} (hr : RTs h I ts vs) {i : Nat} {c : T} {v : Value} (hc : ts[i]? = some c) (hv : vs[i]? = some v) : RT h I c v := by
  obtain ⟨u, h1, h2⟩ := hr.get hc
  rw [hv] at h1
  cases h1
  exact h2
theorem RCs.of_RTs {ts : List T} {vs : List Value} (hr : RTs h I ts vs) : RCs ρ h I (ts.map .t) vs :=
  RCs.of_get (by simp [hr.length]) fun i c v hc hv => by
    simp at hc
    obtain ⟨x, hx, rfl⟩ := hc
    simp only [RC]
    exact hr.get' hx hv
theorem RCs.take {ts : List C} {vs : List Value} (hr : RCs ρ h I ts vs) (n : Nat) : RCs ρ h I (ts.take n) (vs.take n) :=
  RCs.of_get (by simp [hr.length]) fun i c v hc hv => by
    simp [List.getElem?_take] at hc hv
    exact hr.get' hc.2 hv.2
theorem RCs.drop {ts : List C} {vs : List Value} (hr : RCs ρ h I ts vs) (n : Nat) : RCs ρ h I (ts.drop n) (vs.drop n) :=
  RCs.of_get (by simp [hr.length]) fun i c v hc hv => by
    simp at hc hv
    exact hr.get' hc hv
theorem RTs.take {ts : List T} {vs : List Value} (hr : RTs h I ts vs) (n : Nat) : RTs h I (ts.take n) (vs.take n) :=
  RTs.of_get (by simp [hr.length]) fun i c v hc hv => by
    simp [List.getElem?_take] at hc hv
    exact hr.get' hc.2 hv.2
theorem RTs.drop {ts : List T} {vs : List Value} (hr : RTs h I ts vs) (n : Nat) : RTs h I (ts.drop n) (vs.drop n) :=
  RTs.of_get (by simp [hr.length]) fun i c v hc hv => by
    simp at hc hv
    exact hr.get' hc hv
theorem RCs.append {ts us : List C} {vs ws : List Value} (hr : RCs ρ h I ts vs) (hs : RCs ρ h I us ws) : RCs ρ h I (ts ++ us) (vs ++ ws) :=
  RCs.of_get (by simp [hr.length, hs.length]) fun i c v hc hv => by
    rw [List.getElem?_append] at hc hv
    rw [hr.length] at hv
    split at hc
    · rename_i hlt; rw [if_pos hlt] at hv; exact hr.get' hc hv
    · rename_i hge; rw [if_neg hge] at hv; exact hs.get' hc hv
theorem RTs.append {ts us : List T} {vs ws : List Value} (hr : RTs h I ts vs) (hs : RTs h I us ws) : RTs h I (ts ++ us) (vs ++ ws) :=
  RTs.of_get (by simp [hr.length, hs.length]) fun i c v hc hv => by
    rw [List.getElem?_append] at hc hv
    rw [hr.length] at hv
    split at hc
    · rename_i hlt; rw [if_pos hlt] at hv; exact hr.get' hc hv
    · rename_i hge; rw [if_neg hge] at hv; exact hs.get' hc hv
theorem RCs.set {ts : List C} {vs : List Value} (hr : RCs ρ h I ts vs) (n : Nat) {c : C} {v : Value} (hc : RC ρ h I c v) : RCs ρ h I (ts.set n c) (vs.set n v) :=
  RCs.of_get (by simp [hr.length]) fun i c' v' hc' hv' => by
    rw [List.getElem?_set] at hc' hv'
    by_cases hi : n = i
    · subst hi
      rw [if_pos rfl] at hc' hv'
      rw [hr.length] at hv'
      split at hc'
      · rename_i hlt; rw [if_pos hlt] at hv'; cases hc'; cases hv'; exact hc
      · cases hc'
    · rw [if_neg hi] at hc' hv'; exact hr.get' hc' hv'
end
end Go.Va
namespace Go.Va
open Go Go.RowKit

/-- A run that looks at no memory. -/
def pr {α : Type} (P : Program) : Sem α → Option α
  | .pure a => some a
  | .program k => pr P (k P)
  | .mark _ k => pr P k
  | .choose q k => if q.forced then pr P (k 0) else none
  | _ => none

structure Eff where
  val : C
  sets : List (Nat × Option Blk)
  fp : List Nat

abbrev Env := List (Nat × C)
def look : Env → Nat → Option C
  | [], _ => none
  | (k, c) :: r, j => if j = k then some c else look r j
def ins : Nat → C → Env → Env
  | k, c, [] => [(k, c)]
  | k, c, (j, d) :: r => if k < j then (k, c) :: (j, d) :: r else if k = j then (k, c) :: r else (j, d) :: ins k c r

structure S where
  env : Env
  heap : List (Option Blk)

def S.e (s : S) : Nat → Option C := look s.env
def S.h (s : S) : Nat → Option Blk := fun b => (s.heap[b]?).join

section
variable (P : Program) (G : Nat → Option (List T))

def ev (e : Nat → Option C) : Operand → Option C
  | .tmp t => e t
  | .const v => if flat v then some (.t (.lit v)) else none
  | .func f => some (.t (.fn (.func f) [] []))
  | .global g => (G g).map fun cells => .t (.ptr cells 0)

def evs (e : Nat → Option C) : List Operand → Option (List C)
  | [] => some []
  | x :: r => match ev G e x, evs e r with
    | some c, some cs => some (c :: cs)
    | _, _ => none

/-- A cell holds one word: no struct, no array. -/
def oneC : C → Bool
  | .t (.agg _) | .agg _ | .tup _ | .bad => false
  | _ => true

/-- The cells of a value. -/
def cellsC : C → Option (List C)
  | .bad | .tup _ => none
  | .agg cs => some cs
  | .t (.agg ts) => some (ts.map .t)
  | c => some [c]

def litsV : List T → Option (List Value)
  | [] => some []
  | .lit v :: r => (litsV r).map (v :: ·)
  | _ :: _ => none
def litsC : List C → Option (List Value)
  | [] => some []
  | .t (.lit v) :: r => (litsC r).map (v :: ·)
  | _ :: _ => none
/-- The value itself, where no address is in it. -/
def flatV : C → Option Value
  | .t (.lit v) => some v
  | .t (.agg ts) => (litsV ts).map fun l => .agg l.toArray
  | .agg cs => (litsC cs).map fun l => .agg l.toArray
  | _ => none
def ofLits : List Value → Option (List C)
  | [] => some []
  | v :: r => if flat v then (ofLits r).map (.t (.lit v) :: ·) else none
def ofV : Value → Option C
  | .agg a => (ofLits a.toList).map .agg
  | .tuple a => (ofLits a.toList).map .tup
  | v => if flat v then some (.t (.lit v)) else none

def zeroL (t : TypeId) : Option (List C) := (P.info? t).bind fun i => i.zero.bind fun v => ofLits v.cells.toList
def zeroC (t : TypeId) : Option C := (P.info? t).bind fun i => i.zero.bind ofV

def isAggB : TypeDesc → Bool
  | .struct _ | .array _ _ => true
  | _ => false

/-- A part of a row of cells, as a value of a type. -/
def partC (ty : TypeId) (cs : List C) (off : Nat) : Option C :=
  match P.underlying ty, P.info? ty with
  | some d, some i => if isAggB d then (if off + i.size ≤ cs.length then some (.agg ((cs.drop off).take i.size)) else none) else cs[off]?
  | _, _ => none

/-! From the call's own blocks to trees. -/
def frzL (f : C → Option (T × List Nat)) : List C → Option (List T × List Nat)
  | [] => some ([], [])
  | c :: r => match f c, frzL f r with
    | some (t, m), some (ts, ms) => some (t :: ts, m ++ ms)
    | _, _ => none
def frz (H : Nat → Option Blk) : Nat → C → Option (T × List Nat)
  | 0, _ => none
  | _ + 1, .t x => some (x, [])
  | n + 1, .loc b off => match H b with
    | some (.cells cs _) => (frzL (frz H n) cs).map fun (ts, ms) => (.ptr ts off, b :: ms)
    | _ => none
  | n + 1, .osl b k sz => match H b with
    | some (.cells cs _) => if k * sz ≤ cs.length then (frzL (frz H n) (cs.take (k * sz))).map fun (ts, ms) => (.sl ts k false, b :: ms) else none
    | _ => none
  | n + 1, .omp b => match H b with
    | some (.map ks vs _) => (frzL (frz H n) vs).map fun (ts, ms) => (.mp ks ts, b :: ms)
    | _ => none
  | n + 1, .agg cs => (frzL (frz H n) cs).map fun (ts, ms) => (.agg ts, ms)
  | n + 1, .fn f a c => match frzL (frz H n) a, frzL (frz H n) c with
    | some (ts, ms), some (us, ns) => some (.fn f ts us, ms ++ ns)
    | _, _ => none
  | _ + 1, _ => none
def deep : Nat := 24
def markB : Blk → Blk
  | .cells cs _ => .cells cs true
  | .map ks vs _ => .map ks vs true
  | _ => .dead
def marks (H : Nat → Option Blk) : List Nat → List (Nat × Option Blk)
  | [] => []
  | b :: r => match H b with
    | some k => (b, some (markB k)) :: marks H r
    | none => marks H r

/-! Indices and bounds. -/
def intL : C → Option Int
  | .t (.lit (.int _ n)) => some n
  | _ => none
def optInt (e : Nat → Option C) : Option Operand → Option (Option Int)
  | none => some none
  | some x => match (ev G e x).bind intL with
    | some n => some (some n)
    | none => none
/-- 'x[lo:hi:mx]' at length n, the capacity at least n: low, high, and the third bound. -/
def bounds3 (n : Nat) (lo hi mx : Option Int) : Option (Nat × Nat × Option Nat) :=
  let l := lo.getD 0
  let h := hi.getD n
  match mx with
  | none => if 0 ≤ l ∧ l ≤ h ∧ h ≤ n then some (l.toNat, h.toNat, none) else none
  | some m => if hi.isSome ∧ 0 ≤ l ∧ l ≤ h ∧ h ≤ m ∧ m ≤ n then some (l.toNat, h.toNat, some m.toNat) else none

/-! Maps. -/
def simpleKey : TypeDesc → Bool
  | .int _ | .string | .bool => true
  | _ => false
def findIx (kind : TypeDesc) (k : Value) : List Value → Nat → Option (Option Nat)
  | [], _ => some none
  | x :: r, i => match Instr.sameNow kind k x with
    | some true => some (some i)
    | some false => findIx kind k r (i + 1)
    | none => none

/-- The place of a key among keys that can all be compared with it. -/
def findK (kind : TypeDesc) (k : Value) (ks : List Value) : Option (Option Nat) := if ks.all (fun x => (Instr.sameNow kind k x).isSome) then findIx kind k ks 0 else none

def splice (cs : List C) (off : Nat) (xs : List C) : List C := cs.take off ++ xs ++ cs.drop (off + xs.length)

/-! The function that a method's name stands for, at a dynamic type. -/
def methodF (t : TypeId) (name : String) : Option FuncId :=
  match P.info? t, P.underlying t with
  | some i, some d => match i.methods.find? (·.name == name) with
    | some m => if m.path.isEmpty then (match m.func, d with
      | some (f, true), .pointer _ => some f
      | some (_, false), .pointer _ => none
      | some (f, false), _ => some f
      | _, _ => none) else none
    | none => none
  | _, _ => none

def place1 : R → Nat → C × List (Nat × Option Blk) × Nat
  | .t x, id => (.t x, [], id)
  | .osl cells n sz, id => (.osl id n sz, [(id, some (.cells (cells.map .t) false))], id + 1)
  | .omp ks vs, id => (.omp id, [(id, some (.map ks (vs.map .t) false))], id + 1)
def place : List R → Nat → List C × List (Nat × Option Blk) × Nat
  | [], id => ([], [], id)
  | r :: rs, id =>
    let (c, s, id1) := place1 r id
    let (cs, ss, id2) := place rs id1
    (c :: cs, s ++ ss, id2)
def many : Nat := 4
def retC : List C → C
  | [c] => c
  | cs => .tup cs

def callF (rc : FuncId → List T → Option (List R)) (H : Nat → Option Blk) (id : Nat) (f : FuncId) (args : List C) : Option Eff :=
  match P.funcs[f]? with
  | some fn => if fn.name == "runtime.NumGoroutine" || fn.body.isNone then none else
    match frzL (frz H deep) args with
    | some (ts, ms) => match rc f ts with
      | some rs =>
        let (cs, ss, id') := place rs id
        if id' ≤ id + many then some ⟨retC cs, marks H ms ++ ss, ms⟩ else none
      | none => none
    | none => none
  | none => none

def callV (rc : FuncId → List T → Option (List R)) (H : Nat → Option Blk) (id : Nat) (fn : Fn) (all capt : List C) : Option Eff :=
  match fn with
  | .func f => callF P rc H id f (all ++ capt)
  | .method name => match all with
    | .t (.ifc t x) :: rest => match methodF P t name with
      | some f => callF P rc H id f (.t x :: rest)
      | none => none
    | _ => none
  | _ => none

/-- The cells of what is appended or copied: how many elements, and the cells. -/
def srcL (H : Nat → Option Blk) : C → Option (List C × Nat × List Nat)
  | .t (.lit (.slice none 0 0)) => some ([], 0, [])
  | .t (.sl ts k _) => some (ts.map .t, k, [])
  | .osl b k sz => match H b with
    | some (.cells cs _) => some (cs.take (k * sz), k, [b])
    | _ => none
  | _ => none
def roomB (n bytes : Nat) : Bool := n * bytes ≤ 2 ^ 40 && bytes ≤ 2 ^ 30 && n ≤ 2 ^ 40

def appendC (H : Nat → Option Blk) (id : Nat) (size bytes : Nat) (d x : C) : Option Eff :=
  match srcL H x with
  | some (src, k, fp) =>
    if src.length = k * size ∧ 0 < size then
      match d with
      | .t (.lit (.slice none 0 0)) => if k = 0 then some ⟨d, [], fp⟩ else if roomB k bytes then some ⟨.osl id k size, [(id, some (.cells src false))], fp⟩ else none
      | .t (.sl ts n clip) => if k = 0 then some ⟨d, [], fp⟩ else
          if clip && roomB (n + k) bytes && ts.length == n * size then some ⟨.osl id (n + k) size, [(id, some (.cells (ts.map .t ++ src) false))], fp⟩ else none
      | .osl b n sz => if k = 0 then some ⟨d, [], fp⟩ else match H b with
        | some (.cells cs false) => if sz = size ∧ cs.length = n * size ∧ roomB (n + k) bytes then some ⟨.osl id (n + k) size, [(b, none), (id, some (.cells (cs ++ src) false))], b :: fp⟩ else none
        | _ => none
      | _ => none
    else none
  | none => none

def lenC (H : Nat → Option Blk) (d : TypeDesc) (c : C) : Option (Nat × List Nat) :=
  match d, c with
  | .array n _, _ => some (n, [])
  | .string, .t (.lit (.string s)) => some (s.size, [])
  | .slice _, .t (.lit (.slice none 0 0)) => some (0, [])
  | .slice _, .t (.sl _ n _) => some (n, [])
  | .slice _, .osl _ n _ => some (n, [])
  | .map _ _, .t (.lit (.map none)) => some (0, [])
  | .map _ _, .t (.mp ks _) => some (ks.length, [])
  | .map _ _, .omp b => match H b with
    | some (.map ks _ _) => some (ks.length, [b])
    | _ => none
  | _, _ => none

def goI (n : Int) : C := .t (.lit (.int .i64 n))
def goB (b : Bool) : C := .t (.lit (.bool b))

/-- Is it surely not nil, though it is no plain word? -/
def notNil : TypeDesc → C → Bool
  | .slice _, .t (.sl ..) => true
  | .slice _, .osl .. => true
  | .map _ _, .t (.mp ..) => true
  | .map _ _, .omp _ => true
  | .interface _, .t (.ifc ..) => true
  | .func _ _ _, .t (.fn ..) => true
  | .func _ _ _, .fn .. => true
  | .pointer _, .t (.ptr ..) => true
  | .pointer _, .loc .. => true
  | _, _ => false
def nilFor : TypeDesc → Operand → Bool
  | .slice _, .const (.slice none 0 0) => true
  | .map _ _, .const (.map none) => true
  | .interface _, .const .nilIface => true
  | .func _ _ _, .const .nilFunc => true
  | .pointer _, .const (.pointer none) => true
  | _, _ => false

def eqOp : BinOp → Option Bool
  | .eql => some false
  | .neq => some true
  | _ => none

def flatOp (e : Nat → Option C) (o : Oper) : Option Eff :=
  match evs G e o.op.operands.toList with
  | some cs => if cs.all (fun c => (flatV c).isSome) then
      match pr P (execOp (fun x => ((ev G e x).bind flatV).getD undef) o) with
      | some (.value v) => (ofV v).map fun c => ⟨c, [], []⟩
      | _ => none
    else none
  | none => none

/-- The parts of a literal, put over the zero cells. -/
def fillC (place : Nat → Option (Nat × Nat)) (cells : List C) : List (Nat × C) → Option (List C)
  | [] => some cells
  | (i, c) :: rest => match place i, cellsC c with
    | some (off, size), some xs => if xs.length ≠ size ∨ off + xs.length > cells.length then none else fillC place (splice cells off xs) rest
    | _, _ => none
def evParts (e : Nat → Option C) : List (Nat × Operand) → Option (List (Nat × C))
  | [] => some []
  | (i, x) :: r => match ev G e x, evParts e r with
    | some c, some cs => some ((i, c) :: cs)
    | _, _ => none
def placesL : List Field → Option (List (Nat × Nat))
  | [] => some []
  | f :: r => match P.info? f.type, placesL r with
    | some i, some l => some ((f.offset, i.size) :: l)
    | _, _ => none

def foundC (H : Nat → Option Blk) (kd : TypeDesc) (kv : Value) : C → Option (Option C × List Nat)
  | .t (.lit (.map none)) => some (none, [])
  | .t (.mp ks vs) => match findK kd kv ks with
    | some (some i) => match vs[i]? with
      | some x => some (some (.t x), [])
      | none => none
    | some none => some (none, [])
    | none => none
  | .omp b => match H b with
    | some (.map ks vs _) => match findK kd kv ks with
      | some (some i) => match vs[i]? with
        | some x => some (some x, [b])
        | none => none
      | some none => some (none, [b])
      | none => none
    | _ => none
  | _ => none

def lookupC (H : Nat → Option Blk) (t : TypeId) (m k : C) (ok : Bool) : Option Eff :=
  match P.underlying t with
  | some (.map key elem) => match P.underlying key, k with
    | some kd, .t (.lit kv) => if simpleKey kd then
        match foundC H kd kv m with
        | some (some c, fp) => some ⟨if ok then .tup [c, goB true] else c, [], fp⟩
        | some (none, fp) => (zeroC P elem).map fun z => ⟨if ok then .tup [z, goB false] else z, [], fp⟩
        | none => none
      else none
    | _, _ => none
  | _ => none

def updateC (H : Nat → Option Blk) (t : TypeId) (m k x : C) : Option Eff :=
  match P.underlying t with
  | some (.map key _) => match P.underlying key, k, m with
    | some kd, .t (.lit kv), .omp b => if simpleKey kd then
        match H b with
        | some (.map ks vs false) => match findK kd kv ks with
          | some (some i) => if vs.length = ks.length then some ⟨.tup [], [(b, some (.map ks (vs.set i x) false))], [b]⟩ else none
          | some none => some ⟨.tup [], [(b, some (.map (ks ++ [kv]) (vs ++ [x]) false))], [b]⟩
          | none => none
        | _ => none
      else none
    | _, _, _ => none
  | _ => none

def deleteC (H : Nat → Option Blk) (t : TypeId) (m k : C) : Option Eff :=
  match P.underlying t with
  | some (.map key _) => match P.underlying key, k with
    | some kd, .t (.lit kv) => if simpleKey kd then
        match m with
        | .t (.lit (.map none)) => some ⟨.tup [], [], []⟩
        | .omp b => match H b with
          | some (.map ks vs false) => match findK kd kv ks with
            | some (some i) => if vs.length = ks.length then some ⟨.tup [], [(b, some (.map (ks.eraseIdx i) (vs.eraseIdx i) false))], [b]⟩ else none
            | some none => some ⟨.tup [], [], [b]⟩
            | none => none
          | _ => none
        | _ => none
      else none
    | _, _ => none
  | _ => none

def clipOf (m : Option Nat) (h n : Nat) (clip : Bool) : Bool :=
  match m with
  | some k => k == h
  | none => clip && h == n

def sliceC (H : Nat → Option Blk) (elem : TypeId) (x : C) (lo hi mx : Option Int) : Option Eff :=
  match P.info? elem with
  | none => none
  | some i => match x with
    | .t (.lit (.slice none 0 0)) => match bounds3 0 lo hi mx with
      | some _ => some ⟨x, [], []⟩
      | none => none
    | .t (.sl ts n clip) => match bounds3 n lo hi mx with
      | some (l, h, m) => some ⟨.t (.sl ((ts.drop (l * i.size)).take ((h - l) * i.size)) (h - l) (clipOf m h n clip)), [], []⟩
      | none => none
    | .osl b n sz => match H b, bounds3 n lo hi mx with
      | some (.cells cs _), some (l, h, m) => if sz = i.size ∧ n * sz ≤ cs.length then
          match frzL (frz H deep) (cs.take (n * sz)) with
          | some (ts, ms) => some ⟨.t (.sl ((ts.drop (l * i.size)).take ((h - l) * i.size)) (h - l) (clipOf m h n false)), marks H (b :: ms), b :: ms⟩
          | none => none
        else none
      | _, _ => none
    | _ => none

def indexAddrC (t : TypeId) (x : C) (ix : Int) : Option Eff :=
  match P.underlying t with
  | some (.slice elem) => match P.info? elem, x with
    | some i, .t (.sl ts n _) => if 0 ≤ ix ∧ ix < n then some ⟨.t (.ptr ts (ix.toNat * i.size)), [], []⟩ else none
    | some i, .osl b n _ => if 0 ≤ ix ∧ ix < n then some ⟨.loc b (ix.toNat * i.size), [], []⟩ else none
    | _, _ => none
  | some (.array len elem) => match P.info? elem, x with
    | some i, .t (.ptr ts off) => if 0 ≤ ix ∧ ix < len then some ⟨.t (.ptr ts (off + ix.toNat * i.size)), [], []⟩ else none
    | some i, .loc b off => if 0 ≤ ix ∧ ix < len then some ⟨.loc b (off + ix.toNat * i.size), [], []⟩ else none
    | _, _ => none
  | _ => none

def builtinC (H : Nat → Option Blk) (id : Nat) (b : Builtin) (argTypes : Array TypeId) (args : List C) : Option Eff :=
  match b, args with
  | .len, [c] => match (argTypes[0]?).bind P.underlying with
    | some d => (lenC H d c).map fun (n, fp) => ⟨goI n, [], fp⟩
    | none => none
  | .append, [d, x] => match argTypes.toList with
    | [t1, t2] => if t1 = t2 then
        match P.underlying t1 with
        | some (.slice elem) => match P.info? elem, zeroL P elem with
          | some i, some z => if z.length = i.size then appendC H id i.size i.bytes d x else none
          | _, _ => none
        | _ => none
      else none
    | _ => none
  | .copy, [d, x] => match (argTypes[0]?).bind P.underlying, srcL H x with
    | some (.slice elem), some (src, k, fp) => match P.info? elem, d with
      | some i, .osl c n sz => match H c with
        | some (.cells cs false) => if sz = i.size ∧ src.length = k * sz ∧ n * sz ≤ cs.length then
            some ⟨goI (min k n : Nat), [(c, some (.cells (splice cs 0 (src.take (min k n * sz))) false))], c :: fp⟩
          else none
        | _ => none
      | _, _ => none
    | _, _ => none
  | .delete, [m, k] => match argTypes[0]? with
    | some t => deleteC P H t m k
    | none => none
  | _, _ => none

/-! A range over a map of at most one entry. -/
def rangeT : T → Option (List (Value × T))
  | .lit (.map none) => some []
  | .mp ks vs => if ks.length = vs.length ∧ ks.all flat = true then some (ks.zip vs) else none
  | _ => none
def rangeC (H : Nat → Option Blk) (id : Nat) (t : TypeId) (c : C) : Option Eff :=
  match P.underlying t, frz H deep c with
  | some (.map _ _), some (x, ms) => match rangeT x with
    | some td => some ⟨.loc id 0, marks H ms ++ [(id, some (.iter td none))], ms⟩
    | none => none
  | _, _ => none
def nextC (H : Nat → Option Blk) (s : Bool) (c : C) : Option Eff :=
  match s, c with
  | false, .loc b 0 => match H b with
    | some (.iter [(k, x)] _) => some ⟨.tup [goB true, .t (.lit k), .t x], [(b, some (.iter [] (some (k, x))))], [b]⟩
    | some (.iter [] _) => some ⟨.tup [goB false], [], [b]⟩
    | _ => none
  | _, _ => none
def entryC (H : Nat → Option Blk) (c : C) : Option Eff :=
  match c with
  | .loc b 0 => match H b with
    | some (.iter _ (some (k, x))) => some ⟨.tup [.t (.lit k), .t x], [], [b]⟩
    | _ => none
  | _ => none

/-- All of an array of the call's own, as a slice. -/
def arrSliceC (H : Nat → Option Blk) (n : Nat) (elem : TypeId) (b : Nat) (lo hi mx : Option Operand) : Option Eff :=
  match lo, hi, mx, P.info? elem, H b with
  | none, none, none, some i, some (.cells cs _) => if n * i.size ≤ cs.length then some ⟨.osl b n i.size, [], [b]⟩ else none
  | _, _, _, _, _ => none

/-- What one operation comes to. -/
def opc (rc : FuncId → List T → Option (List R)) (o : Oper) (e : Nat → Option C) (H : Nat → Option Blk) (id : Nat) : Option Eff :=
  match o.op with
  | .move x | .assign x => (ev G e x).map fun c => ⟨c, [], []⟩
  | .pick c a b => match ev G e c with
    | some (.t (.lit (.bool t))) => (ev G e (if t then a else b)).map fun c => ⟨c, [], []⟩
    | _ => none
  | .alloc ty => (zeroL P ty).map fun cs => ⟨.loc id 0, [(id, some (.cells cs false))], []⟩
  | .box _ x => match (ev G e x).bind cellsC with
    | some cs => if cs.all oneC then some ⟨.loc id 0, [(id, some (.cells cs false))], []⟩ else none
    | none => none
  | .build ty parts => match zeroL P ty, evParts G e parts.toList with
    | some z, some ps => match P.underlying ty with
      | some (.struct fields) => match placesL P fields.toList with
        | some pl => (fillC (fun i => pl[i]?) z ps).map fun cs => ⟨.agg cs, [], []⟩
        | none => none
      | some (.array _ elem) => (P.info? elem).bind fun i => (fillC (fun j => some (j * i.size, i.size)) z ps).map fun cs => ⟨.agg cs, [], []⟩
      | _ => none
    | _, _ => none
  | .buildSlice ty len parts => match P.underlying ty, evParts G e parts.toList with
    | some (.slice elem), some ps => match P.info? elem, zeroL P elem with
      | some i, some z => if len * i.size ≤ 65536 ∧ z.length = i.size then
          match fillC (fun j => some (j * i.size, i.size)) ((List.replicate len z).flatten) ps with
          | some cs => if cs.all oneC then some ⟨.osl id len i.size, [(id, some (.cells cs false))], []⟩ else none
          | none => none
        else none
      | _, _ => none
    | _, _ => none
  | .load ty a => match ev G e a with
    | some (.loc b off) => match H b with
      | some (.cells cs _) => (partC P ty cs off).map fun c => ⟨c, [], [b]⟩
      | _ => none
    | some (.t (.ptr ts off)) => (partC P ty (ts.map .t) off).map fun c => ⟨c, [], []⟩
    | _ => none
  | .store ty a x => match ev G e a, (ev G e x).bind cellsC, P.info? ty with
    | some (.loc b off), some xs, some i => match H b with
      | some (.cells cs false) => if xs.length = i.size ∧ off + xs.length ≤ cs.length ∧ xs.all oneC then some ⟨.tup [], [(b, some (.cells (splice cs off xs) false))], [b]⟩ else none
      | _ => none
    | _, _, _ => none
  | .nilCheck x => match ev G e x with
    | some (.loc b off) => some ⟨.loc b off, [], []⟩
    | some (.t (.ptr ts off)) => some ⟨.t (.ptr ts off), [], []⟩
    | some (.t (.ifc t y)) => some ⟨.t (.ifc t y), [], []⟩
    | _ => none
  | .makeInterface ty x => match P.underlying ty with
    | some (.interface _) => none
    | some _ => match (ev G e x).bind (frz H deep) with
      | some (t, ms) => some ⟨.t (.ifc ty t), marks H ms, ms⟩
      | none => none
    | none => none
  | .makeFunc fn first capt => match evs G e first.toList, evs G e capt.toList with
    | some a, some b => some ⟨.fn fn a b, [], []⟩
    | _, _ => none
  | .makeMap _ none => some ⟨.omp id, [(id, some (.map [] [] false))], []⟩
  | .makeSlice ty l c => match P.underlying ty, (ev G e l).bind intL, (ev G e c).bind intL with
    | some (.slice elem), some ln, some cp => match P.info? elem, zeroL P elem with
      | some i, some z => if 0 ≤ ln ∧ ln ≤ cp ∧ roomB cp.toNat i.bytes ∧ z.length = i.size then
          some ⟨.osl id ln.toNat i.size, [(id, some (.cells ((List.replicate ln.toNat z).flatten) false))], []⟩
        else none
      | _, _ => none
    | _, _, _ => none
  | .slice ty x lo hi mx => match P.underlying ty, ev G e x with
    | some (.slice elem), some c => match optInt G e lo, optInt G e hi, optInt G e mx with
      | some a, some b, some m => sliceC P H elem c a b m
      | _, _, _ => none
    | some (.array n elem), some (.loc b 0) => arrSliceC P H n elem b lo hi mx
    | _, _ => flatOp P G e o
  | .fieldAddr s x f => match P.underlying s with
    | some (.struct fields) => match fields[f]? with
      | some fd => match P.info? fd.type, ev G e x with
        | some i, some (.loc b off) => if i.size = 0 then none else some ⟨.loc b (off + fd.offset), [], []⟩
        | some i, some (.t (.ptr ts off)) => if i.size = 0 then none else some ⟨.t (.ptr ts (off + fd.offset)), [], []⟩
        | _, _ => none
      | none => none
    | _ => none
  | .field s x f => match P.underlying s with
    | some (.struct fields) => match fields[f]? with
      | some fd => match ev G e x with
        | some (.agg cs) => (partC P fd.type cs fd.offset).map fun c => ⟨c, [], []⟩
        | some (.t (.agg ts)) => (partC P fd.type (ts.map .t) fd.offset).map fun c => ⟨c, [], []⟩
        | _ => none
      | none => none
    | _ => none
  | .indexAddr t x i => match ev G e x, (ev G e i).bind intL with
    | some c, some n => indexAddrC P t c n
    | _, _ => none
  | .index t x i => match P.underlying t with
    | some (.array len elem) => match ev G e x, (ev G e i).bind intL, P.info? elem with
      | some (.agg cs), some n, some k => if 0 ≤ n ∧ n < len then (partC P elem cs (n.toNat * k.size)).map fun c => ⟨c, [], []⟩ else none
      | some (.t (.agg ts)), some n, some k => if 0 ≤ n ∧ n < len then (partC P elem (ts.map .t) (n.toNat * k.size)).map fun c => ⟨c, [], []⟩ else none
      | _, _, _ => none
    | _ => flatOp P G e o
  | .lookup t m k ok => match ev G e m, ev G e k with
    | some a, some b => lookupC P H t a b ok
    | _, _ => none
  | .mapUpdate t m k x | .insert t m k x => match ev G e m, ev G e k, ev G e x with
    | some a, some b, some c => updateC P H t a b c
    | _, _, _ => none
  | .typeAssert x _ asserted ok => match P.underlying asserted, ev G e x with
    | some (.interface _), _ => none
    | some _, some (.t (.ifc t y)) => if t = asserted then some ⟨if ok then .tup [.t y, goB true] else .t y, [], []⟩
        else if ok then (zeroC P asserted).map fun z => ⟨.tup [z, goB false], [], []⟩ else none
    | some _, some (.t (.lit .nilIface)) => if ok then (zeroC P asserted).map fun z => ⟨.tup [z, goB false], [], []⟩ else none
    | _, _ => none
  | .extract t ix => match ev G e t with
    | some (.tup cs) => (cs[ix]?).map fun c => ⟨c, [], []⟩
    | _ => none
  | .binOp op t x y _ =>
    match eqOp op, P.underlying t, ev G e x with
    | some r, some d, some c => if nilFor d y && notNil d c then some ⟨goB r, [], []⟩ else flatOp P G e o
    | _, _, _ => flatOp P G e o
  | .call c => match c.callee with
    | .builtin b => match b with
      | .len | .append | .copy | .delete => match evs G e c.args.toList with
        | some args => builtinC P H id b c.argTypes args
        | none => none
      | _ => flatOp P G e o
    | .invoke r name => match ev G e r, evs G e c.args.toList with
      | some rv, some args => callV P rc H id (.method name) (rv :: args) []
      | _, _ => none
    | .value f => match ev G e f, evs G e c.args.toList with
      | some (.fn fn first capt), some args => callV P rc H id fn (first ++ args) capt
      | some (.t (.fn fn first capt)), some args => callV P rc H id fn (first.map .t ++ args) (capt.map .t)
      | _, _ => none
  | .unOp .. | .convert .. => flatOp P G e o
  | .range t x => match ev G e x with
    | some c => rangeC P H id t c
    | none => none
  | .next it s => match ev G e it with
    | some c => nextC H s c
    | none => none
  | .entry it => match ev G e it with
    | some c => entryC H c
    | none => none
  | .sliceToArrayPointer arr x => match P.underlying arr, ev G e x with
    | some (.array n _), some (.t (.sl ts k _)) => if n ≤ k then some ⟨.t (.ptr ts 0), [], []⟩ else none
    | _, _ => none
  | _ => none

/-- How many blocks an operation may make. -/
def nalloc (o : Oper) : Nat :=
  match o.op with
  | .alloc _ | .box .. | .buildSlice .. | .makeSlice .. | .makeMap .. | .range .. => 1
  | .call c => match c.callee with
    | .builtin .append => 1
    | .builtin _ => 0
    | _ => many
  | _ => 0

/-- The Bool that a guard looks at: 'none': not known. -/
def yieldC (ops : Array Oper) (e : Nat → Option C) (j : Nat) : Option (Option Bool) :=
  match (ops[j]?).bind (·.dst) with
  | none => some none
  | some d => match e d with
    | some (.t (.lit (.bool b))) => some (some b)
    | some (.tup _) => some none
    | _ => none
def wantC (ops : Array Oper) (e : Nat → Option C) (o : Oper) : Option Bool :=
  match o.guard with
  | none => some true
  | some (j, want) => (yieldC ops e j).map fun y => y == some want

def setAt : List (Option Blk) → Nat → Option Blk → List (Option Blk)
  | [], 0, k => [k]
  | [], n + 1, k => none :: setAt [] n k
  | _ :: l, 0, k => k :: l
  | x :: l, n + 1, k => x :: setAt l n k
def setH (heap : List (Option Blk)) : List (Nat × Option Blk) → List (Option Blk)
  | [] => heap
  | (b, k) :: r => setH (setAt heap b k) r
def putE (nt : Nat) (e : Env) (dst : Option Tmp) (c : C) : Option Env :=
  match dst with
  | none => some e
  | some d => if d < nt then some (ins d c e) else none
/-- One operation in its place. -/
def stepO (rc : FuncId → List T → Option (List R)) (nt : Nat) (ops : Array Oper) (o : Oper) (id : Nat) (s : S) : Option (S × List Nat × List Nat) :=
  match wantC ops s.e o with
  | some true => match opc P G rc o s.e s.h id with
    | some eff => (putE nt s.env o.dst eff.val).map fun e => (⟨e, setH s.heap eff.sets⟩, eff.sets.map (·.1), eff.fp)
    | none => none
  | some false => (putE nt s.env o.dst (.tup [])).map fun e => (⟨e, s.heap⟩, [], [])
  | none => none
def runO (rc : FuncId → List T → Option (List R)) (nt : Nat) (ops : Array Oper) : List Oper → Nat → S → Option (S × List (List Nat × List Nat))
  | [], _, s => some (s, [])
  | o :: r, id, s => match stepO P G rc nt ops o id s with
    | some (s', a, b) => match runO rc nt ops r (id + nalloc o) s' with
      | some (s'', l) => some (s'', (a, b) :: l)
      | none => none
    | none => none
def total (l : List Oper) : Nat := (l.map nalloc).sum

/-- Of each operation the ones that come before it in every order: a bit each. -/
def masks : List Oper → List Nat → List Nat
  | [], acc => acc
  | o :: r, acc => masks r (acc ++ [o.after.toList.foldl (fun s e => if Region.binds .any e then s ||| 2 ^ e.on ||| acc.getD e.on 0 else s) 0])
def edgesOk : List Oper → Nat → Bool
  | [], _ => true
  | o :: r, i => o.after.toList.all (fun e => !Region.binds .any e || e.on < i) && (match o.op with | .select .. => false | _ => true) && edgesOk r (i + 1)
/-- May two operations that no edge puts in order come up in either order? -/
def meet (a b : List Nat × List Nat) : Bool :=
  a.1.all (fun x => !b.1.contains x && !b.2.contains x) && b.1.all (fun x => !a.2.contains x)
def freeTail (bf : List Nat) (i : Nat) (x : List Nat × List Nat) : List (List Nat × List Nat) → Nat → Bool
  | [], _ => true
  | y :: r, j => ((bf.getD j 0).testBit i || meet x y) && freeTail bf i x r (j + 1)
def freeAll (bf : List Nat) : List (List Nat × List Nat) → Nat → Bool
  | [], _ => true
  | x :: r, i => freeTail bf i x r (i + 1) && freeAll bf r (i + 1)
def apartTail (bf : List Nat) (ops : Array Oper) (i : Nat) (x : Oper) : List Oper → Nat → Bool
  | [], _ => true
  | y :: r, j => ((bf.getD j 0).testBit i || x.apart ops y) && apartTail bf ops i x r (j + 1)
def apartAll (bf : List Nat) (ops : Array Oper) : List Oper → Nat → Bool
  | [], _ => true
  | x :: r, i => apartTail bf ops i x r (i + 1) && apartAll bf ops r (i + 1)
/-- What of a region that draws can be told from its text alone. -/
def drawOk (ops : Array Oper) : Bool := edgesOk ops.toList 0 && apartAll (masks ops.toList []) ops ops.toList 0

def region (rc : FuncId → List T → Option (List R)) (nt : Nat) (ops : Array Oper) (draw : Bool) (s : S) : Option S :=
  match runO P G rc nt ops ops.toList s.heap.length ⟨s.env, s.heap ++ List.replicate (total ops.toList) none⟩ with
  | some (s', l) => if !draw || (drawOk ops && freeAll (masks ops.toList []) l 0) then some s' else none
  | none => none

/-! Behind a round of a loop: only what stood before the loop is kept; the blocks are numbered anew. -/
def idsC : Nat → C → List Nat
  | 0, _ => []
  | _ + 1, .loc b _ | _ + 1, .osl b _ _ | _ + 1, .omp b => [b]
  | n + 1, .agg cs | n + 1, .tup cs => cs.flatMap (idsC n)
  | n + 1, .fn _ a b => a.flatMap (idsC n) ++ b.flatMap (idsC n)
  | _ + 1, _ => []
def idsB : Blk → List Nat
  | .cells cs _ => cs.flatMap (idsC deep)
  | .map _ vs _ => vs.flatMap (idsC deep)
  | _ => []
def reach (H : Nat → Option Blk) : Nat → List Nat → List Nat → List Nat
  | 0, _, acc => acc.reverse
  | _ + 1, [], acc => acc.reverse
  | n + 1, b :: q, acc => if acc.contains b then reach H n q acc else match H b with
    | some k => reach H n (idsB k ++ q) (b :: acc)
    | none => reach H n q acc
def renC (ord : List Nat) : Nat → C → C
  | 0, _ => .bad
  | _ + 1, .t x => .t x
  | _ + 1, .loc b off => match ord.idxOf? b with | some i => .loc i off | none => .bad
  | _ + 1, .osl b n sz => match ord.idxOf? b with | some i => .osl i n sz | none => .bad
  | _ + 1, .omp b => match ord.idxOf? b with | some i => .omp i | none => .bad
  | n + 1, .agg cs => .agg (cs.map (renC ord n))
  | n + 1, .tup cs => .tup (cs.map (renC ord n))
  | n + 1, .fn f a b => .fn f (a.map (renC ord n)) (b.map (renC ord n))
  | _ + 1, .bad => .bad
def renB (ord : List Nat) : Blk → Blk
  | .cells cs fz => .cells (cs.map (renC ord deep)) fz
  | .map ks vs fz => .map ks (vs.map (renC ord deep)) fz
  | k => k
def tidy (ks : List Nat) (s : S) : Option S :=
  let env := s.env.filter fun x => ks.contains x.1
  let ord := reach s.h 4000 (env.flatMap fun x => idsC deep x.2) []
  if ord.Nodup then some ⟨env.map fun x => (x.1, renC ord deep x.2), ord.map fun b => (s.h b).map (renB ord)⟩ else none

inductive Ex where
  | normal
  | exit (id : Nat)
  | ret
  deriving DecidableEq

def iter (f : S → Option (Ex × S)) (ks : List Nat) : Nat → S → Option (Ex × S)
  | 0, _ => none
  | m + 1, s => match f s with
    | some (.normal, s') => match tidy ks s' with
      | some s'' => iter f ks m s''
      | none => none
    | r => r

def exec (rc : FuncId → List T → Option (List R)) (nt n : Nat) : Code → S → Option (Ex × S)
  | .skip, s => some (.normal, s)
  | .label _, s => some (.normal, s)
  | .region _ ops draw, s => (region P G rc nt ops draw s).map fun s' => (.normal, s')
  | .seq a b, s => match exec rc nt n a s with
    | some (.normal, s') => exec rc nt n b s'
    | r => r
  | .cond c x y, s => match ev G s.e c with
    | some (.t (.lit (.bool b))) => if b then exec rc nt n x s else exec rc nt n y s
    | _ => none
  | .block id b, s => match exec rc nt n b s with
    | some (.exit j, s') => if j = id then some (.normal, s') else some (.exit j, s')
    | r => r
  | .loop b, s => iter (exec rc nt n b) (s.env.map (·.1)) n s
  | .exit id, s => some (.exit id, s)
  | .ret, s => some (.ret, s)
  | _, _ => none

/-! What is handed back. -/
def toR (H : Nat → Option Blk) (c : C) : Option (R × List Nat × List Nat) :=
  match c with
  | .osl b n sz => match H b with
    | some (.cells cs false) => if n * sz = cs.length then (frzL (frz H deep) cs).map fun (ts, ms) => (.osl ts n sz, [b], ms) else none
    | _ => (frz H deep c).map fun (t, ms) => (.t t, [], ms)
  | .omp b => match H b with
    | some (.map ks vs false) => (frzL (frz H deep) vs).map fun (ts, ms) => (.omp ks ts, [b], ms)
    | _ => (frz H deep c).map fun (t, ms) => (.t t, [], ms)
  | c => (frz H deep c).map fun (t, ms) => (.t t, [], ms)
def toRs (H : Nat → Option Blk) : List C → Option (List R × List Nat × List Nat)
  | [] => some ([], [], [])
  | c :: r => match toR H c, toRs H r with
    | some (x, o, m), some (xs, os, ms) => some (x :: xs, o ++ os, m ++ ms)
    | _, _ => none
def resC (e : Nat → Option C) (H : Nat → Option Blk) : List ResultVar → Option (List C)
  | [] => some []
  | .tmp t :: r => match e t, resC e H r with
    | some c, some cs => some (c :: cs)
    | _, _ => none
  | .cell a ty :: r => match e a, resC e H r with
    | some (.loc b off), some cs => match H b with
      | some (.cells xs _) => (partC P ty xs off).map (· :: cs)
      | _ => none
    | _, _ => none
def retR (fn : Func) (s : S) : Option (List R) :=
  match resC P s.e s.h fn.results.toList with
  | some cs => match toRs s.h cs with
    | some (rs, os, ms) => if os.Nodup ∧ os.all (fun o => !ms.contains o) then some rs else none
    | none => none
  | none => none

def initE : List T → Nat → Env
  | [], _ => []
  | x :: r, k => (k, .t x) :: initE r (k + 1)

def run (intr : FuncId → List T → Option (List R)) : Nat → FuncId → List T → Option (List R)
  | 0, _, _ => none
  | n + 1, f, args => match intr f args with
    | some r => some r
    | none => match P.funcs[f]? with
      | some fn => match fn.body with
        | some c => if args.length ≤ fn.ntmps then
            match exec P G (run intr n) fn.ntmps n c ⟨initE args 0, []⟩ with
            | some (.normal, s) => retR P fn s
            | some (.ret, s) => retR P fn s
            | _ => none
          else none
        | none => none
      | none => none
end
end Go.Va
