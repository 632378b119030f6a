/- Trees for Go values, local cells, and how they stand in memory: definitions and their first laws. -/
import Derived.WalkKit
namespace Go.Va
open Go Go.RowKit

/-- An immutable value: no address in it. -/
inductive T where
  | lit (v : Value)
  | agg (cs : List T)
  | ptr (cells : List T) (off : Nat)
  | sl (cells : List T) (n : Nat) (clip : Bool)
  | mp (ks : List Value) (vs : List T)
  | ifc (t : TypeId) (x : T)
  | fn (f : Fn) (first capt : List T)

/-- What a slot or a cell of a running call holds: a tree, or a way to one of the call's own blocks. -/
inductive C where
  | bad
  | t (x : T)
  | loc (b off : Nat)
  | osl (b n sz : Nat)
  | omp (b : Nat)
  | agg (cs : List C)
  | tup (cs : List C)
  | fn (f : Fn) (first capt : List C)

/-- A block of the call's own; 'fz': nothing is stored into it any more. -/
inductive Blk where
  | cells (cs : List C) (fz : Bool)
  | map (ks : List Value) (vs : List C) (fz : Bool)
  | iter (todo cur : Option (Value × T))
  | dead

/-- One result of a call: a tree, or a slice or a map that nobody else holds. -/
inductive R where
  | t (x : T)
  | osl (cells : List T) (n sz : Nat)
  | omp (ks : List Value) (vs : List T)

def flat : Value → Bool
  | .bool _ | .int _ _ | .float _ _ | .complex _ _ _ | .string _ | .nilFunc | .nilIface => true
  | .pointer none | .slice none 0 0 | .map none | .chan none => true
  | _ => false

def win (c : Array Value) (lo n : Nat) : List Value := (c.toList.drop lo).take n
def ones (l : List Value) : Prop := ∀ v, v ∈ l → v.oneCell' = true

/-- The entries of a map, in whatever order: no key twice, each with a stamp of its own. -/
structure MapOf (es : Array MapEntry) (clk : Nat) (l : List MapEntry) : Prop where
  perm : l.Perm es.toList
  keys : (l.map (·.key)).Nodup
  lt : ∀ e, e ∈ l → e.born < clk
  born : (l.map (·.born)).Nodup

mutual
def RT (h : Array Obj) (I : Nat → Prop) : T → Value → Prop
  | .lit x, v => v = x ∧ flat x = true
  | .agg cs, v => ∃ vs : Array Value, v = .agg vs ∧ RTs h I cs vs.toList
  | .ptr cells off, v => ∃ b lo c e fr, v = .pointer (some ⟨b, lo + off, none⟩) ∧ I b ∧ h[b]? = some (.cells c e fr) ∧ RTs h I cells (win c lo cells.length) ∧ ones (win c lo cells.length)
  | .sl cells n clip, v => ∃ b lo cap c e fr, v = .slice (some ⟨b, lo, none⟩) n cap ∧ I b ∧ h[b]? = some (.cells c e fr) ∧ RTs h I cells (win c lo cells.length) ∧ ones (win c lo cells.length) ∧ n ≤ cap ∧ (clip = true → cap = n)
  | .mp ks vs, v => ∃ r es clk l, v = .map (some r) ∧ I r ∧ h[r]? = some (.map es clk) ∧ MapOf es clk l ∧ l.map (·.key) = ks ∧ RTs h I vs (l.map (·.val))
  | .ifc t x, v => ∃ u, v = .iface t u ∧ RT h I x u
  | .fn f a b, v => ∃ as bs, v = .func f as bs ∧ RTs h I a as.toList ∧ RTs h I b bs.toList
def RTs (h : Array Obj) (I : Nat → Prop) : List T → List Value → Prop
  | [], vs => vs = []
  | c :: cs, vs => ∃ v rest, vs = v :: rest ∧ RT h I c v ∧ RTs h I cs rest
end

mutual
def RC (ρ : Nat → Option Nat) (h : Array Obj) (I : Nat → Prop) : C → Value → Prop
  | .bad, _ => True
  | .t x, v => RT h I x v
  | .loc b off, v => ∃ r, ρ b = some r ∧ v = .pointer (some ⟨r, off, none⟩)
  | .osl b n sz, v => ∃ r cap c e fr, ρ b = some r ∧ v = .slice (some ⟨r, 0, none⟩) n cap ∧ n ≤ cap ∧ h[r]? = some (.cells c e fr) ∧ cap * sz ≤ c.size
  | .omp b, v => ∃ r, ρ b = some r ∧ v = .map (some r)
  | .agg cs, v => ∃ vs : Array Value, v = .agg vs ∧ RCs ρ h I cs vs.toList
  | .tup cs, v => ∃ vs : Array Value, v = .tuple vs ∧ RCs ρ h I cs vs.toList
  | .fn f a b, v => ∃ as bs, v = .func f as bs ∧ RCs ρ h I a as.toList ∧ RCs ρ h I b bs.toList
def RCs (ρ : Nat → Option Nat) (h : Array Obj) (I : Nat → Prop) : List C → List Value → Prop
  | [], vs => vs = []
  | c :: cs, vs => ∃ v rest, vs = v :: rest ∧ RC ρ h I c v ∧ RCs ρ h I cs rest
end

/-- Memory goes on: what is immutable stays; no row of cells changes its length. -/
structure Ext (I J : Nat → Prop) (h h' : Array Obj) : Prop where
  imm : ∀ b, I b → h'[b]? = h[b]?
  sub : ∀ b, I b → J b
  size : ∀ (b : Nat) c e fr, h[b]? = some (.cells c e fr) → ∃ c' e' fr', h'[b]? = some (.cells c' e' fr') ∧ c.size ≤ c'.size

theorem Ext.refl (I : Nat → Prop) (h : Array Obj) : Ext I I h h := ⟨fun _ _ => rfl, fun _ h => h, fun _ c e fr hb => ⟨c, e, fr, hb, Nat.le_refl _⟩⟩
theorem Ext.trans {I J K : Nat → Prop} {h h' h'' : Array Obj} (a : Ext I J h h') (b : Ext J K h' h'') : Ext I K h h'' :=
  ⟨fun k hk => (b.imm k (a.sub k hk)).trans (a.imm k hk), fun k hk => b.sub k (a.sub k hk), fun k c e fr hb => by
    obtain ⟨c', e', fr', h1, h2⟩ := a.size k c e fr hb
    obtain ⟨c'', e'', fr'', h3, h4⟩ := b.size k c' e' fr' h1
    exact ⟨c'', e'', fr'', h3, Nat.le_trans h2 h4⟩⟩

mutual
theorem RT.mono {I J : Nat → Prop} {h h' : Array Obj} (x : Ext I J h h') : ∀ (t : T) (v : Value), RT h I t v → RT h' J t v
  | .lit _, _, hr => by simpa only [RT] using hr
  | .agg cs, v, hr => by
    simp only [RT] at hr ⊢
    obtain ⟨vs, rfl, hs⟩ := hr
    exact ⟨vs, rfl, RTs.mono x cs _ hs⟩
  | .ptr cells off, v, hr => by
    simp only [RT] at hr ⊢
    obtain ⟨b, lo, c, e, fr, rfl, hi, hb, hs, ho⟩ := hr
    exact ⟨b, lo, c, e, fr, rfl, x.sub _ hi, (x.imm _ hi).trans hb, RTs.mono x cells _ hs, ho⟩
  | .sl cells n clip, v, hr => by
    simp only [RT] at hr ⊢
    obtain ⟨b, lo, cap, c, e, fr, rfl, hi, hb, hs, ho, h1, h2⟩ := hr
    exact ⟨b, lo, cap, c, e, fr, rfl, x.sub _ hi, (x.imm _ hi).trans hb, RTs.mono x cells _ hs, ho, h1, h2⟩
  | .mp ks vs, v, hr => by
    simp only [RT] at hr ⊢
    obtain ⟨r, es, clk, l, rfl, hi, hb, hl, hk, hs⟩ := hr
    exact ⟨r, es, clk, l, rfl, x.sub _ hi, (x.imm _ hi).trans hb, hl, hk, RTs.mono x vs _ hs⟩
  | .ifc t y, v, hr => by
    simp only [RT] at hr ⊢
    obtain ⟨u, rfl, hu⟩ := hr
    exact ⟨u, rfl, RT.mono x y u hu⟩
  | .fn f a b, v, hr => by
    simp only [RT] at hr ⊢
    obtain ⟨as, bs, rfl, h1, h2⟩ := hr
    exact ⟨as, bs, rfl, RTs.mono x a _ h1, RTs.mono x b _ h2⟩
theorem RTs.mono {I J : Nat → Prop} {h h' : Array Obj} (x : Ext I J h h') : ∀ (ts : List T) (vs : List Value), RTs h I ts vs → RTs h' J ts vs
  | [], _, hr => by simpa only [RTs] using hr
  | t :: ts, vs, hr => by
    simp only [RTs] at hr ⊢
    obtain ⟨v, rest, rfl, h1, h2⟩ := hr
    exact ⟨v, rest, rfl, RT.mono x t v h1, RTs.mono x ts rest h2⟩
end

mutual
theorem RC.mono {I J : Nat → Prop} {h h' : Array Obj} {ρ ρ' : Nat → Option Nat} (x : Ext I J h h') (hρ : ∀ b r, ρ b = some r → ρ' b = some r) : ∀ (t : C) (v : Value), RC ρ h I t v → RC ρ' h' J t v
  | .bad, _, _ => by simp only [RC]
  | .t y, v, hr => by simp only [RC] at hr ⊢; exact RT.mono x y v hr
  | .loc b off, v, hr => by
    simp only [RC] at hr ⊢
    obtain ⟨r, h1, h2⟩ := hr
    exact ⟨r, hρ _ _ h1, h2⟩
  | .osl b n sz, v, hr => by
    simp only [RC] at hr ⊢
    obtain ⟨r, cap, c, e, fr, h1, h2, h3, h4, h5⟩ := hr
    obtain ⟨c', e', fr', h6, h7⟩ := x.size _ _ _ _ h4
    exact ⟨r, cap, c', e', fr', hρ _ _ h1, h2, h3, h6, Nat.le_trans h5 h7⟩
  | .omp b, v, hr => by
    simp only [RC] at hr ⊢
    obtain ⟨r, h1, h2⟩ := hr
    exact ⟨r, hρ _ _ h1, h2⟩
  | .agg cs, v, hr => by
    simp only [RC] at hr ⊢
    obtain ⟨vs, rfl, hs⟩ := hr
    exact ⟨vs, rfl, RCs.mono x hρ cs _ hs⟩
  | .tup cs, v, hr => by
    simp only [RC] at hr ⊢
    obtain ⟨vs, rfl, hs⟩ := hr
    exact ⟨vs, rfl, RCs.mono x hρ cs _ hs⟩
  | .fn f a b, v, hr => by
    simp only [RC] at hr ⊢
    obtain ⟨as, bs, rfl, h1, h2⟩ := hr
    exact ⟨as, bs, rfl, RCs.mono x hρ a _ h1, RCs.mono x hρ b _ h2⟩
theorem RCs.mono {I J : Nat → Prop} {h h' : Array Obj} {ρ ρ' : Nat → Option Nat} (x : Ext I J h h') (hρ : ∀ b r, ρ b = some r → ρ' b = some r) : ∀ (ts : List C) (vs : List Value), RCs ρ h I ts vs → RCs ρ' h' J ts vs
  | [], _, hr => by simpa only [RCs] using hr
  | t :: ts, vs, hr => by
    simp only [RCs] at hr ⊢
    obtain ⟨v, rest, rfl, h1, h2⟩ := hr
    exact ⟨v, rest, rfl, RC.mono x hρ t v h1, RCs.mono x hρ ts rest h2⟩
end

/-! Lists of cells. -/
section
variable {h : Array Obj} {I : Nat → Prop} {ρ : Nat → Option Nat}

theorem RTs.length : ∀ {ts : List T} {vs : List Value}, RTs h I ts vs → vs.length = ts.length
  | [], _, hr => by simp only [RTs] at hr; simp [hr]
  | t :: ts, vs, hr => by
    simp only [RTs] at hr
    obtain ⟨v, rest, rfl, _, h2⟩ := hr
    simp [RTs.length h2]
theorem RCs.length : ∀ {ts : List C} {vs : List Value}, RCs ρ h I ts vs → vs.length = ts.length
  | [], _, hr => by simp only [RCs] at hr; simp [hr]
  | t :: ts, vs, hr => by
    simp only [RCs] at hr
    obtain ⟨v, rest, rfl, _, h2⟩ := hr
    simp [RCs.length h2]
theorem RCs.get : ∀ {ts : List C} {vs : List Value}, RCs ρ h I ts vs → ∀ {i : Nat} {c : C}, ts[i]? = some c → ∃ v, vs[i]? = some v ∧ RC ρ h I c v
  | [], _, _, i, c, hi => by simp at hi
  | t :: ts, vs, hr, i, c, hi => by
    simp only [RCs] at hr
    obtain ⟨v, rest, rfl, h1, h2⟩ := hr
    cases i with
    | zero => simp at hi; subst hi; exact ⟨v, by simp, h1⟩
    | succ i => simp at hi; simpa using RCs.get h2 hi
theorem RTs.get : ∀ {ts : List T} {vs : List Value}, RTs h I ts vs → ∀ {i : Nat} {c : T}, ts[i]? = some c → ∃ v, vs[i]? = some v ∧ RT h I c v
  | [], _, _, i, c, hi => by simp at hi
  | t :: ts, vs, hr, i, c, hi => by
    simp only [RTs] at hr
    obtain ⟨v, rest, rfl, h1, h2⟩ := hr
    cases i with
    | zero => simp at hi; subst hi; exact ⟨v, by simp, h1⟩
    | succ i => simp at hi; simpa using RTs.get h2 hi
theorem RCs.of_get : ∀ {ts : List C} {vs : List Value}, vs.length = ts.length → (∀ (i : Nat) c v, ts[i]? = some c → vs[i]? = some v → RC ρ h I c v) → RCs ρ h I ts vs
  | [], vs, hl, _ => by simp only [RCs]; exact List.length_eq_zero_iff.1 (by simpa using hl)
  | t :: ts, [], hl, _ => by simp at hl
  | t :: ts, v :: vs, hl, hg => by
    simp only [RCs]
    exact ⟨v, vs, rfl, hg 0 t v (by simp) (by simp), RCs.of_get (by simpa using hl) fun i c u hc hu => hg (i + 1) c u (by simpa using hc) (by simpa using hu)⟩
theorem RTs.of_get : ∀ {ts : List T} {vs : List Value}, vs.length = ts.length → (∀ (i : Nat) c v, ts[i]? = some c → vs[i]? = some v → RT h I c v) → RTs h I ts vs
  | [], vs, hl, _ => by simp only [RTs]; exact List.length_eq_zero_iff.1 (by simpa using hl)
  | t :: ts, [], hl, _ => by simp at hl
  | t :: ts, v :: vs, hl, hg => by
    simp only [RTs]
    exact ⟨v, vs, rfl, hg 0 t v (by simp) (by simp), RTs.of_get (by simpa using hl) fun i c u hc hu => hg (i + 1) c u (by simpa using hc) (by simpa using hu)⟩
theorem RCs.get' {ts : List C} {vs : List Value} (hr : RCs ρ h I ts vs) {i : Nat} {c : C} {v : Value} (hc : ts[i]? = some c) (hv : vs[i]? = some v) : RC ρ h I c v := by
  obtain ⟨u, h1, h2⟩ := hr.get hc
  rw [hv] at h1
  cases h1
  exact h2
theorem RTs.get' {ts : List T} {vs : List Value} (hr : RTs h I ts vs) {i : Nat} {c : T} {v : Value} (hc : ts[i]? = some c) (hv : vs[i]? = some v) : RT h I c v := by
  obtain ⟨u, h1, h2⟩ := hr.get hc
  rw [hv] at h1
  cases h1
  exact h2
theorem RCs.of_RTs {ts : List T} {vs : List Value} (hr : RTs h I ts vs) : RCs ρ h I (ts.map .t) vs :=
  RCs.of_get (by simp [hr.length]) fun i c v hc hv => by
    simp at hc
    obtain ⟨x, hx, rfl⟩ := hc
    simp only [RC]
    exact hr.get' hx hv
theorem RCs.take {ts : List C} {vs : List Value} (hr : RCs ρ h I ts vs) (n : Nat) : RCs ρ h I (ts.take n) (vs.take n) :=
  RCs.of_get (by simp [hr.length]) fun i c v hc hv => by
    simp [List.getElem?_take] at hc hv
    exact hr.get' hc.2 hv.2
theorem RCs.drop {ts : List C} {vs : List Value} (hr : RCs ρ h I ts vs) (n : Nat) : RCs ρ h I (ts.drop n) (vs.drop n) :=
  RCs.of_get (by simp [hr.length]) fun i c v hc hv => by
    simp at hc hv
    exact hr.get' hc hv
theorem RTs.take {ts : List T} {vs : List Value} (hr : RTs h I ts vs) (n : Nat) : RTs h I (ts.take n) (vs.take n) :=
  RTs.of_get (by simp [hr.length]) fun i c v hc hv => by
    simp [List.getElem?_take] at hc hv
    exact hr.get' hc.2 hv.2
theorem RTs.drop {ts : List T} {vs : List Value} (hr : RTs h I ts vs) (n : Nat) : RTs h I (ts.drop n) (vs.drop n) :=
  RTs.of_get (by simp [hr.length]) fun i c v hc hv => by
    simp at hc hv
    exact hr.get' hc hv
theorem RCs.append {ts us : List C} {vs ws : List Value} (hr : RCs ρ h I ts vs) (hs : RCs ρ h I us ws) : RCs ρ h I (ts ++ us) (vs ++ ws) :=
  RCs.of_get (by simp [hr.length, hs.length]) fun i c v hc hv => by
    rw [List.getElem?_append] at hc hv
    rw [hr.length] at hv
    split at hc
    · rename_i hlt; rw [if_pos hlt] at hv; exact hr.get' hc hv
    · rename_i hge; rw [if_neg hge] at hv; exact hs.get' hc hv
theorem RTs.append {ts us : List T} {vs ws : List Value} (hr : RTs h I ts vs) (hs : RTs h I us ws) : RTs h I (ts ++ us) (vs ++ ws) :=
  RTs.of_get (by simp [hr.length, hs.length]) fun i c v hc hv => by
    rw [List.getElem?_append] at hc hv
    rw [hr.length] at hv
    split at hc
    · rename_i hlt; rw [if_pos hlt] at hv; exact hr.get' hc hv
    · rename_i hge; rw [if_neg hge] at hv; exact hs.get' hc hv
theorem RCs.set {ts : List C} {vs : List Value} (hr : RCs ρ h I ts vs) (n : Nat) {c : C} {v : Value} (hc : RC ρ h I c v) : RCs ρ h I (ts.set n c) (vs.set n v) :=
  RCs.of_get (by simp [hr.length]) fun i c' v' hc' hv' => by
    rw [List.getElem?_set] at hc' hv'
    by_cases hi : n = i
    · subst hi
      rw [if_pos rfl] at hc' hv'
      rw [hr.length] at hv'
      split at hc'
      · rename_i hlt; rw [if_pos hlt] at hv'; cases hc'; cases hv'; exact hc
      · cases hc'
    · rw [if_neg hi] at hc' hv'; exact hr.get' hc' hv'
end
end Go.Va
