/- A region whose order is the text's own. An operation hangs on its operands and on the blocks that it looks at, on nothing else. -/
import Derived.Test.YtiegfchaepbnbaaGreatDoorP5
namespace Go.Va
open Go Go.RowKit

theorem look_ins (d : Nat) (c : C) : ∀ (e : Env) (j : Nat), look (ins d c e) j = if j = d then some c else look e j
  | [], j => by simp [ins, look]
  | (k, x) :: e, j => by
    simp only [ins]
    split
    · simp [look]
    · split
      · rename_i h1 h2
        subst h2
        simp only [look]
        by_cases hj : j = d <;> simp [hj]
      · rename_i h1 h2
        simp only [look]
        by_cases hj : j = k
        · have : j ≠ d := fun h => h2 (by omega)
          have h3 : k ≠ d := fun h => h2 h.symm
          simp [hj, h3]
        · simp only [hj, if_false]
          exact look_ins d c e j

theorem setAt_get : ∀ (l : List (Option Blk)) (b : Nat) (k : Option Blk) (j : Nat), ((setAt l b k)[j]?).join = if j = b then k else (l[j]?).join
  | [], 0, k, j => by cases j <;> simp [setAt]
  | [], n + 1, k, j => by
    cases j with
    | zero => simp [setAt]
    | succ j => simp only [setAt, List.getElem?_cons_succ, setAt_get [] n k j]; simp
  | x :: l, 0, k, j => by cases j <;> simp [setAt]
  | x :: l, n + 1, k, j => by
    cases j with
    | zero => simp [setAt]
    | succ j => simp only [setAt, List.getElem?_cons_succ, setAt_get l n k j]; simp

theorem setAt_length : ∀ (l : List (Option Blk)) (b : Nat) (k : Option Blk), l.length ≤ (setAt l b k).length
  | [], _, _ => by simp
  | x :: l, 0, k => by simp [setAt]
  | x :: l, n + 1, k => by simp only [setAt, List.length_cons]; have := setAt_length l n k; omega
theorem setH_length : ∀ (sets : List (Nat × Option Blk)) (l : List (Option Blk)), l.length ≤ (setH l sets).length
  | [], _ => Nat.le_refl _
  | (b, k) :: r, l => Nat.le_trans (setAt_length l b k) (setH_length r _)

def heapF (l : List (Option Blk)) : Nat → Option Blk := fun b => (l[b]?).join
theorem S.h_eq (s : S) : s.h = heapF s.heap := rfl
theorem setH_get : ∀ (sets : List (Nat × Option Blk)) (l : List (Option Blk)), heapF (setH l sets) = updH (heapF l) sets
  | [], _ => rfl
  | (b, k) :: r, l => by
    simp only [setH, updH]
    rw [setH_get r]
    congr 1
    funext j
    exact setAt_get l b k j

def updE (e : Nat → Option C) (dst : Option Tmp) (c : C) : Nat → Option C :=
  match dst with
  | none => e
  | some d => fun t => if t = d then some c else e t

theorem putE_spec {nt : Nat} {env env' : Env} {dst : Option Tmp} {c : C} (h : putE nt env dst c = some env') : look env' = updE (look env) dst c ∧ ∀ d, dst = some d → d < nt := by
  cases dst with
  | none => simp only [putE, Option.some.injEq] at h; subst h; exact ⟨rfl, fun d hd => by cases hd⟩
  | some d =>
    simp only [putE] at h
    split at h
    · rename_i hd
      cases h
      exact ⟨funext fun j => look_ins d c env j, fun d' hd' => by cases hd'; exact hd⟩
    · cases h

/-! ## Blocks of the caller's own, handed to a call and back -/
section
variable (P : Program) (G : Nat → Option (List T))
def calleeV (fn : Fn) (all capt : List C) : Option (FuncId × List C) :=
  match fn with
  | .func f => some (f, all ++ capt)
  | .method name => match all with
    | .t (.ifc t x) :: rest => match methodF P t name with
      | some f => some (f, .t x :: rest)
      | none => none
    | _ => none
  | _ => none
def callee (o : Oper) (e : Nat → Option C) : Option (FuncId × List C) :=
  match o.op with
  | .call c => match c.callee with
    | .builtin _ => none
    | .invoke r name => match ev G e r, evs G e c.args.toList with
      | some rv, some args => calleeV P (.method name) (rv :: args) []
      | _, _ => none
    | .value f => match ev G e f, evs G e c.args.toList with
      | some (.fn fn first capt), some args => calleeV P fn (first ++ args) capt
      | some (.t (.fn fn first capt)), some args => calleeV P fn (first.map .t ++ args) (capt.map .t)
      | _, _ => none
  | _ => none

end
mutual
/-- Only these blocks are in it. -/
def inC (ids : List Nat) : C → Bool
  | .bad => true
  | .t _ => true
  | .loc b _ => ids.contains b
  | .osl b _ _ => ids.contains b
  | .omp b => ids.contains b
  | .agg cs => inCs ids cs
  | .tup cs => inCs ids cs
  | .fn _ a b => inCs ids a && inCs ids b
def inCs (ids : List Nat) : List C → Bool
  | [] => true
  | c :: cs => inC ids c && inCs ids cs
end
def inB (ids : List Nat) : Blk → Bool
  | .cells cs _ => inCs ids cs
  | .map _ vs _ => inCs ids vs
  | .iter .. => false
  | .dead => true
/-- .. or trees alone. -/
def InB (ids : List Nat) (k : Blk) : Prop := (∃ xs fz, k = .cells (List.map C.t xs) fz) ∨ (∃ ks xs fz, k = .map ks (List.map C.t xs) fz) ∨ inB ids k = true
def hOf : List (Nat × Blk) → Nat → Option Blk
  | [], _ => none
  | (c, k) :: r, b => if b = c then some k else hOf r b
def only (ids : List Nat) (ρ : Nat → Option Nat) : Nat → Option Nat := fun b => if b ∈ ids then ρ b else none
/-- THE CONTRACT of a call that is handed blocks of the caller's own, and may write them. -/
def HoldsO (P : Program) (G : Nat → Option (List T)) (f : FuncId) (args : List C) (hin : List (Nat × Blk)) (res : C) (hout : List (Nat × Blk)) : Prop :=
  ∀ (w : World) (I : Nat → Prop) (ρ : Nat → Option Nat) (vs : List Value), SimH G w.heap.size ⟨w, I, ρ⟩ ρ I (hOf hin) w → (∀ b, hOf hin b = none → ρ b = none) → RCs ρ w.heap I args vs →
    Calls P f vs.toArray w fun en w' => ∃ v I', en = .returned v ∧ SimH G w.heap.size ⟨w, I, ρ⟩ ρ I' (hOf hout) w' ∧ RC ρ w'.heap I' res v
def bodied (P : Program) (f : FuncId) : Bool := match P.funcs[f]? with
  | some fn => !(fn.name == "runtime.NumGoroutine" || fn.body.isNone)
  | none => false
/-- What such a call comes to. -/
def DoesO (P : Program) (G : Nat → Option (List T)) (o : Oper) (e : Nat → Option C) (H : Nat → Option Blk) (eff : Eff) : Prop :=
  ∃ f cs hin res hout, callee P G o e = some (f, cs) ∧ bodied P f = true ∧ inCs (hin.map (·.1)) cs = true ∧ (hout.map (·.1)).Nodup ∧ (∀ b k, hOf hin b = some k → H b = some k ∧ isFz k = false ∧ InB (hin.map (·.1)) k) ∧ hout.map (·.1) = hin.map (·.1) ∧
    HoldsO P G f cs hin res hout ∧ eff = ⟨res, hout.map fun x => (x.1, some x.2), hin.map (·.1)⟩

section
variable {ρ : Nat → Option Nat} {h : Array Obj} {I : Nat → Prop} {ids : List Nat}
mutual
theorem inC_sound : ∀ (c : C) (v : Value), inC ids c = true → RC ρ h I c v → RC (only ids ρ) h I c v
  | .bad, _, _, _ => by simp only [RC]
  | .t x, v, _, hr => by simpa only [RC] using hr
  | .loc b off, v, hi, hr => by
    simp only [inC, List.contains_iff_mem] at hi
    simp only [RC] at hr ⊢
    obtain ⟨r, h1, h2⟩ := hr
    exact ⟨r, by unfold only; rw [if_pos hi]; exact h1, h2⟩
  | .osl b n sz, v, hi, hr => by
    simp only [inC, List.contains_iff_mem] at hi
    simp only [RC] at hr ⊢
    obtain ⟨r, cap, c, e, fr, h1, h2⟩ := hr
    exact ⟨r, cap, c, e, fr, by unfold only; rw [if_pos hi]; exact h1, h2⟩
  | .omp b, v, hi, hr => by
    simp only [inC, List.contains_iff_mem] at hi
    simp only [RC] at hr ⊢
    obtain ⟨r, h1, h2⟩ := hr
    exact ⟨r, by unfold only; rw [if_pos hi]; exact h1, h2⟩
  | .agg cs, v, hi, hr => by
    simp only [inC] at hi
    simp only [RC] at hr ⊢
    obtain ⟨vs, h1, h2⟩ := hr
    exact ⟨vs, h1, inCs_sound cs _ hi h2⟩
  | .tup cs, v, hi, hr => by
    simp only [inC] at hi
    simp only [RC] at hr ⊢
    obtain ⟨vs, h1, h2⟩ := hr
    exact ⟨vs, h1, inCs_sound cs _ hi h2⟩
  | .fn f a b, v, hi, hr => by
    simp only [inC, Bool.and_eq_true] at hi
    simp only [RC] at hr ⊢
    obtain ⟨as', bs', h1, h2, h3⟩ := hr
    exact ⟨as', bs', h1, inCs_sound a _ hi.1 h2, inCs_sound b _ hi.2 h3⟩
theorem inCs_sound : ∀ (cs : List C) (vs : List Value), inCs ids cs = true → RCs ρ h I cs vs → RCs (only ids ρ) h I cs vs
  | [], _, _, hr => by simpa only [RCs] using hr
  | c :: cs, vs, hi, hr => by
    simp only [inCs, Bool.and_eq_true] at hi
    simp only [RCs] at hr ⊢
    obtain ⟨v, rest, h1, h2, h3⟩ := hr
    exact ⟨v, rest, h1, inC_sound c v hi.1 h2, inCs_sound cs _ hi.2 h3⟩
end
theorem rcs_trees {ρ ρ' : Nat → Option Nat} : ∀ (xs : List T) (vs : List Value), RCs ρ h I (xs.map .t) vs → RCs ρ' h I (xs.map .t) vs
  | [], vs, hr => by simpa only [RCs, List.map_nil] using hr
  | x :: xs, vs, hr => by
    simp only [RCs, RC, List.map_cons] at hr ⊢
    obtain ⟨v, rest, h1, h2, h3⟩ := hr
    exact ⟨v, rest, h1, h2, rcs_trees xs rest h3⟩
theorem InB_sound {r : Nat} {k : Blk} (hk : InB ids k) (hfz : isFz k = false) (hr : RB ρ h I r k) : RB (only ids ρ) h I r k := by
  rcases hk with ⟨xs, fz, rfl⟩ | ⟨ks, xs, fz, rfl⟩ | hk
  · simp only [RB] at hr ⊢
    obtain ⟨c, e, h1, h2, h3, h4⟩ := hr
    exact ⟨c, e, h1, h2, rcs_trees _ _ h3, h4⟩
  · simp only [RB] at hr ⊢
    obtain ⟨es, clk, l, h1, hl, h2, h3⟩ := hr
    exact ⟨es, clk, l, h1, hl, h2, rcs_trees _ _ h3⟩
  · cases k with
    | cells cs fz =>
      simp only [inB] at hk
      simp only [RB] at hr ⊢
      obtain ⟨c, e, h1, h2, h3, h4⟩ := hr
      exact ⟨c, e, h1, h2, inCs_sound _ _ hk h3, h4⟩
    | map ks vs fz =>
      simp only [inB] at hk
      simp only [RB] at hr ⊢
      obtain ⟨es, clk, l, h1, hl, h2, h3⟩ := hr
      exact ⟨es, clk, l, h1, hl, h2, inCs_sound _ _ hk h3⟩
    | iter td cu => simp [inB] at hk
    | dead => simp [isFz] at hfz
theorem hOf_mem : ∀ {l : List (Nat × Blk)} {b : Nat} {k : Blk}, hOf l b = some k → b ∈ l.map (·.1)
  | [], b, k, h => by simp [hOf] at h
  | (c, q) :: l, b, k, h => by
    simp only [hOf] at h
    simp only [List.map_cons, List.mem_cons]
    split at h
    · exact .inl ‹_›
    · exact .inr (hOf_mem h)
theorem hOf_some : ∀ {l : List (Nat × Blk)} {b : Nat}, b ∈ l.map (·.1) → ∃ k, hOf l b = some k
  | [], b, h => by simp at h
  | (c, q) :: l, b, h => by
    simp only [List.map_cons, List.mem_cons] at h
    simp only [hOf]
    by_cases hb : b = c
    · exact ⟨q, if_pos hb⟩
    · rw [if_neg hb]; exact hOf_some (h.resolve_left hb)
theorem only_some {ρ : Nat → Option Nat} {b r : Nat} (h : only ids ρ b = some r) : ρ b = some r ∧ b ∈ ids := by
  unfold only at h
  split at h
  · exact ⟨h, ‹_›⟩
  · cases h
theorem updH_out : ∀ (l : List (Nat × Blk)) (H : Nat → Option Blk) (b : Nat), (l.map (·.1)).Nodup → updH H (l.map fun x => (x.1, some x.2)) b = match hOf l b with | some k => some k | none => H b
  | [], H, b, _ => rfl
  | (c, k) :: l, H, b, hn => by
    simp only [List.map_cons, List.nodup_cons] at hn
    simp only [List.map_cons, updH, hOf]
    rw [updH_out l _ b hn.2]
    by_cases hb : b = c
    · subst hb
      have : hOf l b = none := by
        cases h : hOf l b with
        | none => rfl
        | some q => exact (hn.1 (hOf_mem h)).elim
      simp [this]
    · simp [hb]
end
def Snd (P : Program) (G : Nat → Option (List T)) (rc : FuncId → List T → Option (List R)) : Prop := ∀ f args rs, rc f args = some rs → Holds P G f args rs
/-- What an operation has made may be held fast at once. -/
def TLe (a b : T) : Prop := ∀ (h : Array Obj) (I : Nat → Prop) (v : Value), RT h I a v → RT h I b v
def Frozen (H : Nat → Option Blk) (eff0 eff : Eff) : Prop :=
  eff = eff0 ∨ (∃ t ms t', frz (updH H eff0.sets) deep eff0.val = some (t, ms) ∧ TLe t t' ∧ eff = ⟨.t t', eff0.sets ++ marks (updH H eff0.sets) ms, eff0.fp ++ ms⟩) ∨ (∃ t t', eff0.val = .t t ∧ TLe t t' ∧ eff = ⟨.t t', eff0.sets, eff0.fp⟩)
def DoesC (P : Program) (G : Nat → Option (List T)) (o : Oper) (id : Nat) (e : Nat → Option C) (H : Nat → Option Blk) (eff : Eff) : Prop :=
  (∃ rc eff0, Snd P G rc ∧ opc P G rc o e H id = some eff0 ∧ Frozen H eff0 eff) ∨ DoesO P G o e H eff
/-- What an operation comes to in a state: it is carried out, or passed over. -/
def Does (P : Program) (G : Nat → Option (List T)) (nt : Nat) (ops : Array Oper) (o : Oper) (id : Nat) (e : Nat → Option C) (H : Nat → Option Blk) (eff : Eff) : Prop :=
  (∀ d, o.dst = some d → d < nt) ∧ ((wantC ops e o = some true ∧ DoesC P G o id e H eff) ∨ (wantC ops e o = some false ∧ eff = ⟨.tup [], [], []⟩))

theorem stepO_spec {P : Program} {G : Nat → Option (List T)} {rc : FuncId → List T → Option (List R)} {nt : Nat} {ops : Array Oper} {o : Oper} {id : Nat} {s s' : S} {x y : List Nat} (hrc : Snd P G rc) (h : stepO P G rc nt ops o id s = some (s', x, y)) :
    ∃ eff, Does P G nt ops o id s.e s.h eff ∧ s'.e = updE s.e o.dst eff.val ∧ s'.h = updH s.h eff.sets ∧ x = eff.sets.map (·.1) ∧ y = eff.fp ∧ s.heap.length ≤ s'.heap.length := by
  unfold stepO at h
  split at h
  · rename_i hw
    split at h
    · rename_i eff hop
      cases hp : putE nt s.env o.dst eff.val with
      | none => simp [hp] at h
      | some env' =>
        simp only [hp, Option.map_some, Option.some.injEq, Prod.mk.injEq] at h
        obtain ⟨rfl, rfl, rfl⟩ := h
        obtain ⟨h1, h2⟩ := putE_spec hp
        exact ⟨eff, ⟨h2, .inl ⟨hw, .inl ⟨rc, eff, hrc, hop, .inl rfl⟩⟩⟩, h1, setH_get _ _, rfl, rfl, setH_length _ _⟩
    · cases h
  · rename_i hw
    cases hp : putE nt s.env o.dst (.tup []) with
    | none => simp [hp] at h
    | some env' =>
      simp only [hp, Option.map_some, Option.some.injEq, Prod.mk.injEq] at h
      obtain ⟨rfl, rfl, rfl⟩ := h
      obtain ⟨h1, h2⟩ := putE_spec hp
      exact ⟨⟨.tup [], [], []⟩, ⟨h2, .inr ⟨hw, rfl⟩⟩, h1, rfl, rfl, rfl, Nat.le_refl _⟩
  · cases h

section
variable {P : Program} {G : Nat → Option (List T)} {base nt : Nat} {w0 : Base} {w : World} {ρ : Nat → Option Nat} {I : Nat → Prop} {e : Nat → Option C} {H : Nat → Option Blk} {a : Act}

theorem want_sound (hs : Sim G base w0 nt ρ I e H a w) {ops : Array Oper} {o : Oper} {b : Bool} (h : wantC ops e o = some b) : Region.wanted o (yielded ops a.tmps) = b := by
  unfold wantC at h
  unfold Region.wanted
  cases hg : o.guard with
  | none => simp only [hg, Option.some.injEq] at h; exact h
  | some q =>
    obtain ⟨j, want⟩ := q
    simp only [hg] at h ⊢
    cases hy : yieldC ops e j with
    | none => simp [hy] at h
    | some y =>
      simp only [hy, Option.map_some, Option.some.injEq] at h
      have : yielded ops a.tmps j = y := by
        unfold yieldC at hy
        unfold yielded
        cases hd : (ops[j]?).bind (·.dst) with
        | none => simp only [hd, Option.some.injEq] at hy; subst hy; rfl
        | some d =>
          simp only [hd] at hy ⊢
          simp only [Option.bind_some]
          split at hy
          · rename_i b' he
            cases hy
            have hv := hs.env d _ he
            simp only [RC, RT] at hv
            have hlt : d < a.tmps.size := by
              rcases Nat.lt_or_ge d a.tmps.size with h' | h'
              · exact h'
              · have := hv.1; simp [Array.getElem?_eq_none h', undef] at this
            have hv1 := hv.1
            simp [hlt] at hv1 ⊢
            rw [hv1]
          · rename_i cs he
            cases hy
            have hv := hs.env d _ he
            simp only [RC] at hv
            obtain ⟨vs, hv, _⟩ := hv
            rcases Nat.lt_or_ge d a.tmps.size with h' | h'
            · simp [h'] at hv ⊢; rw [hv]
            · simp [Array.getElem?_eq_none h']
          · cases hy
      rw [this]
      exact h

theorem sim_put (hs : Sim G base w0 nt ρ I e H a w) {ρ' : Nat → Option Nat} {I' : Nat → Prop} {w' : World} {H' : Nat → Option Blk} {dst : Option Tmp} {c : C} {v : Value} (hx : Ext I I' w.heap w'.heap) (hr : ∀ b r, ρ b = some r → ρ' b = some r)
    (hm : SimH G base w0 ρ' I' H' w') (hv : RC ρ' w'.heap I' c v) (hd : ∀ d, dst = some d → d < nt) : Sim G base w0 nt ρ' I' (updE e dst c) H' (a.put dst v) w' := by
  cases dst with
  | none => exact ⟨hm, hs.defers, hs.tm, fun k c' hk => RC.mono hx hr _ _ (hs.env k c' hk)⟩
  | some d =>
    have hlt : d < a.tmps.size := by rw [hs.tm]; exact hd d rfl
    refine ⟨hm, hs.defers, by simp [Act.put, hs.tm], fun k c' hk => ?_⟩
    simp only [updE] at hk
    by_cases hkd : k = d
    · subst hkd
      rw [if_pos rfl] at hk
      cases hk
      simpa [Act.put, hlt] using hv
    · rw [if_neg hkd] at hk
      have := RC.mono hx hr _ _ (hs.env k c' hk)
      have e1 : (a.put (some d) v).tmps.getD k undef = a.tmps.getD k undef := by
        simp [Act.put, Array.getElem?_setIfInBounds_ne (Ne.symm hkd)]
      rw [e1]
      exact this

theorem Step.frozen {ρ' : Nat → Option Nat} {I' : Nat → Prop} {w' : World} {lo hi : Nat} {eff0 eff : Eff} {v : Value} (hf : Frozen H eff0 eff) (hst : Step G base w0 ρ I H w lo hi eff0 v ρ' I' w') : ∃ I'', Step G base w0 ρ I H w lo hi eff v ρ' I'' w' := by
  rcases hf with rfl | ⟨t, ms, t', hf, hle, rfl⟩ | ⟨t, t', hf, hle, rfl⟩
  rotate_left 2
  · refine ⟨I', hst.ext, hst.rho, hst.out, ?_, hst.mem⟩
    have := hst.val
    rw [hf] at this
    simp only [RC] at this ⊢
    exact hle _ _ _ this
  · exact ⟨I', hst⟩
  · obtain ⟨d, hv⟩ := frz_sound hst.mem deep _ t ms hf
    refine ⟨J ρ' I' ms, hst.ext.trans (ext_J w' ms), hst.rho, hst.out, by simp only [RC]; exact hle _ _ _ (hv v hst.val), ?_⟩
    have := SimH.marks hst.mem d
    rw [← updH_append] at this
    exact this

theorem calleeV_sound {fn : Fn} {all capt cs : List C} {f : FuncId} {vs us : List Value} (h : calleeV P fn all capt = some (f, cs)) (hbd : bodied P f = true) (h1 : RCs ρ w.heap I all vs) (h2 : RCs ρ w.heap I capt us) :
    ∃ xs, (invoke (.fn fn us.toArray) vs.toArray).run P w = .ok (.enter f xs.toArray) w ∧ RCs ρ w.heap I cs xs := by
  have hcf : ∀ xs : List Value, (callFunc f xs.toArray).run P w = .ok (.enter f xs.toArray) w := fun xs => by
    unfold bodied at hbd
    cases hf : P.funcs[f]? with
    | none => simp [hf] at hbd
    | some fn' =>
      simp only [hf, Bool.not_eq_true', Bool.or_eq_false_iff] at hbd
      have e1 : ¬ fn'.name = "runtime.NumGoroutine" := by simpa using hbd.1
      have e2 : ¬ fn'.body = none := by intro h; rw [h] at hbd; simp at hbd
      simp [callFunc, hf, e1, e2]
  unfold calleeV at h
  split at h
  · rename_i g
    simp only [Option.some.injEq, Prod.mk.injEq] at h
    obtain ⟨rfl, rfl⟩ := h
    refine ⟨vs ++ us, ?_, h1.append h2⟩
    have := hcf (vs ++ us)
    simp only [invoke]
    rw [← this]
    simp
  · rename_i name
    split at h
    case h_2 => cases h
    rename_i t x rest
    split at h
    case h_2 => cases h
    rename_i g hf
    simp only [Option.some.injEq, Prod.mk.injEq] at h
    obtain ⟨rfl, rfl⟩ := h
    simp only [RCs, RC, RT] at h1
    obtain ⟨v, rest', rfl, ⟨u, rfl, hu⟩, hr⟩ := h1
    refine ⟨u :: rest', ?_, by simp only [RCs, RC]; exact ⟨u, rest', rfl, hu, hr⟩⟩
    have hm := method_sound (w := w) hf u (P.types.size + 99)
    have hm' : (method (P.types.size + Made.depth) t u name).run P w = .ok (g, u) w := hm
    have := hcf (u :: rest')
    simp only [invoke, callMethod]
    simp only [List.getElem?_toArray, List.getElem?_cons_zero, Sem.run_bind, run_program, Result.andThen_ok, hm']
    rw [← this]
    congr 1
    simp
  · cases h
theorem callee_sound (hs : Sim G base w0 nt ρ I e H a w) {o : Oper} {f : FuncId} {cs : List C} (h : callee P G o e = some (f, cs)) (hbd : bodied P f = true) :
    ∃ xs, (execOp a.eval o).run P w = .ok (.enter f xs.toArray) w ∧ RCs ρ w.heap I cs xs := by
  unfold callee at h
  split at h
  · rename_i c ho
    split at h
    · cases h
    · rename_i r name hc
      split at h
      · rename_i rv args hr hargs
        obtain ⟨xs, g1, g2⟩ := calleeV_sound (w := w) (us := []) h hbd (by simp only [RCs]; exact ⟨_, _, rfl, ev_sound hs hr, evs_sound hs hargs⟩) (by simp only [RCs])
        refine ⟨xs, ?_, g2⟩
        simp only [execOp, ho, resolve, hc, Sem.run_bind, Sem.run_pure, Result.andThen_ok]
        rw [← g1]
        congr 2
        simp
      · cases h
    · rename_i fv hc
      split at h
      · rename_i fn first capt args hf hargs
        have hv := ev_sound hs hf
        simp only [RC] at hv
        obtain ⟨as', bs', hv, h1, h2⟩ := hv
        obtain ⟨xs, g1, g2⟩ := calleeV_sound (w := w) h hbd (h1.append (evs_sound hs hargs)) h2
        refine ⟨xs, ?_, g2⟩
        simp only [execOp, ho, resolve, hc, hv, Deferred.ofValue, Sem.run_bind, Sem.run_pure, Result.andThen_ok]
        rw [← g1]
        congr 2
        exact Array.ext' (by simp)
      · rename_i fn first capt args hf hargs
        have hv := ev_sound hs hf
        simp only [RC, RT] at hv
        obtain ⟨as', bs', hv, h1, h2⟩ := hv
        obtain ⟨xs, g1, g2⟩ := calleeV_sound (w := w) h hbd ((RCs.of_RTs h1).append (evs_sound hs hargs)) (RCs.of_RTs h2)
        refine ⟨xs, ?_, g2⟩
        simp only [execOp, ho, resolve, hc, hv, Deferred.ofValue, Sem.run_bind, Sem.run_pure, Result.andThen_ok]
        rw [← g1]
        congr 2
        exact Array.ext' (by simp)
      · cases h
  · cases h
theorem doesO_sound (hs : Sim G base w0 nt ρ I e H a w) (hb : base ≤ w0.w.heap.size) {o : Oper} {id hi : Nat} {eff : Eff} (h : DoesO P G o e H eff) {next : Act → World → Prop} {Q : Exit → Act → World → Prop}
    (hn : ∀ v ρ' I' w', Step G base w0 ρ I H w id hi eff v ρ' I' w' → next (a.put o.dst v) w') : o.wp P a w next Q := by
  obtain ⟨f, cs, hin, res, hout, h1, h2, h3, hnod, h4, h5, h6, rfl⟩ := h
  obtain ⟨xs, g1, g2⟩ := callee_sound hs h1 h2
  have hm := hs.mem
  have hro : ∀ b r, only (hin.map (·.1)) ρ b = some r → ρ b = some r := fun b r h => (only_some h).1
  have hblk : ∀ b, b ∈ hin.map (·.1) → ∃ k, H b = some k ∧ isFz k = false := fun b hb => by
    obtain ⟨k, hk⟩ := hOf_some hb
    exact ⟨k, (h4 b k hk).1, (h4 b k hk).2.1⟩
  have hsim : SimH G w.heap.size ⟨w, I, only (hin.map (·.1)) ρ⟩ (only (hin.map (·.1)) ρ) I (hOf hin) w := by
    refine ⟨BelowX.refl _ _ _, hm.ilt, hm.glob, fun b k hk => ?_, fun b b' k k' r q1 q2 q3 q4 => ?_, fun b r h => hm.rlt b r (hro b r h), ⟨fun b hb => hb, fun b hb => .inl hb⟩, fun b r h => h⟩
    · obtain ⟨k1, k2, k3⟩ := h4 b k hk
      obtain ⟨r, t1, t2, t3, t4, t5⟩ := hm.blk b k k1
      have e1 : only (hin.map (·.1)) ρ b = some r := by unfold only; rw [if_pos (hOf_mem hk)]; exact t1
      exact ⟨r, e1, .inr ⟨b, e1⟩, InB_sound k3 k2 t3, t4, t5⟩
    · exact hm.inj b b' k k' r (h4 b k q1).1 (h4 b' k' q2).1 (hro _ _ q3) (hro _ _ q4)
  have hcall := h6 w I (only (hin.map (·.1)) ρ) xs hsim (fun b hb => by
    unfold only
    rw [if_neg]
    intro hmem
    obtain ⟨k, hk⟩ := hOf_some hmem
    rw [hb] at hk
    cases hk) (inCs_sound _ _ h3 g2)
  refine wp_of_call (K := fun v w' => ∃ ρ' I', Step G base w0 ρ I H w id hi ⟨res, hout.map fun x => (x.1, some x.2), hin.map (·.1)⟩ v ρ' I' w') ⟨f, xs.toArray, g1, hcall.mono ?_⟩ fun v w' ⟨ρ', I', hst⟩ => hn v ρ' I' w' hst
  rintro en w' ⟨v, I', rfl, hs', hv⟩
  refine ⟨v, rfl, ρ, I', ?_⟩
  have hnotI : ∀ x r, only (hin.map (·.1)) ρ x = some r → ¬ I r := fun x r hx hI => by
    obtain ⟨k, hk, hfz⟩ := hblk x (only_some hx).2
    obtain ⟨r', t1, _, _, _, t5⟩ := hm.blk x k hk
    rw [(only_some hx).1] at t1
    cases t1
    exact t5 hfz hI
  have hx : Ext I I' w.heap w'.heap := ⟨fun b hb => hs'.below.block b (hm.ilt b hb) fun x hx => hnotI x b hx hb, hs'.io.1, hs'.below.rows⟩
  have hnd : ∀ b, updH H (hout.map fun x => (x.1, some x.2)) b = match hOf hout b with | some k => some k | none => H b := fun b => updH_out hout H b hnod
  have hids : ∀ b, b ∈ hin.map (·.1) ↔ b ∈ hout.map (·.1) := fun b => by rw [h5]
  have hsplit : ∀ b k, updH H (hout.map fun x => (x.1, some x.2)) b = some k → (b ∈ hin.map (·.1) ∧ hOf hout b = some k) ∨ (b ∉ hin.map (·.1) ∧ H b = some k) := fun b k hk => by
    rw [hnd] at hk
    cases ho : hOf hout b with
    | some q => rw [ho] at hk; exact .inl ⟨(hids b).2 (hOf_mem ho), hk⟩
    | none =>
      rw [ho] at hk
      refine .inr ⟨fun hb => ?_, hk⟩
      obtain ⟨q, hq⟩ := hOf_some ((hids b).1 hb)
      rw [ho] at hq
      cases hq
  have hold : ∀ b k, updH H (hout.map fun x => (x.1, some x.2)) b = some k → ∃ k0, H b = some k0 := fun b k hk => by
    rcases hsplit b k hk with ⟨q1, _⟩ | ⟨_, q2⟩
    · obtain ⟨k0, t, _⟩ := hblk b q1; exact ⟨k0, t⟩
    · exact ⟨k, q2⟩
  refine ⟨hx, fun _ _ h => h, fun _ _ => rfl, RC.mono (Ext.refl _ _) hro _ _ hv, ?_⟩
  refine ⟨hm.below.trans ⟨hs'.below.os, hs'.below.tape, hs'.below.output, hs'.below.size, fun k hk hK => hs'.below.block k (Nat.lt_of_lt_of_le hk (hm.base_le hb)) fun x hx => ?_, hs'.below.rows⟩, hs'.ilt, hs'.glob, fun b k hk => ?_, fun b b' k k' r q1 q2 q3 q4 => ?_, fun b r h => Nat.lt_of_lt_of_le (hm.rlt b r h) hs'.below.size, ⟨fun b hb => hs'.io.1 _ (hm.io.1 b hb), fun b hb => ?_⟩, hm.keep⟩
  · obtain ⟨k0, t0, _⟩ := hblk x (only_some hx).2
    obtain ⟨r, t1, t2, _⟩ := hm.blk x k0 t0
    rw [(only_some hx).1] at t1
    cases t1
    rcases t2 with t2 | ⟨y, hy⟩
    · omega
    · exact hK y hy
  · rcases hsplit b k hk with ⟨q1, q2⟩ | ⟨q1, q2⟩
    · obtain ⟨r, t1, _, t3, t4, t5⟩ := hs'.blk b k q2
      obtain ⟨k0, s0, _⟩ := hblk b q1
      obtain ⟨r0, s1, s2, _⟩ := hm.blk b k0 s0
      rw [hro _ _ t1] at s1
      cases s1
      exact ⟨r, hro _ _ t1, s2, RB.mono (Ext.refl _ _) hro rfl t3, t4, t5⟩
    · obtain ⟨r, t1, t2, t3, t4, t5⟩ := hm.blk b k q2
      have hfar : ∀ x, only (hin.map (·.1)) ρ x ≠ some r := fun x hxr => by
        obtain ⟨k0, s0, _⟩ := hblk x (only_some hxr).2
        exact q1 (hm.inj b x k k0 r q2 s0 t1 (hro _ _ hxr) ▸ (only_some hxr).2)
      refine ⟨r, t1, t2, RB.mono hx (fun _ _ h => h) (hs'.below.block r t3.lt hfar) t3, fun h => hs'.io.1 _ (t4 h), fun h hI => ?_⟩
      rcases hs'.io.2 r hI with h' | h' | ⟨x, hxr⟩
      · exact t5 h h'
      · have := t3.lt; omega
      · exact hfar x hxr
  · obtain ⟨k1, e1⟩ := hold b k q1
    obtain ⟨k2, e2⟩ := hold b' k' q2
    exact hm.inj b b' k1 k2 r e1 e2 q3 q4
  · rcases hs'.io.2 b hb with h' | h' | ⟨x, hxr⟩
    · exact hm.io.2 b h'
    · exact .inr (.inl (Nat.le_trans (hm.base_le ‹base ≤ w0.w.heap.size›) h'))
    · obtain ⟨k0, s0, _⟩ := hblk x (only_some hxr).2
      obtain ⟨r, t1, t2, _⟩ := hm.blk x k0 s0
      rw [hro _ _ hxr] at t1
      cases t1
      exact .inr t2

/-- One operation of a region, in whatever state. -/
theorem does_sound (hs : Sim G base w0 nt ρ I e H a w) (hb : base ≤ w0.w.heap.size) {ops : Array Oper} {i : Nat} {o : Oper} (hi : ops[i]? = some o) {id : Nat}
    (hid : ∀ b, id ≤ b → b < id + nalloc o → ρ b = none) {eff : Eff} (h : Does P G nt ops o id e H eff) {K : Act → World → Prop} {Q : Exit → Act → World → Prop}
    (hn : ∀ v ρ' I' w', Sim G base w0 nt ρ' I' (updE e o.dst eff.val) (updH H eff.sets) (a.put o.dst v) w' → (∀ b r, ρ b = some r → ρ' b = some r) → (∀ b, ¬ (id ≤ b ∧ b < id + nalloc o) → ρ' b = ρ b) → K (a.put o.dst v) w') :
    wpOp P ops Q i K a w := by
  obtain ⟨hd, h⟩ := h
  unfold wpOp
  simp only [hi]
  rcases h with ⟨hw, ⟨rc, eff0, hrc, hop, hfr⟩ | hdo⟩ | ⟨hw, rfl⟩
  rotate_left
  · rw [want_sound hs hw]
    simp only [if_true]
    refine .inl (doesO_sound (id := id) (hi := id + nalloc o) hs hb hdo fun v ρ' I' w' hst => ?_)
    exact hn v ρ' I' w' (sim_put hs hst.ext hst.rho hst.mem hst.val hd) hst.rho hst.out
  rotate_left
  · rw [want_sound hs hw]
    simp only [if_true]
    refine .inl (opc_sound hrc hs hb hid hop fun v ρ' I1 w' hst1 => ?_)
    obtain ⟨I', hst⟩ := hst1.frozen hfr
    exact hn v ρ' I' w' (sim_put hs hst.ext hst.rho hst.mem hst.val hd) hst.rho hst.out
  · rw [want_sound hs hw]
    simp only [Bool.false_eq_true, if_false]
    exact hn undef ρ I w (sim_put hs (Ext.refl _ _) (fun _ _ h => h) hs.mem (by simp only [RC]; exact ⟨#[], rfl, by simp only [RCs]⟩) hd) (fun _ _ h => h) (fun _ _ => rfl)

/-- The operations in the order of the text: from a state to a state, with the trace. -/
inductive RunR (P : Program) (G : Nat → Option (List T)) (nt : Nat) (ops : Array Oper) : List Oper → Nat → S → S → List (List Nat × List Nat) → Prop
  | nil (id : Nat) (s : S) : RunR P G nt ops [] id s s []
  | cons {o : Oper} {l : List Oper} {id : Nat} {s s1 s' : S} {eff : Eff} {tr : List (List Nat × List Nat)} (hdo : Does P G nt ops o id s.e s.h eff) (h1 : s1.e = updE s.e o.dst eff.val) (h2 : s1.h = updH s.h eff.sets)
    (hlen : s.heap.length ≤ s1.heap.length) (hrest : RunR P G nt ops l (id + nalloc o) s1 s' tr) : RunR P G nt ops (o :: l) id s s' ((eff.sets.map (·.1), eff.fp) :: tr)

theorem runO_RunR {rc : FuncId → List T → Option (List R)} (hrc : Snd P G rc) {ops : Array Oper} : ∀ (l : List Oper) (id : Nat) (s s' : S) (tr : List (List Nat × List Nat)), runO P G rc nt ops l id s = some (s', tr) → RunR P G nt ops l id s s' tr
  | [], id, s, s', tr, h => by
    simp only [runO, Option.some.injEq, Prod.mk.injEq] at h
    obtain ⟨rfl, rfl⟩ := h
    exact .nil _ _
  | o :: l, id, s, s', tr, h => by
    simp only [runO] at h
    split at h
    · rename_i s1 x y hst
      split at h
      · rename_i s2 tr' hrun
        simp only [Option.some.injEq, Prod.mk.injEq] at h
        obtain ⟨rfl, rfl⟩ := h
        obtain ⟨eff, hdo, h1, h2, rfl, rfl, hlen⟩ := stepO_spec hrc hst
        exact .cons hdo h1 h2 hlen (runO_RunR hrc l _ s1 s2 tr' hrun)
      · cases h
    · cases h

/-- A region: from a state to a state. -/
def RegionR (P : Program) (G : Nat → Option (List T)) (nt : Nat) (ops : Array Oper) (draw : Bool) (s s' : S) : Prop :=
  ∃ tr, RunR P G nt ops ops.toList s.heap.length ⟨s.env, s.heap ++ List.replicate (total ops.toList) none⟩ s' tr ∧ (!draw || (drawOk ops && freeAll (masks ops.toList []) tr 0)) = true

theorem region_RegionR {rc : FuncId → List T → Option (List R)} (hrc : Snd P G rc) {ops : Array Oper} {draw : Bool} {s s' : S} (h : region P G rc nt ops draw s = some s') : RegionR P G nt ops draw s s' := by
  unfold region at h
  split at h
  · rename_i s1 tr hrun
    split at h
    · rename_i hc
      cases h
      exact ⟨tr, runO_RunR hrc _ _ _ _ _ hrun, hc⟩
    · cases h
  · cases h

/-- The operations in the order of the text. -/
theorem runO_sound (hb : base ≤ w0.w.heap.size) {ops : Array Oper} {Q : Exit → Act → World → Prop} :
    ∀ (l : List Oper) (k id : Nat) (s s' : S) (tr : List (List Nat × List Nat)) (ρ : Nat → Option Nat) (I : Nat → Prop) (a : Act) (w : World), (∀ j, l[j]? = ops[k + j]?) → RunR P G nt ops l id s s' tr →
      Sim G base w0 nt ρ I s.e s.h a w → (∀ b, id ≤ b → ρ b = none) →
      (∀ ρ' I' a' w', Sim G base w0 nt ρ' I' s'.e s'.h a' w' → (∀ b, id + total l ≤ b → ρ' b = none) → s.heap.length ≤ s'.heap.length → Q .normal a' w') → wpOps P ops Q (List.range' k l.length) a w
  | [], k, id, s, s', tr, ρ, I, a, w, hl, h, hs, hf, hq => by
    cases h
    simp only [List.length_nil, List.range'_zero, wpOps]
    exact hq ρ I a w hs (fun b hb => hf b (by simp [total] at hb; exact hb)) (Nat.le_refl _)
  | o :: l, k, id, s, s', tr, ρ, I, a, w, hl, h, hs, hf, hq => by
    cases h with
    | @cons _ _ _ _ s1 _ eff tr hdo h1 h2 hlen hrest =>
      have hi : ops[k]? = some o := by have := hl 0; simpa using this.symm
      simp only [List.length_cons, List.range'_succ, wpOps_cons]
      refine does_sound hs hb hi (fun b hb1 _ => hf b hb1) hdo fun v ρ' I' w' hs' hr ho => ?_
      rw [← h1, ← h2] at hs'
      refine runO_sound hb l (k + 1) (id + nalloc o) s1 s' tr ρ' I' _ w' (fun j => by have := hl (j + 1); simpa [Nat.add_assoc, Nat.add_comm 1 j] using this) hrest hs' (fun b hb => by
        rw [ho b (by omega)]
        exact hf b (by omega)) fun ρ'' I'' a'' w'' hs'' hf'' hlen' => hq ρ'' I'' a'' w'' hs'' (fun b hb => hf'' b (by simp [total] at hb ⊢; omega)) (Nat.le_trans hlen hlen')

theorem heapF_pad (l : List (Option Blk)) (n : Nat) : heapF (l ++ List.replicate n none) = heapF l := by
  funext b
  unfold heapF
  rw [List.getElem?_append]
  split
  · rfl
  · rename_i h
    rw [List.getElem?_eq_none (by omega : l.length ≤ b)]
    by_cases hb : b - l.length < n
    · simp [hb]
    · rw [List.getElem?_eq_none (by simp; omega)]

def SimS (G : Nat → Option (List T)) (base : Nat) (w0 : Base) (nt : Nat) (ρ : Nat → Option Nat) (I : Nat → Prop) (s : S) (a : Act) (w : World) : Prop :=
  Sim G base w0 nt ρ I s.e s.h a w ∧ ∀ b, s.heap.length ≤ b → ρ b = none

theorem region_plain (hb : base ≤ w0.w.heap.size) {ops : Array Oper} {s s' : S} {rid : Nat} {Q : Exit → Act → World → Prop} (hs : SimS G base w0 nt ρ I s a w)
    (h : RegionR P G nt ops false s s') (hq : ∀ ρ' I' a' w', SimS G base w0 nt ρ' I' s' a' w' → Q .normal a' w') : (Code.region rid ops false).wp P Q a w := by
  obtain ⟨tr, hrun, _⟩ := h
  refine wp_region ?_
  have hr : List.range ops.size = List.range' 0 ops.toList.length := by rw [List.range_eq_range']; simp
  rw [hr]
  refine runO_sound hb ops.toList 0 s.heap.length _ s' tr ρ I a w (fun j => by simp) hrun ?_ hs.2 fun ρ' I' a' w' hs' hf hlen => hq ρ' I' a' w' ⟨hs', fun b hb => hf b ?_⟩
  · have := hs.1
    have e1 : (S.mk s.env (s.heap ++ List.replicate (total ops.toList) none)).h = s.h := heapF_pad _ _
    rw [e1]
    exact this
  · simp only [List.length_append, List.length_replicate] at hlen
    omega
end
end Go.Va
namespace Go.Va
open Go Go.RowKit

section
variable {P : Program} {G : Nat → Option (List T)} {e e' : Nat → Option C} {H H' : Nat → Option Blk}

theorem frzL_local {f g : C → Option (T × List Nat)} (hf : ∀ c t ms, f c = some (t, ms) → (∀ b, b ∈ ms → H b = H' b) → g c = some (t, ms)) : ∀ (cs : List C) (ts : List T) (ms : List Nat), frzL f cs = some (ts, ms) → (∀ b, b ∈ ms → H b = H' b) → frzL g cs = some (ts, ms)
  | [], ts, ms, h, _ => h
  | c :: cs, ts, ms, h, hH => by
    simp only [frzL] at h ⊢
    split at h
    · rename_i t m ts' ms' h1 h2
      simp only [Option.some.injEq, Prod.mk.injEq] at h
      obtain ⟨rfl, rfl⟩ := h
      rw [hf c t m h1 fun b hb => hH b (List.mem_append.2 (.inl hb)), frzL_local hf cs ts' ms' h2 fun b hb => hH b (List.mem_append.2 (.inr hb))]
    · cases h

theorem frz_local : ∀ (n : Nat) (c : C) (t : T) (ms : List Nat), frz H n c = some (t, ms) → (∀ b, b ∈ ms → H b = H' b) → frz H' n c = some (t, ms)
  | 0, c, t, ms, h, _ => by simp [frz] at h
  | n + 1, .t x, t, ms, h, _ => by simpa [frz] using h
  | n + 1, .loc b off, t, ms, h, hH => by
    simp only [frz] at h ⊢
    split at h
    · rename_i cs fz hb
      cases hq : frzL (frz H n) cs with
      | none => simp [hq] at h
      | some q =>
        obtain ⟨ts, ns⟩ := q
        simp only [hq, Option.map_some, Option.some.injEq, Prod.mk.injEq] at h
        obtain ⟨rfl, rfl⟩ := h
        rw [← hH b List.mem_cons_self, hb]
        simp only [frzL_local (frz_local n) cs ts ns hq fun x hx => hH x (List.mem_cons_of_mem _ hx), Option.map_some]
    · cases h
  | n + 1, .osl b k sz, t, ms, h, hH => by
    simp only [frz] at h ⊢
    split at h
    · rename_i cs fz hb
      split at h
      · rename_i hle
        cases hq : frzL (frz H n) (cs.take (k * sz)) with
        | none => simp [hq] at h
        | some q =>
          obtain ⟨ts, ns⟩ := q
          simp only [hq, Option.map_some, Option.some.injEq, Prod.mk.injEq] at h
          obtain ⟨rfl, rfl⟩ := h
          rw [← hH b List.mem_cons_self, hb]
          simp only [if_pos hle, frzL_local (frz_local n) _ ts ns hq fun x hx => hH x (List.mem_cons_of_mem _ hx), Option.map_some]
      · cases h
    · cases h
  | n + 1, .omp b, t, ms, h, hH => by
    simp only [frz] at h ⊢
    split at h
    · rename_i ks vs fz hb
      cases hq : frzL (frz H n) vs with
      | none => simp [hq] at h
      | some q =>
        obtain ⟨ts, ns⟩ := q
        simp only [hq, Option.map_some, Option.some.injEq, Prod.mk.injEq] at h
        obtain ⟨rfl, rfl⟩ := h
        rw [← hH b List.mem_cons_self, hb]
        simp only [frzL_local (frz_local n) vs ts ns hq fun x hx => hH x (List.mem_cons_of_mem _ hx), Option.map_some]
    · cases h
  | n + 1, .agg cs, t, ms, h, hH => by
    simp only [frz] at h ⊢
    cases hq : frzL (frz H n) cs with
    | none => simp [hq] at h
    | some q =>
      obtain ⟨ts, ns⟩ := q
      simp only [hq, Option.map_some, Option.some.injEq, Prod.mk.injEq] at h
      obtain ⟨rfl, rfl⟩ := h
      simp only [frzL_local (frz_local n) cs ts ns hq hH, Option.map_some]
  | n + 1, .fn f x y, t, ms, h, hH => by
    simp only [frz] at h ⊢
    split at h
    · rename_i ts m us m' h1 h2
      simp only [Option.some.injEq, Prod.mk.injEq] at h
      obtain ⟨rfl, rfl⟩ := h
      rw [frzL_local (frz_local n) _ ts m h1 fun b hb => hH b (List.mem_append.2 (.inl hb)), frzL_local (frz_local n) _ us m' h2 fun b hb => hH b (List.mem_append.2 (.inr hb))]
    · cases h
  | n + 1, .bad, t, ms, h, _ => by simp [frz] at h
  | n + 1, .tup cs, t, ms, h, _ => by simp [frz] at h

theorem marks_local : ∀ (ms : List Nat), (∀ b, b ∈ ms → H b = H' b) → marks H' ms = marks H ms
  | [], _ => rfl
  | b :: r, hH => by
    simp only [marks]
    rw [hH b List.mem_cons_self, marks_local r fun x hx => hH x (List.mem_cons_of_mem _ hx)]

theorem callF_local {rc : FuncId → List T → Option (List R)} {id : Nat} {f : FuncId} {args : List C} {eff : Eff} (h : callF P rc H id f args = some eff) (hH : ∀ b, b ∈ eff.fp → H b = H' b) : callF P rc H' id f args = some eff := by
  unfold callF at h ⊢
  cases hfn : P.funcs[f]? with
  | none => simp [hfn] at h
  | some fn =>
    simp only [hfn] at h ⊢
    split at h
    · cases h
    · rename_i hc
      rw [if_neg hc]
      cases hf : frzL (frz H deep) args with
      | none => simp [hf] at h
      | some q =>
        obtain ⟨ts, ms⟩ := q
        simp only [hf] at h
        cases hr : rc f ts with
        | none => simp [hr] at h
        | some rs =>
          simp only [hr] at h
          split at h
          · rename_i hle
            cases h
            rw [frzL_local (frz_local deep) args ts ms hf hH]
            simp only [hr, if_pos hle, marks_local ms hH]
          · cases h

theorem callV_local {rc : FuncId → List T → Option (List R)} {id : Nat} {fn : Fn} {all capt : List C} {eff : Eff} (h : callV P rc H id fn all capt = some eff) (hH : ∀ b, b ∈ eff.fp → H b = H' b) : callV P rc H' id fn all capt = some eff := by
  unfold callV at h ⊢
  split at h
  · exact callF_local h hH
  · split at h
    · split at h
      · rename_i hm; (try simp only [hm]); exact callF_local h hH
      · cases h
    · cases h
  · cases h

theorem srcL_local {c : C} {src : List C} {k : Nat} {fp : List Nat} (h : srcL H c = some (src, k, fp)) (hH : ∀ b, b ∈ fp → H b = H' b) : srcL H' c = some (src, k, fp) := by
  unfold srcL at h ⊢
  split at h
  · exact h
  · exact h
  · rename_i b n sz
    split at h
    · rename_i cs fz hb
      simp only [Option.some.injEq, Prod.mk.injEq] at h
      obtain ⟨rfl, rfl, rfl⟩ := h
      rw [← hH b (by simp), hb]
    · cases h
  · cases h

theorem appendC_local {id size bytes : Nat} {d x : C} {eff : Eff} (h : appendC H id size bytes d x = some eff) (hH : ∀ b, b ∈ eff.fp → H b = H' b) : appendC H' id size bytes d x = some eff := by
  unfold appendC at h ⊢
  cases hs : srcL H x with
  | none => simp [hs] at h
  | some q =>
    obtain ⟨src, k, fp⟩ := q
    simp only [hs] at h
    split at h
    case isFalse => cases h
    rename_i hc
    have main : (∀ b, b ∈ fp → H b = H' b) → srcL H' x = some (src, k, fp) := srcL_local hs
    split at h
    · have h0 := h
      have hfp : eff.fp = fp := by
        split at h
        · cases h; rfl
        · split at h
          · cases h; rfl
          · cases h
      rw [hfp] at hH
      simp only [main hH, if_pos hc]
      exact h0
    · have h0 := h
      have hfp : eff.fp = fp := by
        split at h
        · cases h; rfl
        · split at h
          · cases h; rfl
          · cases h
      rw [hfp] at hH
      simp only [main hH, if_pos hc]
      exact h0
    · rename_i b n sz
      split at h
      · rename_i hk
        cases h
        simp only [main hH, if_pos hc, if_pos hk]
      · rename_i hk
        split at h
        · rename_i cs hb
          split at h
          · rename_i hcond
            cases h
            rw [main fun b hb => hH b (by simp [hb])]
            simp only [if_pos hc, if_neg hk, ← hH b (by simp), hb, if_pos hcond]
          · cases h
        · cases h
    · cases h

theorem lenC_local {d : TypeDesc} {c : C} {n : Nat} {fp : List Nat} (h : lenC H d c = some (n, fp)) (hH : ∀ b, b ∈ fp → H b = H' b) : lenC H' d c = some (n, fp) := by
  unfold lenC at h ⊢
  split at h
  · exact h
  · exact h
  · exact h
  · exact h
  · exact h
  · exact h
  · exact h
  · rename_i b
    split at h
    · rename_i ks vs fz hb
      simp only [Option.some.injEq, Prod.mk.injEq] at h
      obtain ⟨rfl, rfl⟩ := h
      rw [← hH b (by simp), hb]
    · cases h
  · cases h

theorem foundC_local {kd : TypeDesc} {kv : Value} {c : C} {x : Option C} {fp : List Nat} (h : foundC H kd kv c = some (x, fp)) (hH : ∀ b, b ∈ fp → H b = H' b) : foundC H' kd kv c = some (x, fp) := by
  unfold foundC at h ⊢
  split at h
  · exact h
  · exact h
  · rename_i b
    split at h
    · rename_i ks vs fz hb
      have hfp : fp = [b] := by
        split at h
        · split at h
          · simp only [Option.some.injEq, Prod.mk.injEq] at h; exact h.2.symm
          · cases h
        · simp only [Option.some.injEq, Prod.mk.injEq] at h; exact h.2.symm
        · cases h
      subst hfp
      simp only [← hH b (by simp), hb]
      exact h
    · cases h
  · cases h

theorem lookupC_local {t : TypeId} {m k : C} {ok : Bool} {eff : Eff} (h : lookupC P H t m k ok = some eff) (hH : ∀ b, b ∈ eff.fp → H b = H' b) : lookupC P H' t m k ok = some eff := by
  unfold lookupC at h ⊢
  split at h
  case h_2 => cases h
  rename_i key elem hu
  split at h
  case h_2 => cases h
  rename_i kd kv hkd
  split at h
  case isFalse => cases h
  rename_i hsk
  cases hf : foundC H kd kv m with
  | none => simp [hf] at h
  | some q =>
    obtain ⟨x, fp⟩ := q
    have hfp : eff.fp = fp := by
      simp only [hf] at h
      cases x with
      | some c => simp only [Option.some.injEq] at h; rw [← h]
      | none =>
        cases hz : zeroC P elem with
        | none => simp [hz] at h
        | some z => simp only [hz, Option.map_some, Option.some.injEq] at h; rw [← h]
    rw [hfp] at hH
    have := foundC_local hf hH
    simp only [hf] at h
    simp only [if_pos hsk, this]
    exact h

theorem updateC_local {t : TypeId} {m k x : C} {eff : Eff} (h : updateC P H t m k x = some eff) (hH : ∀ b, b ∈ eff.fp → H b = H' b) : updateC P H' t m k x = some eff := by
  unfold updateC at h ⊢
  split at h
  case h_2 => cases h
  rename_i key elem hu
  split at h
  case h_2 => cases h
  rename_i kd kv b hkd
  split at h
  case isFalse => cases h
  rename_i hsk
  split at h
  case h_2 => cases h
  rename_i ks vs hb
  have hfp : eff.fp = [b] := by
    split at h
    · split at h
      · cases h; rfl
      · cases h
    · cases h; rfl
    · cases h
  simp only [if_pos hsk, ← hH b (by simp [hfp]), hb]
  exact h

theorem deleteC_local {t : TypeId} {m k : C} {eff : Eff} (h : deleteC P H t m k = some eff) (hH : ∀ b, b ∈ eff.fp → H b = H' b) : deleteC P H' t m k = some eff := by
  unfold deleteC at h ⊢
  split at h
  case h_2 => cases h
  rename_i key elem hu
  split at h
  case h_2 => cases h
  rename_i kd kv hkd
  split at h
  case isFalse => cases h
  rename_i hsk
  simp only [if_pos hsk]
  split at h
  · exact h
  · rename_i b
    split at h
    case h_2 => cases h
    rename_i ks vs hb
    have hfp : eff.fp = [b] := by
      split at h
      · split at h
        · cases h; rfl
        · cases h
      · cases h; rfl
      · cases h
    simp only [← hH b (by simp [hfp]), hb]
    exact h
  · cases h

theorem sliceC_local {elem : TypeId} {x : C} {lo hi mx : Option Int} {eff : Eff} (h : sliceC P H elem x lo hi mx = some eff) (hH : ∀ b, b ∈ eff.fp → H b = H' b) : sliceC P H' elem x lo hi mx = some eff := by
  unfold sliceC at h ⊢
  split at h
  · cases h
  · rename_i i hi'
    split at h
    · exact h
    · exact h
    · rename_i b n sz
      split at h
      · rename_i cs fz l hh m hb hq
        split at h
        · rename_i hc
          split at h
          · rename_i ts ms hf
            cases h
            have h1 : H' b = some (.cells cs fz) := by rw [← hH b (by simp), hb]
            have h2 := frzL_local (frz_local deep) _ ts ms hf fun x hx => hH x (List.mem_cons_of_mem _ hx)
            simp only [h1, hq, if_pos hc, h2]
            rw [marks_local (b :: ms) hH]
          · cases h
        · cases h
      · cases h
    · cases h

theorem arrSliceC_local {n : Nat} {elem : TypeId} {b : Nat} {lo hi mx : Option Operand} {eff : Eff} (h : arrSliceC P H n elem b lo hi mx = some eff) (hH : ∀ b, b ∈ eff.fp → H b = H' b) : arrSliceC P H' n elem b lo hi mx = some eff := by
  unfold arrSliceC at h
  split at h
  case h_2 => cases h
  rename_i i cs fz hi' hb
  split at h
  case isFalse => cases h
  rename_i hle
  cases h
  have := hH b (by simp)
  unfold arrSliceC
  rw [← this]
  simp only [hi', hb]
  rw [if_pos hle]
theorem builtinC_local {id : Nat} {b : Builtin} {ats : Array TypeId} {args : List C} {eff : Eff} (h : builtinC P H id b ats args = some eff) (hH : ∀ b, b ∈ eff.fp → H b = H' b) : builtinC P H' id b ats args = some eff := by
  unfold builtinC at h ⊢
  split at h
  · split at h
    · rename_i c _ d hd
      cases hl : lenC H d c with
      | none => simp [hl] at h
      | some q =>
        obtain ⟨n, fp⟩ := q
        simp only [hl, Option.map_some, Option.some.injEq] at h
        subst h
        rw [lenC_local hl hH]
        rfl
    · cases h
  · split at h
    case h_2 => cases h
    split at h
    case isFalse => cases h
    rename_i hts htt
    split at h
    case h_2 => cases h
    rename_i hu
    split at h
    case h_2 => cases h
    rename_i hi hz
    split at h
    case isFalse => cases h
    rename_i hzl
    simp only [if_pos htt, if_pos hzl]
    exact appendC_local h hH
  · split at h
    case h_2 => cases h
    rename_i elem src k fp hd hsrc
    split at h
    case h_2 => cases h
    rename_i i c n sz hi
    split at h
    case h_2 => cases h
    rename_i cs hb
    split at h
    case isFalse => cases h
    rename_i hcond
    cases h
    have h1 := srcL_local hsrc fun b hb => hH b (List.mem_cons_of_mem _ hb)
    have h2 : H' c = some (.cells cs false) := by rw [← hH c (by simp), hb]
    simp only [hd, h1, hi, h2, if_pos hcond]
  · split at h
    case h_2 => cases h
    exact deleteC_local h hH
  · cases h

/-! ### Operands -/
theorem evs_local : ∀ {xs : List Operand}, (∀ x, x ∈ xs → ev G e' x = ev G e x) → evs G e' xs = evs G e xs
  | [], _ => rfl
  | x :: xs, h => by
    simp only [evs]
    rw [h x List.mem_cons_self, evs_local fun y hy => h y (List.mem_cons_of_mem _ hy)]
theorem evParts_local : ∀ {xs : List (Nat × Operand)}, (∀ x, x ∈ xs → ev G e' x.2 = ev G e x.2) → evParts G e' xs = evParts G e xs
  | [], _ => rfl
  | (i, x) :: xs, h => by
    simp only [evParts]
    rw [h (i, x) List.mem_cons_self, evParts_local fun y hy => h y (List.mem_cons_of_mem _ hy)]
theorem flatOp_local {o : Oper} (hsel : ∀ cs b, o.op ≠ .select cs b) (hE : ∀ x, x ∈ o.op.operands → ev G e' x = ev G e x) : flatOp P G e' o = flatOp P G e o := by
  unfold flatOp
  rw [evs_local fun x hx => hE x (by simpa using hx)]
  rw [execOp_congr (ρ := fun x => ((ev G e' x).bind flatV).getD undef) (ρ' := fun x => ((ev G e x).bind flatV).getD undef) o hsel fun x hx => by simp only [hE x hx]]
theorem optInt_local {x : Option Operand} (h : ∀ y, x = some y → ev G e' y = ev G e y) : optInt G e' x = optInt G e x := by
  cases x with
  | none => rfl
  | some y => simp only [optInt]; rw [h y rfl]

theorem rangeC_local {id : Nat} {t : TypeId} {c : C} {eff : Eff} (h : rangeC P H id t c = some eff) (hH : ∀ b, b ∈ eff.fp → H b = H' b) : rangeC P H' id t c = some eff := by
  unfold rangeC at h ⊢
  split at h
  case h_2 => cases h
  rename_i k el y ms hu hf
  split at h
  case h_2 => cases h
  rename_i td htd
  cases h
  simp only [hu, frz_local deep c y ms hf hH, htd, marks_local ms hH]
theorem nextC_local {s : Bool} {c : C} {eff : Eff} (h : nextC H s c = some eff) (hH : ∀ b, b ∈ eff.fp → H b = H' b) : nextC H' s c = some eff := by
  unfold nextC at h ⊢
  split at h
  · rename_i b
    split at h
    · rename_i k x hb
      cases h
      have := hH b (by simp)
      rw [hb] at this
      rw [← this]
    · rename_i cu hb
      cases h
      have := hH b (by simp)
      rw [hb] at this
      rw [← this]
    · cases h
  · cases h
theorem entryC_local {c : C} {eff : Eff} (h : entryC H c = some eff) (hH : ∀ b, b ∈ eff.fp → H b = H' b) : entryC H' c = some eff := by
  unfold entryC at h ⊢
  split at h
  · rename_i b
    split at h
    · rename_i k x hb
      cases h
      have := hH b (by simp)
      rw [hb] at this
      rw [← this]
    · cases h
  · cases h
theorem callee_local {o : Oper} (hE : ∀ x, x ∈ o.op.operands → ev G e' x = ev G e x) : callee P G o e' = callee P G o e := by
  unfold callee
  cases ho : o.op <;> simp only [ho, Op.operands] at hE ⊢
  case call c =>
    have hargs : evs G e' c.args.toList = evs G e c.args.toList := evs_local fun x hx => hE x (by simp [Call.operands]; exact .inr (by simpa using hx))
    cases hc : c.callee with
    | builtin b => rfl
    | invoke r name =>
      have hr : ev G e' r = ev G e r := hE r (by simp [Call.operands, hc])
      simp only [hr, hargs]
    | value f =>
      have hf : ev G e' f = ev G e f := hE f (by simp [Call.operands, hc])
      simp only [hf, hargs]
theorem opc_local {rc : FuncId → List T → Option (List R)} {o : Oper} {id : Nat} {eff : Eff} (h : opc P G rc o e H id = some eff) (hE : ∀ x, x ∈ o.op.operands → ev G e' x = ev G e x) (hH : ∀ b, b ∈ eff.fp → H b = H' b) :
    opc P G rc o e' H' id = some eff := by
  unfold opc at h ⊢
  have hfl : (∀ cs b, o.op ≠ .select cs b) → flatOp P G e' o = flatOp P G e o := fun hs => flatOp_local hs hE
  cases ho : o.op <;> simp only [ho, Op.operands] at h hE ⊢
  case move x => rw [hE x (by simp)]; exact h
  case assign x => rw [hE x (by simp)]; exact h
  case pick c a b =>
    rw [hE c (by simp)]
    split at h
    · rename_i t hc
      have : ev G e' (if t = true then a else b) = ev G e (if t = true then a else b) := by split <;> exact hE _ (by simp)
      simp only [this]
      exact h
    · cases h
  case alloc ty => exact h
  case box ty x => rw [hE x (by simp)]; exact h
  case build ty parts =>
    rw [evParts_local fun x hx => hE x.2 (by simp; exact ⟨x.1, by simpa using hx⟩)]
    exact h
  case buildSlice ty len parts =>
    rw [evParts_local fun x hx => hE x.2 (by simp; exact ⟨x.1, by simpa using hx⟩)]
    exact h
  case load ty x =>
    rw [hE x (by simp)]
    split at h
    · rename_i b off hx
      split at h
      · rename_i cs fz hb
        cases hp : partC P ty cs off with
        | none => simp [hp] at h
        | some y =>
          simp only [hp, Option.map_some, Option.some.injEq] at h
          subst h
          simp only [hx, ← hH b (by simp), hb, hp, Option.map_some]
      · cases h
    · rename_i hx; (try simp only [hx]); exact h
    · cases h
  case store ty x y =>
    rw [hE x (by simp), hE y (by simp)]
    split at h
    · rename_i b off xs i hx hy hi
      split at h
      · rename_i cs hb
        split at h
        · rename_i hc
          cases h
          simp only [hx, hy, hi, ← hH b (by simp), hb, if_pos hc]
        · cases h
      · cases h
    · cases h
  case nilCheck x => rw [hE x (by simp)]; exact h
  case makeInterface ty x =>
    rw [hE x (by simp)]
    split at h
    · cases h
    · rename_i d hni hu
      split at h
      · rename_i t ms hx
        cases h
        obtain ⟨c, h1, h2⟩ := Option.bind_eq_some_iff.1 hx
        have h3 := frz_local deep c t ms h2 hH
        simp only [hu, h1, Option.bind_some, h3, marks_local ms hH]
        try rfl
      · cases h
    · cases h
  case makeFunc fn first capt =>
    rw [evs_local fun x hx => hE x (by simp; exact .inl (by simpa using hx)), evs_local fun x hx => hE x (by simp; exact .inr (by simpa using hx))]
    exact h
  case makeMap ty r => cases r <;> first | exact h | cases h
  case makeSlice ty l c => rw [hE l (by simp), hE c (by simp)]; exact h
  case slice ty x lo hi mx =>
    rw [hE x (by simp), hfl (by simp [ho]), optInt_local (x := lo) fun y hy => hE y (by simp [hy]), optInt_local (x := hi) fun y hy => hE y (by simp [hy]), optInt_local (x := mx) fun y hy => hE y (by simp [hy])]
    split at h
    · rename_i elem c hu hx
      split at h
      · exact sliceC_local h hH
      · cases h
    · exact arrSliceC_local h hH
    · exact h
  case fieldAddr s x f => rw [hE x (by simp)]; exact h
  case field s x f => rw [hE x (by simp)]; exact h
  case indexAddr t x i => rw [hE x (by simp), hE i (by simp)]; exact h
  case index t x i => rw [hE x (by simp), hE i (by simp), hfl (by simp [ho])]; exact h
  case lookup t m k ok =>
    rw [hE m (by simp), hE k (by simp)]
    split at h
    · exact lookupC_local h hH
    · cases h
  case mapUpdate t m k x =>
    rw [hE m (by simp), hE k (by simp), hE x (by simp)]
    split at h
    · exact updateC_local h hH
    · cases h
  case insert t m k x =>
    rw [hE m (by simp), hE k (by simp), hE x (by simp)]
    split at h
    · exact updateC_local h hH
    · cases h
  case typeAssert x xt as ok => rw [hE x (by simp)]; exact h
  case extract t ix => rw [hE t (by simp)]; exact h
  case binOp op t x y yt => rw [hE x (by simp), hfl (by simp [ho])]; exact h
  case unOp op t x => rw [hfl (by simp [ho])]; exact h
  case convert s d x => rw [hfl (by simp [ho])]; exact h
  case call c =>
    have hargs : evs G e' c.args.toList = evs G e c.args.toList := evs_local fun x hx => hE x (by simp [Call.operands]; exact .inr (by simpa using hx))
    rw [hfl (by simp [ho]), hargs]
    cases hc : c.callee with
    | builtin b =>
      simp only [hc] at h ⊢
      cases b <;> simp only at h ⊢ <;> first
        | exact h
        | (split at h
           · exact builtinC_local h hH
           · cases h)
    | invoke r name =>
      simp only [hc] at h ⊢
      rw [hE r (by simp [Call.operands, hc])]
      split at h
      · exact callV_local h hH
      · cases h
    | value f =>
      simp only [hc] at h ⊢
      rw [hE f (by simp [Call.operands, hc])]
      split at h
      · exact callV_local h hH
      · exact callV_local h hH
      · cases h
  case range t x =>
    rw [hE x (by simp)]
    split at h
    · exact rangeC_local h hH
    · cases h
  case next x s =>
    rw [hE x (by simp)]
    split at h
    · exact nextC_local h hH
    · cases h
  case entry x =>
    rw [hE x (by simp)]
    split at h
    · exact entryC_local h hH
    · cases h
  case sliceToArrayPointer arr x => rw [hE x (by simp)]; exact h
  all_goals (first | exact h | cases h)
end
end Go.Va
