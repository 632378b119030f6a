/- Each operation of the interpreter is what the model does: words and plain operations. -/
import Derived.Test.YtaomebcmmjhplaaGreatDoorVa3
namespace Go.Va
open Go Go.RowKit

def Res (P : Program) (o : Oper) (a : Act) (w : World) (K : Value → World → Prop) : Prop :=
  (∃ v w', (execOp a.eval o).run P w = .ok (.value v) w' ∧ K v w') ∨ (∃ w', (execOp a.eval o).run P w = .ok .skip w' ∧ K undef w')

section
variable {P : Program} {G : Nat → Option (List T)} {base nt : Nat} {w0 : Base} {w : World} {ρ : Nat → Option Nat} {I : Nat → Prop} {e : Nat → Option C} {H : Nat → Option Blk} {a : Act}

theorem ev_sound (hs : Sim G base w0 nt ρ I e H a w) {x : Operand} {c : C} (h : ev G e x = some c) : RC ρ w.heap I c (a.eval x) := by
  cases x with
  | tmp t => exact hs.env t c h
  | const v =>
    simp only [ev] at h
    split at h
    · rename_i hf; cases h; simp only [RC, RT]; exact ⟨rfl, hf⟩
    · cases h
  | func f =>
    simp only [ev, Option.some.injEq] at h
    subst h
    simp only [RC, RT]
    exact ⟨#[], #[], rfl, by simp only [RTs], by simp only [RTs]⟩
  | global g =>
    simp only [ev] at h
    cases hg : G g with
    | none => simp [hg] at h
    | some cells =>
      simp only [hg, Option.map_some, Option.some.injEq] at h
      subst h
      simp only [RC]
      exact hs.mem.glob g cells hg

theorem evs_sound (hs : Sim G base w0 nt ρ I e H a w) : ∀ {xs : List Operand} {cs : List C}, evs G e xs = some cs → RCs ρ w.heap I cs (xs.map a.eval)
  | [], cs, h => by simp only [evs, Option.some.injEq] at h; subst h; simp only [RCs]; rfl
  | x :: xs, cs, h => by
    simp only [evs] at h
    split at h
    · rename_i c cs' h1 h2
      cases h
      simp only [RCs]
      exact ⟨_, _, rfl, ev_sound hs h1, evs_sound hs h2⟩
    · cases h

/-! ### One word -/
theorem oneC_one {c : C} {v : Value} (h : oneC c = true) (hv : RC ρ w.heap I c v) : v.oneCell' = true := by
  cases c with
  | bad => simp [oneC] at h
  | agg _ => simp [oneC] at h
  | tup _ => simp [oneC] at h
  | loc b off => simp only [RC] at hv; obtain ⟨r, _, rfl⟩ := hv; rfl
  | osl b n sz => simp only [RC] at hv; obtain ⟨r, cap, c, e, fr, _, rfl, _⟩ := hv; rfl
  | omp b => simp only [RC] at hv; obtain ⟨r, _, rfl⟩ := hv; rfl
  | fn f a b => simp only [RC] at hv; obtain ⟨as, bs, rfl, _⟩ := hv; rfl
  | t x =>
    simp only [RC] at hv
    cases x with
    | lit u =>
      simp only [RT] at hv
      obtain ⟨rfl, hf⟩ := hv
      cases v <;> first | rfl | simp [flat] at hf
    | agg _ => simp [oneC] at h
    | ptr cells off => simp only [RT] at hv; obtain ⟨b, lo, c, e, fr, rfl, _⟩ := hv; rfl
    | sl cells n clip => simp only [RT] at hv; obtain ⟨b, lo, cap, c, e, fr, rfl, _⟩ := hv; rfl
    | mp ks vs => simp only [RT] at hv; obtain ⟨r, es, clk, l, rfl, _⟩ := hv; rfl
    | ifc t x => simp only [RT] at hv; obtain ⟨u, rfl, _⟩ := hv; rfl
    | fn f a b => simp only [RT] at hv; obtain ⟨as, bs, rfl, _⟩ := hv; rfl

theorem flat_one {v : Value} (hf : flat v = true) : v.oneCell' = true := by cases v <;> first | rfl | simp [flat] at hf

theorem all_ones : ∀ {cs : List C} {vs : List Value}, cs.all oneC = true → RCs ρ w.heap I cs vs → ones vs
  | [], vs, _, h => by simp only [RCs] at h; subst h; intro v hv; cases hv
  | c :: cs, vs, ho, h => by
    simp only [RCs] at h
    obtain ⟨v, rest, rfl, h1, h2⟩ := h
    simp only [List.all_cons, Bool.and_eq_true] at ho
    intro u hu
    rcases List.mem_cons.1 hu with rfl | hu
    · exact oneC_one ho.1 h1
    · exact all_ones ho.2 h2 u hu

/-- The cells of a value. -/
theorem cellsC_sound {c : C} {xs : List C} {v : Value} (h : cellsC c = some xs) (hv : RC ρ w.heap I c v) : RCs ρ w.heap I xs v.cells.toList := by
  cases c with
  | bad => simp [cellsC] at h
  | tup _ => simp [cellsC] at h
  | agg cs =>
    simp only [cellsC, Option.some.injEq] at h
    subst h
    simp only [RC] at hv
    obtain ⟨vs, rfl, h1⟩ := hv
    exact h1
  | t x =>
    cases x with
    | agg ts =>
      simp only [cellsC, Option.some.injEq] at h
      subst h
      simp only [RC, RT] at hv
      obtain ⟨vs, rfl, h1⟩ := hv
      exact RCs.of_RTs h1
    | _ =>
      simp only [cellsC, Option.some.injEq] at h
      subst h
      have h1 := oneC_one (c := .t _) rfl hv
      have : v.cells = #[v] := by cases v <;> first | rfl | simp [Value.oneCell'] at h1
      rw [this]
      simp only [RCs]
      exact ⟨v, [], rfl, hv, rfl⟩
  | _ =>
    simp only [cellsC, Option.some.injEq] at h
    subst h
    have h1 := oneC_one rfl hv
    have : v.cells = #[v] := by cases v <;> first | rfl | simp [Value.oneCell'] at h1
    rw [this]
    simp only [RCs]
    exact ⟨v, [], rfl, hv, rfl⟩

theorem ofLits_sound : ∀ {l : List Value} {cs : List C}, ofLits l = some cs → RCs ρ w.heap I cs l ∧ ones l ∧ cs.length = l.length
  | [], cs, h => by simp only [ofLits, Option.some.injEq] at h; subst h; exact ⟨by simp only [RCs], (fun v hv => by cases hv), rfl⟩
  | v :: l, cs, h => by
    simp only [ofLits] at h
    split at h
    · rename_i hf
      cases hq : ofLits l with
      | none => simp [hq] at h
      | some r =>
        simp only [hq, Option.map_some, Option.some.injEq] at h
        subst h
        obtain ⟨h1, h2, h3⟩ := ofLits_sound hq
        refine ⟨by simp only [RCs, RC, RT]; exact ⟨v, l, rfl, ⟨rfl, hf⟩, h1⟩, fun u hu => ?_, by simp [h3]⟩
        rcases List.mem_cons.1 hu with rfl | hu
        · exact flat_one hf
        · exact h2 u hu
    · cases h

theorem RC_lit {v : Value} (h : flat v = true) : RC ρ w.heap I (.t (.lit v)) v := by simp [RC, RT, h]

theorem ofV_sound {v : Value} {c : C} (h : ofV v = some c) : RC ρ w.heap I c v := by
  cases v with
  | agg x =>
    simp only [ofV] at h
    cases hq : ofLits x.toList with
    | none => simp [hq] at h
    | some r =>
      simp only [hq, Option.map_some, Option.some.injEq] at h
      subst h
      simp only [RC]
      exact ⟨x, rfl, (ofLits_sound hq).1⟩
  | tuple x =>
    simp only [ofV] at h
    cases hq : ofLits x.toList with
    | none => simp [hq] at h
    | some r =>
      simp only [hq, Option.map_some, Option.some.injEq] at h
      subst h
      simp only [RC]
      exact ⟨x, rfl, (ofLits_sound hq).1⟩
  | _ =>
    simp only [ofV] at h
    split at h
    · rename_i hf; cases h; exact RC_lit hf
    · cases h

theorem litsV_sound {h : Array Obj} : ∀ {ts : List T} {l vs : List Value}, litsV ts = some l → RTs h I ts vs → vs = l
  | [], l, vs, h1, h2 => by simp only [litsV, Option.some.injEq] at h1; subst h1; simpa only [RTs] using h2
  | t :: ts, l, vs, h1, h2 => by
    cases t with
    | lit u =>
      simp only [litsV] at h1
      cases hq : litsV ts with
      | none => simp [hq] at h1
      | some r =>
        simp only [hq, Option.map_some, Option.some.injEq] at h1
        subst h1
        simp only [RTs, RT] at h2
        obtain ⟨v, rest, rfl, ⟨rfl, _⟩, h3⟩ := h2
        rw [litsV_sound hq h3]
    | _ => simp [litsV] at h1
theorem litsC_sound : ∀ {cs : List C} {l vs : List Value}, litsC cs = some l → RCs ρ w.heap I cs vs → vs = l
  | [], l, vs, h1, h2 => by simp only [litsC, Option.some.injEq] at h1; subst h1; simpa only [RCs] using h2
  | c :: cs, l, vs, h1, h2 => by
    cases c with
    | t x =>
      cases x with
      | lit u =>
        simp only [litsC] at h1
        cases hq : litsC cs with
        | none => simp [hq] at h1
        | some r =>
          simp only [hq, Option.map_some, Option.some.injEq] at h1
          subst h1
          simp only [RCs, RC, RT] at h2
          obtain ⟨v, rest, rfl, ⟨rfl, _⟩, h3⟩ := h2
          rw [litsC_sound hq h3]
      | _ => simp [litsC] at h1
    | _ => simp [litsC] at h1
theorem flatV_sound {c : C} {u v : Value} (h : flatV c = some u) (hv : RC ρ w.heap I c v) : v = u := by
  cases c with
  | t x =>
    cases x with
    | lit y =>
      simp only [flatV, Option.some.injEq] at h
      subst h
      simp only [RC, RT] at hv
      exact hv.1
    | agg ts =>
      simp only [flatV] at h
      cases hq : litsV ts with
      | none => simp [hq] at h
      | some r =>
        simp only [hq, Option.map_some, Option.some.injEq] at h
        subst h
        simp only [RC, RT] at hv
        obtain ⟨vs, rfl, h1⟩ := hv
        rw [← litsV_sound hq h1]
    | _ => simp [flatV] at h
  | agg cs =>
    simp only [flatV] at h
    cases hq : litsC cs with
    | none => simp [hq] at h
    | some r =>
      simp only [hq, Option.map_some, Option.some.injEq] at h
      subst h
      simp only [RC] at hv
      obtain ⟨vs, rfl, h1⟩ := hv
      rw [← litsC_sound hq h1]
  | _ => simp [flatV] at h

/-! ### Plain operations -/
theorem evs_mem : ∀ {xs : List Operand} {cs : List C}, evs G e xs = some cs → ∀ x, x ∈ xs → ∃ c, c ∈ cs ∧ ev G e x = some c
  | [], cs, h, x, hx => by cases hx
  | _ :: ys, cs, h, x, hx => by
    simp only [evs] at h
    split at h
    · rename_i c cs' h1 h2
      cases h
      rcases List.mem_cons.1 hx with rfl | hx
      · exact ⟨c, List.mem_cons_self, h1⟩
      · obtain ⟨d, hd, he⟩ := evs_mem h2 x hx
        exact ⟨d, List.mem_cons_of_mem _ hd, he⟩
    · cases h

theorem flatOp_sound (hs : Sim G base w0 nt ρ I e H a w) {o : Oper} {eff : Eff} (lo hi : Nat) (hsel : ∀ cs b, o.op ≠ .select cs b) (h : flatOp P G e o = some eff) :
    Res P o a w fun v w' => Step G base w0 ρ I H w lo hi eff v ρ I w' := by
  unfold flatOp at h
  split at h
  · rename_i cs hcs
    split at h
    · rename_i hall
      split at h
      · rename_i v hpr
        cases hv : ofV v with
        | none => simp [hv] at h
        | some c =>
          simp only [hv, Option.map_some, Option.some.injEq] at h
          subst h
          have he : execOp a.eval o = execOp (fun x => ((ev G e x).bind flatV).getD undef) o := by
            refine execOp_congr o hsel fun x hx => ?_
            obtain ⟨c', hc', hx'⟩ := evs_mem hcs x (by simpa using hx)
            have h1 := List.all_eq_true.1 hall c' hc'
            obtain ⟨u, hu⟩ := Option.isSome_iff_exists.1 h1
            simp only [hx', Option.bind_some, hu, Option.getD_some]
            exact flatV_sound hu (ev_sound hs hx')
          refine .inl ⟨v, w, ?_, Step.still hs.mem (ofV_sound hv)⟩
          rw [he]
          exact pr_run _ _ hpr w
      · cases h
    · cases h
  · cases h

theorem eq_of_some {α : Type} {x : Option α} {a b : α} (h : x = some a) (h' : x = some b) : a = b := by rw [h] at h'; cases h'; rfl

/-! ### Reading a part of a row -/
theorem run_isAgg {ty : TypeId} {d : TypeDesc} (hd : P.underlying ty = some d) (w : World) : (isAgg ty).run P w = .ok (isAggB d) w := by
  unfold isAgg
  rw [Sem.run_bind, run_underlying hd w]
  cases d <;> rfl
theorem run_sizeOf' {ty : TypeId} {i : TypeInfo} (hi : P.info? ty = some i) (w : World) : (sizeOf ty).run P w = .ok i.size w := by
  simp [sizeOf, typeInfo, hi]

theorem addr_add (b off j : Nat) : (⟨b, off, none⟩ : Addr).add j = ⟨b, off + j, none⟩ := by unfold Addr.add; split <;> simp_all

theorem win_get {c : Array Value} {lo n j : Nat} {v : Value} (h : (win c lo n)[j]? = some v) : j < n ∧ c[lo + j]? = some v := by
  simp only [win, List.getElem?_take, List.getElem?_drop] at h
  split at h
  · rename_i hj; exact ⟨hj, by simpa using h⟩
  · cases h

theorem win_drop_take {c : Array Value} {lo n off k : Nat} (h : off + k ≤ n) : ((win c lo n).drop off).take k = win c (lo + off) k := by
  apply List.ext_getElem?
  intro j
  simp only [win, List.getElem?_take, List.getElem?_drop]
  by_cases hj : j < k
  · have : off + j < n := by omega
    simp [hj, this, Nat.add_assoc]
  · simp [hj]

theorem loadVar_part {ty : TypeId} {cs : List C} {off lo r : Nat} {x : C} {c : Array Value} {el : TypeId} {fr : Nat × Nat} (h : partC P ty cs off = some x)
    (hr : w.heap[r]? = some (.cells c el fr)) (hcs : RCs ρ w.heap I cs (win c lo cs.length)) :
    ∃ v, (loadVar ty ⟨r, lo + off, none⟩).run P w = .ok v w ∧ RC ρ w.heap I x v := by
  unfold partC at h
  split at h
  · rename_i d i hd hi
    split at h
    · rename_i hagg
      split at h
      · rename_i hle
        cases h
        have h1 := (hcs.drop off).take i.size
        rw [win_drop_take (by omega)] at h1
        have hlen := h1.length
        rw [List.length_take, List.length_drop] at hlen
        have hlen' : (win c (lo + off) i.size).length = i.size := by omega
        refine ⟨.agg (win c (lo + off) i.size).toArray, ?_, by simp only [RC]; exact ⟨_, rfl, by simpa using h1⟩⟩
        have hl : (loadCells ⟨r, lo + off, none⟩ (win c (lo + off) i.size).length).run P w = .ok (win c (lo + off) i.size).toArray w :=
          run_loadCells_list (P := P) w ⟨r, lo + off, none⟩ _ (fun j v hv => by
            rw [addr_add, cell_of_row w r _ c el fr hr]
            exact (win_get hv).2)
        rw [hlen'] at hl
        simp only [loadVar, Sem.run_bind, run_isAgg hd, Result.andThen_ok, hagg, if_true, run_sizeOf' hi, hl, Sem.run_pure]
      · cases h
    · rename_i hagg
      obtain ⟨v, hv, hrc⟩ := hcs.get h
      refine ⟨v, ?_, hrc⟩
      have hcell := (win_get hv).2
      have hagg' : isAggB d = false := by simpa using hagg
      simp only [loadVar, Sem.run_bind, run_isAgg hd, Result.andThen_ok, hagg', Bool.false_eq_true, if_false]
      rw [run_load, cell_of_row w r _ c el fr hr, hcell]
  · cases h

/-- The same of a value's own cells. -/
theorem part_part {ty : TypeId} {cs : List C} {off : Nat} {x : C} {vs : Array Value} (h : partC P ty cs off = some x) (hcs : RCs ρ w.heap I cs vs.toList) :
    ∃ v, (part ty vs off).run P w = .ok v w ∧ RC ρ w.heap I x v := by
  unfold partC at h
  split at h
  · rename_i d i hd hi
    split at h
    · rename_i hagg
      split at h
      · rename_i hle
        cases h
        have h1 := (hcs.drop off).take i.size
        refine ⟨.agg (vs.extract off (off + i.size)), ?_, by
          simp only [RC]
          refine ⟨_, rfl, ?_⟩
          rw [Array.toList_extract, List.extract_eq_take_drop]
          simpa using h1⟩
        simp only [part, Sem.run_bind, run_isAgg hd, Result.andThen_ok, hagg, if_true, run_sizeOf' hi, Sem.run_pure]
      · cases h
    · rename_i hagg
      obtain ⟨v, hv, hrc⟩ := hcs.get h
      have hagg' : isAggB d = false := by simpa using hagg
      have hv' : vs[off]? = some v := by simpa using hv
      refine ⟨v, ?_, hrc⟩
      simp only [part, Sem.run_bind, run_isAgg hd, Result.andThen_ok, hagg', Bool.false_eq_true, if_false, hv', Sem.run_pure]
  · cases h

theorem blk_cells (hs : SimH G base w0 ρ I H w) {b r : Nat} {cs : List C} {fz : Bool} (hb : H b = some (.cells cs fz)) (hr : ρ b = some r) :
    ∃ c el, w.heap[r]? = some (.cells c el (0, 0)) ∧ cs.length ≤ c.size ∧ RCs ρ w.heap I cs (win c 0 cs.length) ∧ ones (win c 0 cs.length) := by
  obtain ⟨r', hr', _, hrb, _⟩ := hs.blk b _ hb
  have := eq_of_some hr hr'
  subst this
  simpa only [RB] using hrb
theorem blk_map (hs : SimH G base w0 ρ I H w) {b r : Nat} {ks : List Value} {vs : List C} {fz : Bool} (hb : H b = some (.map ks vs fz)) (hr : ρ b = some r) :
    ∃ es clk l, w.heap[r]? = some (.map es clk) ∧ MapOf es clk l ∧ l.map (·.key) = ks ∧ RCs ρ w.heap I vs (l.map (·.val)) := by
  obtain ⟨r', hr', _, hrb, _⟩ := hs.blk b _ hb
  have := eq_of_some hr hr'
  subst this
  simpa only [RB] using hrb

theorem load_sound (hs : Sim G base w0 nt ρ I e H a w) {o : Oper} {ty : TypeId} {x : Operand} (ho : o.op = .load ty x) {eff : Eff} (lo hi : Nat)
    (h : (match ev G e x with
      | some (.loc b off) => match H b with
        | some (.cells cs _) => (partC P ty cs off).map fun c => (⟨c, [], [b]⟩ : Eff)
        | _ => none
      | some (.t (.ptr ts off)) => (partC P ty (ts.map .t) off).map fun c => ⟨c, [], []⟩
      | _ => none) = some eff) : Res P o a w fun v w' => Step G base w0 ρ I H w lo hi eff v ρ I w' := by
  split at h
  · rename_i b off hx
    split at h
    · rename_i cs fz hb
      cases hp : partC P ty cs off with
      | none => simp [hp] at h
      | some y =>
        simp only [hp, Option.map_some, Option.some.injEq] at h
        subst h
        have hv := ev_sound hs hx
        simp only [RC] at hv
        obtain ⟨r, hr, hv⟩ := hv
        obtain ⟨c, el, h1, h2, h3, h4⟩ := blk_cells hs.mem hb hr
        obtain ⟨v, hl, hrc⟩ := loadVar_part hp h1 h3
        rw [Nat.zero_add] at hl
        refine .inl ⟨v, w, ?_, Step.still hs.mem hrc⟩
        simp only [execOp, ho, hv, Instr.loadAt, Instr.sureAddr, Sem.run_bind, Sem.run_pure, Result.andThen_ok, hl]
    · cases h
  · rename_i ts off hx
    cases hp : partC P ty (ts.map .t) off with
    | none => simp [hp] at h
    | some y =>
      simp only [hp, Option.map_some, Option.some.injEq] at h
      subst h
      have hv := ev_sound hs hx
      simp only [RC, RT] at hv
      obtain ⟨b, l, c, el, fr, hv, _, h1, h3, _⟩ := hv
      have h3' : RCs ρ w.heap I (ts.map .t) (win c l (ts.map C.t).length) := by rw [List.length_map]; exact RCs.of_RTs h3
      obtain ⟨v, hl, hrc⟩ := loadVar_part hp h1 h3'
      refine .inl ⟨v, w, ?_, Step.still hs.mem hrc⟩
      simp only [execOp, ho, hv, Instr.loadAt, Instr.sureAddr, Sem.run_bind, Sem.run_pure, Result.andThen_ok, hl]
  · cases h

theorem splice_length {cs xs : List C} {off : Nat} (h : off + xs.length ≤ cs.length) : (splice cs off xs).length = cs.length := by
  simp [splice]; omega

theorem store_sound (hs : Sim G base w0 nt ρ I e H a w) {o : Oper} {ty : TypeId} {x y : Operand} (ho : o.op = .store ty x y) {eff : Eff} (lo hi : Nat)
    (h : (match ev G e x, (ev G e y).bind cellsC, P.info? ty with
    | some (.loc b off), some xs, some i => match H b with
      | some (.cells cs false) => if xs.length = i.size ∧ off + xs.length ≤ cs.length ∧ xs.all oneC then some (⟨.tup [], [(b, some (.cells (splice cs off xs) false))], [b]⟩ : Eff) else none
      | _ => none
    | _, _, _ => none) = some eff) : Res P o a w fun v w' => Step G base w0 ρ I H w lo hi eff v ρ I w' := by
  split at h
  · rename_i b off xs i hx hy hi
    split at h
    · rename_i cs hb
      split at h
      · rename_i hc
        obtain ⟨hc1, hc2, hc3⟩ := hc
        cases h
        have hv := ev_sound hs hx
        simp only [RC] at hv
        obtain ⟨r, hr, hv⟩ := hv
        obtain ⟨c, el, h1, h2, h3, h4⟩ := blk_cells hs.mem hb hr
        obtain ⟨cy, hy1, hy2⟩ := Option.bind_eq_some_iff.1 hy
        have hcy := cellsC_sound hy2 (ev_sound hs hy1)
        have hones := all_ones hc3 hcy
        have hlen := hcy.length
        have hst := run_storeCells_at P r off el (a.eval y).cells.toList 0 c w h1 (by omega) hones
        simp only [Nat.add_zero] at hst
        generalize hnew : (c.toList.take off ++ (a.eval y).cells.toList ++ c.toList.drop (off + (a.eval y).cells.toList.length)).toArray = c' at hst
        have hsz : c'.size = c.size := by rw [← hnew]; simp at hlen ⊢; omega
        have hwin : win c' 0 (splice cs off xs).length = (win c 0 cs.length).take off ++ (a.eval y).cells.toList ++ (win c 0 cs.length).drop (off + xs.length) := by
          rw [splice_length hc2, ← hnew]
          simp only [win, List.drop_zero]
          apply List.ext_getElem?
          intro j
          have hcs : c.toList.length = c.size := by simp
          simp only [List.getElem?_take, List.getElem?_append, List.getElem?_drop, List.length_take, List.length_append, hlen, List.getElem?_take, hcs]
          have e1 : min off c.size = off := by omega
          have e2 : min off (min cs.length c.size) = off := by omega
          rw [e1, e2]
          repeat' split
          all_goals first
            | rfl
            | (exfalso; omega)
            | (congr 1; omega)
            | (symm; apply List.getElem?_eq_none; simp; omega)
            | skip
        obtain ⟨g1, g2⟩ := hs.mem.setRow hb hr h1 c' hsz (cs' := splice cs off xs) (by rw [splice_length hc2, hsz]; exact h2)
          (by
            rw [hwin]
            intro v hv
            rcases List.mem_append.1 hv with hv | hv
            · rcases List.mem_append.1 hv with hv | hv
              · exact h4 v (List.mem_of_mem_take hv)
              · exact hones v hv
            · exact h4 v (List.mem_of_mem_drop hv))
          (by
            rw [hwin]
            exact ((h3.take off).append hcy).append (h3.drop _))
        refine .inr ⟨w.setRow r c', ?_, ⟨g1, fun _ _ h => h, fun _ _ => rfl, by simp only [RC]; exact ⟨#[], rfl, by simp only [RCs]⟩, g2⟩⟩
        have hsz2 : (a.eval y).cells.size = i.size := by simpa using hlen.trans hc1
        simp only [execOp, ho, hv, Instr.storeAt, Instr.sureAddr, Sem.run_bind, Sem.run_pure, Result.andThen_ok, storeVar, run_sizeOf' hi, hsz2]
        simp [hst]
      · cases h
    · cases h
  · cases h
end
end Go.Va
