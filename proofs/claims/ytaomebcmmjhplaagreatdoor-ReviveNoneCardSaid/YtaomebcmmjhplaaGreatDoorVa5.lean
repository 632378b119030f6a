/- Each operation of the interpreter is what the model does: literals, new blocks, addresses. -/
import Derived.Test.YtaomebcmmjhplaaGreatDoorVa4
namespace Go.Va
open Go Go.RowKit

section
variable {P : Program} {G : Nat → Option (List T)} {base nt : Nat} {w0 : Base} {w : World} {ρ : Nat → Option Nat} {I : Nat → Prop} {e : Nat → Option C} {H : Nat → Option Blk} {a : Act}

/-! ### The parts of a literal -/
theorem foldl_set (off : Nat) : ∀ (xs : List Value) (k : Nat) (arr : Array Value), off + k + xs.length ≤ arr.size →
    ((xs.zipIdx k).foldl (fun cs (x : Value × Nat) => cs.setIfInBounds (off + x.2) x.1) arr).toList = arr.toList.take (off + k) ++ xs ++ arr.toList.drop (off + k + xs.length)
  | [], k, arr, _ => by simp
  | v :: xs, k, arr, h => by
    simp only [List.zipIdx_cons, List.foldl_cons]
    rw [foldl_set off xs (k + 1) _ (by simp at h ⊢; omega)]
    have e := list_seg_step arr.toList (off + k) v xs (by simp at h ⊢; omega)
    simpa [Array.toList_setIfInBounds, Nat.add_assoc] using e

theorem fill_sound {pl : Nat → Option (Nat × Nat)} : ∀ {ps : List (Nat × Operand)} {cs : List (Nat × C)} {cells out : List C} {arr : Array Value}, evParts G e ps = some cs → Sim G base w0 nt ρ I e H a w →
    fillC pl cells cs = some out → RCs ρ w.heap I cells arr.toList →
    ∃ arr', Instr.fill pl arr (ps.map fun x => (x.1, a.eval x.2)) = some arr' ∧ RCs ρ w.heap I out arr'.toList ∧ out.length = cells.length
  | [], cs, cells, out, arr, hp, hs, hf, hc => by
    simp only [evParts, Option.some.injEq] at hp
    subst hp
    simp only [fillC, Option.some.injEq] at hf
    subst hf
    exact ⟨arr, by simp [Instr.fill], hc, rfl⟩
  | (i, x) :: ps, cs, cells, out, arr, hp, hs, hf, hc => by
    simp only [evParts] at hp
    split at hp
    · rename_i c cs' h1 h2
      simp only [Option.some.injEq] at hp
      subst hp
      simp only [fillC] at hf
      split at hf
      · rename_i off size xs hpl hxs
        split at hf
        · cases hf
        · rename_i hn
          have hv := cellsC_sound hxs (ev_sound hs h1)
          have hl := hv.length
          have hal := hc.length
          simp only [Array.length_toList] at hl hal
          have n1 : xs.length = size := by omega
          have n2 : off + xs.length ≤ cells.length := by omega
          have hfold := foldl_set off (a.eval x).cells.toList 0 arr (by simp [hl, hal]; omega)
          simp only [Nat.add_zero] at hfold
          have hnew : RCs ρ w.heap I (splice cells off xs) ((((a.eval x).cells.toList.zipIdx 0).foldl (fun cs (x : Value × Nat) => cs.setIfInBounds (off + x.2) x.1) arr)).toList := by
            rw [hfold]
            have : (a.eval x).cells.toList.length = xs.length := by simp [hl]
            rw [this]
            exact ((hc.take off).append hv).append (hc.drop _)
          obtain ⟨arr', g1, g2, g3⟩ := fill_sound h2 hs hf hnew
          refine ⟨arr', ?_, g2, by rw [g3, splice_length n2]⟩
          have m1 : (a.eval x).cells.size = size := by omega
          have m2 : ¬ (off + (a.eval x).cells.size > arr.size) := by omega
          simp only [List.map_cons, Instr.fill, hpl]
          rw [if_neg (by simp [m1]; omega)]
          rw [← g1]
          congr 1
          rw [← Array.foldl_toList, Array.toList_zipIdx]
      · cases hf
    · cases hp

theorem zeroL_sound {ty : TypeId} {cs : List C} (h : zeroL P ty = some cs) : ∃ i z, P.info? ty = some i ∧ i.zero = some z ∧ RCs ρ w.heap I cs z.cells.toList ∧ ones z.cells.toList ∧ cs.length = z.cells.size := by
  unfold zeroL at h
  obtain ⟨i, hi, h⟩ := Option.bind_eq_some_iff.1 h
  obtain ⟨z, hz, h⟩ := Option.bind_eq_some_iff.1 h
  obtain ⟨h1, h2, h3⟩ := ofLits_sound (ρ := ρ) (w := w) (I := I) h
  exact ⟨i, z, hi, hz, h1, h2, by simpa using h3⟩
theorem zeroC_sound {ty : TypeId} {c : C} (h : zeroC P ty = some c) : ∃ i z, P.info? ty = some i ∧ i.zero = some z ∧ RC ρ w.heap I c z := by
  unfold zeroC at h
  obtain ⟨i, hi, h⟩ := Option.bind_eq_some_iff.1 h
  obtain ⟨z, hz, h⟩ := Option.bind_eq_some_iff.1 h
  exact ⟨i, z, hi, hz, ofV_sound h⟩
theorem run_zeroValue' {ty : TypeId} {i : TypeInfo} {z : Value} (hi : P.info? ty = some i) (hz : i.zero = some z) (w : World) : (zeroValue ty).run P w = .ok z w := by
  simp [zeroValue, typeInfo, hi, hz]

/-- A new row of the call's own: the step. -/
theorem step_row (hs : SimH G base w0 ρ I H w) (hb : base ≤ w0.w.heap.size) {id hi : Nat} (hid : ρ id = none) (hlt : id < hi) (vs : Array Value) (el : TypeId) {cs : List C} {c : C} {v : Value} {fp : List Nat}
    (hl : cs.length ≤ vs.size) (hcs : RCs ρ w.heap I cs (win vs 0 cs.length)) (ho : ones (win vs 0 cs.length))
    (hv : RC (upR ρ id w.heap.size) (w.alloc (.cells vs el)).heap I c v) :
    Step G base w0 ρ I H w id hi ⟨c, [(id, some (.cells cs false))], fp⟩ v (upR ρ id w.heap.size) I (w.alloc (.cells vs el)) := by
  have hx := ext_alloc hs (.cells vs el)
  have hup := rho_alloc (ρ := ρ) (r := w.heap.size) hid
  refine ⟨hx, hup, fun b hb => ?_, hv, hs.alloc hb hid _ rfl ?_⟩
  · unfold upR
    rw [if_neg]
    rintro rfl
    exact hb ⟨Nat.le_refl _, hlt⟩
  · simp only [RB]
    exact ⟨vs, el, alloc_new w _, hl, RCs.mono hx hup _ _ hcs, ho⟩

theorem win_all (vs : Array Value) : win vs 0 vs.size = vs.toList := by simp only [win, List.drop_zero]; exact List.take_of_length_le (by simp)

theorem alloc_sound (hs : Sim G base w0 nt ρ I e H a w) (hb : base ≤ w0.w.heap.size) {o : Oper} {ty : TypeId} (ho : o.op = .alloc ty) {eff : Eff} {id hi : Nat} (hid : ρ id = none) (hlt : id < hi)
    (h : (zeroL P ty).map (fun cs => (⟨.loc id 0, [(id, some (.cells cs false))], []⟩ : Eff)) = some eff) : Res P o a w fun v w' => ∃ ρ' I', Step G base w0 ρ I H w id hi eff v ρ' I' w' := by
  cases hz : zeroL P ty with
  | none => simp [hz] at h
  | some cs =>
    simp only [hz, Option.map_some, Option.some.injEq] at h
    subst h
    obtain ⟨i, z, h1, h2, h3, h4, h5⟩ := zeroL_sound (ρ := ρ) (w := w) (I := I) hz
    refine .inl ⟨.pointer (some ⟨w.heap.size, 0, none⟩), w.alloc (.cells z.cells ty), ?_, _, _, step_row hs.mem hb hid hlt z.cells ty (by omega) (by rw [h5, win_all]; exact h3) (by rw [h5, win_all]; exact h4) ?_⟩
    · simp [execOp, ho, Instr.alloc, run_zeroValue' h1 h2, newVar, newRow]
    · simp only [RC]; exact ⟨w.heap.size, by simp [upR], rfl⟩

theorem box_sound (hs : Sim G base w0 nt ρ I e H a w) (hb : base ≤ w0.w.heap.size) {o : Oper} {ty : TypeId} {x : Operand} (ho : o.op = .box ty x) {eff : Eff} {id hi : Nat} (hid : ρ id = none) (hlt : id < hi)
    (h : (match (ev G e x).bind cellsC with
    | some cs => if cs.all oneC then some (⟨.loc id 0, [(id, some (.cells cs false))], []⟩ : Eff) else none
    | none => none) = some eff) : Res P o a w fun v w' => ∃ ρ' I', Step G base w0 ρ I H w id hi eff v ρ' I' w' := by
  split at h
  · rename_i cs hcs
    split at h
    · rename_i hall
      cases h
      obtain ⟨c, h1, h2⟩ := Option.bind_eq_some_iff.1 hcs
      have h3 := cellsC_sound h2 (ev_sound hs h1)
      have h4 := all_ones hall h3
      have h5 := h3.length
      simp only [Array.length_toList] at h5
      refine .inl ⟨.pointer (some ⟨w.heap.size, 0, none⟩), w.alloc (.cells (a.eval x).cells ty), ?_, _, _, step_row hs.mem hb hid hlt _ ty (by omega) (by rw [← h5, win_all]; exact h3) (by rw [← h5, win_all]; exact h4) ?_⟩
      · simp [execOp, ho, Instr.box, newVar, newRow]
      · simp only [RC]; exact ⟨w.heap.size, by simp [upR], rfl⟩
    · cases h
  · cases h

theorem places_sound : ∀ {l : List Field} {pl : List (Nat × Nat)}, placesL P l = some pl → ∀ w, (l.mapM fun f => (do pure (f.offset, ← sizeOf f.type) : Sem (Nat × Nat))).run P w = .ok pl w
  | [], pl, h, w => by simp only [placesL, Option.some.injEq] at h; subst h; simp
  | f :: l, pl, h, w => by
    simp only [placesL] at h
    split at h
    · rename_i i pl' h1 h2
      cases h
      rw [List.mapM_cons]
      simp only [Sem.run_bind, run_sizeOf' h1, Result.andThen_ok, Sem.run_pure, places_sound h2]
    · cases h

theorem build_sound (hs : Sim G base w0 nt ρ I e H a w) {o : Oper} {ty : TypeId} {parts : Array (Nat × Operand)} (ho : o.op = .build ty parts) {eff : Eff} (lo hi : Nat)
    (h : (match zeroL P ty, evParts G e parts.toList with
    | some z, some ps => match P.underlying ty with
      | some (.struct fields) => match placesL P fields.toList with
        | some pl => (fillC (fun i => pl[i]?) z ps).map fun cs => (⟨.agg cs, [], []⟩ : Eff)
        | none => none
      | some (.array _ elem) => (P.info? elem).bind fun i => (fillC (fun j => some (j * i.size, i.size)) z ps).map fun cs => ⟨.agg cs, [], []⟩
      | _ => none
    | _, _ => none) = some eff) : Res P o a w fun v w' => Step G base w0 ρ I H w lo hi eff v ρ I w' := by
  split at h
  · rename_i z ps hz hps
    obtain ⟨i, zv, h1, h2, h3, h4, h5⟩ := zeroL_sound (ρ := ρ) (w := w) (I := I) hz
    split at h
    · rename_i fields hu
      split at h
      · rename_i pl hpl
        cases hf : fillC (fun i => pl[i]?) z ps with
        | none => simp [hf] at h
        | some out =>
          simp only [hf, Option.map_some, Option.some.injEq] at h
          subst h
          obtain ⟨arr', g1, g2, _⟩ := fill_sound hps hs hf h3
          refine .inl ⟨.agg arr', w, ?_, Step.still hs.mem (by simp only [RC]; exact ⟨_, rfl, g2⟩)⟩
          have hp := places_sound hpl w
          have g1' : Instr.fill (fun x => pl.toArray[x]?) zv.cells (parts.map fun x => (x.1, a.eval x.2)).toList = some arr' := by simpa using g1
          have hp' : (fields.mapM fun f => (do pure (f.offset, ← sizeOf f.type) : Sem (Nat × Nat))).run P w = .ok pl.toArray w := by
            rw [Array.mapM_eq_mapM_toList]
            simp only [Sem.run_map, hp, Result.andThen_ok]
          simp only [execOp, ho, Instr.build, Sem.run_bind, run_zeroValue' h1 h2, Result.andThen_ok, run_underlying hu, hp', g1', Sem.run_pure]
      · cases h
    · rename_i len elem hu
      obtain ⟨ie, hie, h⟩ := Option.bind_eq_some_iff.1 h
      cases hf : fillC (fun j => some (j * ie.size, ie.size)) z ps with
      | none => simp [hf] at h
      | some out =>
        simp only [hf, Option.map_some, Option.some.injEq] at h
        subst h
        obtain ⟨arr', g1, g2, _⟩ := fill_sound hps hs hf h3
        refine .inl ⟨.agg arr', w, ?_, Step.still hs.mem (by simp only [RC]; exact ⟨_, rfl, g2⟩)⟩
        have g1' : Instr.fill (fun j => some (j * ie.size, ie.size)) zv.cells (parts.map fun x => (x.1, a.eval x.2)).toList = some arr' := by simpa using g1
        simp only [execOp, ho, Instr.build, Sem.run_bind, run_zeroValue' h1 h2, Result.andThen_ok, run_underlying hu, run_sizeOf' hie, g1', Sem.run_pure]
    · cases h
  · cases h
end
end Go.Va
