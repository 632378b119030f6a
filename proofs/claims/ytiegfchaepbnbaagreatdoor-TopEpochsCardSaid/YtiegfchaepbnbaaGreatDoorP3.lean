/- Each operation of the interpreter is what the model does: literals, new blocks, addresses. Each operation of the interpreter is what the model does: slices made, interfaces, addresses, parts. -/
import Derived.Test.YtiegfchaepbnbaaGreatDoorP2
namespace Go.Va
open Go Go.RowKit

section
variable {P : Program} {G : Nat → Option (List T)} {base nt : Nat} {w0 : Base} {w : World} {ρ : Nat → Option Nat} {I : Nat → Prop} {e : Nat → Option C} {H : Nat → Option Blk} {a : Act}

/-! ### The parts of a literal -/
theorem foldl_set (off : Nat) : ∀ (xs : List Value) (k : Nat) (arr : Array Value), off + k + xs.length ≤ arr.size →
    ((xs.zipIdx k).foldl (fun cs (x : Value × Nat) => cs.setIfInBounds (off + x.2) x.1) arr).toList = arr.toList.take (off + k) ++ xs ++ arr.toList.drop (off + k + xs.length)
  | [], k, arr, _ => by simp
  | v :: xs, k, arr, h => by
    simp only [List.zipIdx_cons, List.foldl_cons]
    rw [foldl_set off xs (k + 1) _ (by simp at h ⊢; omega)]
    have e := list_seg_step arr.toList (off + k) v xs (by simp at h ⊢; omega)
    simpa [Array.toList_setIfInBounds, Nat.add_assoc] using e

theorem fill_sound {pl : Nat → Option (Nat × Nat)} : ∀ {ps : List (Nat × Operand)} {cs : List (Nat × C)} {cells out : List C} {arr : Array Value}, evParts G e ps = some cs → Sim G base w0 nt ρ I e H a w →
    fillC pl cells cs = some out → RCs ρ w.heap I cells arr.toList →
    ∃ arr', Instr.fill pl arr (ps.map fun x => (x.1, a.eval x.2)) = some arr' ∧ RCs ρ w.heap I out arr'.toList ∧ out.length = cells.length
  | [], cs, cells, out, arr, hp, hs, hf, hc => by
    simp only [evParts, Option.some.injEq] at hp
    subst hp
    simp only [fillC, Option.some.injEq] at hf
    subst hf
    exact ⟨arr, by simp [Instr.fill], hc, rfl⟩
  | (i, x) :: ps, cs, cells, out, arr, hp, hs, hf, hc => by
    simp only [evParts] at hp
    split at hp
    · rename_i c cs' h1 h2
      simp only [Option.some.injEq] at hp
      subst hp
      simp only [fillC] at hf
      split at hf
      · rename_i off size xs hpl hxs
        split at hf
        · cases hf
        · rename_i hn
          have hv := cellsC_sound hxs (ev_sound hs h1)
          have hl := hv.length
          have hal := hc.length
          simp only [Array.length_toList] at hl hal
          have n1 : xs.length = size := by omega
          have n2 : off + xs.length ≤ cells.length := by omega
          have hfold := foldl_set off (a.eval x).cells.toList 0 arr (by simp [hl, hal]; omega)
          simp only [Nat.add_zero] at hfold
          have hnew : RCs ρ w.heap I (splice cells off xs) ((((a.eval x).cells.toList.zipIdx 0).foldl (fun cs (x : Value × Nat) => cs.setIfInBounds (off + x.2) x.1) arr)).toList := by
            rw [hfold]
            have : (a.eval x).cells.toList.length = xs.length := by simp [hl]
            rw [this]
            exact ((hc.take off).append hv).append (hc.drop _)
          obtain ⟨arr', g1, g2, g3⟩ := fill_sound h2 hs hf hnew
          refine ⟨arr', ?_, g2, by rw [g3, splice_length n2]⟩
          have m1 : (a.eval x).cells.size = size := by omega
          have m2 : ¬ (off + (a.eval x).cells.size > arr.size) := by omega
          simp only [List.map_cons, Instr.fill, hpl]
          rw [if_neg (by simp [m1]; omega)]
          rw [← g1]
          congr 1
          rw [← Array.foldl_toList, Array.toList_zipIdx]
      · cases hf
    · cases hp

theorem zeroL_sound {ty : TypeId} {cs : List C} (h : zeroL P ty = some cs) : ∃ i z, P.info? ty = some i ∧ i.zero = some z ∧ RCs ρ w.heap I cs z.cells.toList ∧ ones z.cells.toList ∧ cs.length = z.cells.size := by
  unfold zeroL at h
  obtain ⟨i, hi, h⟩ := Option.bind_eq_some_iff.1 h
  obtain ⟨z, hz, h⟩ := Option.bind_eq_some_iff.1 h
  obtain ⟨h1, h2, h3⟩ := ofLits_sound (ρ := ρ) (w := w) (I := I) h
  exact ⟨i, z, hi, hz, h1, h2, by simpa using h3⟩
theorem zeroC_sound {ty : TypeId} {c : C} (h : zeroC P ty = some c) : ∃ i z, P.info? ty = some i ∧ i.zero = some z ∧ RC ρ w.heap I c z := by
  unfold zeroC at h
  obtain ⟨i, hi, h⟩ := Option.bind_eq_some_iff.1 h
  obtain ⟨z, hz, h⟩ := Option.bind_eq_some_iff.1 h
  exact ⟨i, z, hi, hz, ofV_sound h⟩
theorem run_zeroValue' {ty : TypeId} {i : TypeInfo} {z : Value} (hi : P.info? ty = some i) (hz : i.zero = some z) (w : World) : (zeroValue ty).run P w = .ok z w := by
  simp [zeroValue, typeInfo, hi, hz]

/-- A new row of the call's own: the step. -/
theorem step_row (hs : SimH G base w0 ρ I H w) (hb : base ≤ w0.w.heap.size) {id hi : Nat} (hid : ρ id = none) (hlt : id < hi) (vs : Array Value) (el : TypeId) {cs : List C} {c : C} {v : Value} {fp : List Nat}
    (hl : cs.length ≤ vs.size) (hcs : RCs ρ w.heap I cs (win vs 0 cs.length)) (ho : ones (win vs 0 cs.length))
    (hv : RC (upR ρ id w.heap.size) (w.alloc (.cells vs el)).heap I c v) :
    Step G base w0 ρ I H w id hi ⟨c, [(id, some (.cells cs false))], fp⟩ v (upR ρ id w.heap.size) I (w.alloc (.cells vs el)) := by
  have hx := ext_alloc hs (.cells vs el)
  have hup := rho_alloc (ρ := ρ) (r := w.heap.size) hid
  refine ⟨hx, hup, fun b hb => ?_, hv, hs.alloc hb hid _ rfl ?_⟩
  · unfold upR
    rw [if_neg]
    rintro rfl
    exact hb ⟨Nat.le_refl _, hlt⟩
  · simp only [RB]
    exact ⟨vs, el, alloc_new w _, hl, RCs.mono hx hup _ _ hcs, ho⟩

theorem win_all (vs : Array Value) : win vs 0 vs.size = vs.toList := by simp only [win, List.drop_zero]; exact List.take_of_length_le (by simp)

theorem alloc_sound (hs : Sim G base w0 nt ρ I e H a w) (hb : base ≤ w0.w.heap.size) {o : Oper} {ty : TypeId} (ho : o.op = .alloc ty) {eff : Eff} {id hi : Nat} (hid : ρ id = none) (hlt : id < hi)
    (h : (zeroL P ty).map (fun cs => (⟨.loc id 0, [(id, some (.cells cs false))], []⟩ : Eff)) = some eff) : Res P o a w fun v w' => ∃ ρ' I', Step G base w0 ρ I H w id hi eff v ρ' I' w' := by
  cases hz : zeroL P ty with
  | none => simp [hz] at h
  | some cs =>
    simp only [hz, Option.map_some, Option.some.injEq] at h
    subst h
    obtain ⟨i, z, h1, h2, h3, h4, h5⟩ := zeroL_sound (ρ := ρ) (w := w) (I := I) hz
    refine .inl ⟨.pointer (some ⟨w.heap.size, 0, none⟩), w.alloc (.cells z.cells ty), ?_, _, _, step_row hs.mem hb hid hlt z.cells ty (by omega) (by rw [h5, win_all]; exact h3) (by rw [h5, win_all]; exact h4) ?_⟩
    · simp [execOp, ho, Instr.alloc, run_zeroValue' h1 h2, newVar, newRow]
    · simp only [RC]; exact ⟨w.heap.size, by simp [upR], rfl⟩

theorem box_sound (hs : Sim G base w0 nt ρ I e H a w) (hb : base ≤ w0.w.heap.size) {o : Oper} {ty : TypeId} {x : Operand} (ho : o.op = .box ty x) {eff : Eff} {id hi : Nat} (hid : ρ id = none) (hlt : id < hi)
    (h : (match (ev G e x).bind cellsC with
    | some cs => if cs.all oneC then some (⟨.loc id 0, [(id, some (.cells cs false))], []⟩ : Eff) else none
    | none => none) = some eff) : Res P o a w fun v w' => ∃ ρ' I', Step G base w0 ρ I H w id hi eff v ρ' I' w' := by
  split at h
  · rename_i cs hcs
    split at h
    · rename_i hall
      cases h
      obtain ⟨c, h1, h2⟩ := Option.bind_eq_some_iff.1 hcs
      have h3 := cellsC_sound h2 (ev_sound hs h1)
      have h4 := all_ones hall h3
      have h5 := h3.length
      simp only [Array.length_toList] at h5
      refine .inl ⟨.pointer (some ⟨w.heap.size, 0, none⟩), w.alloc (.cells (a.eval x).cells ty), ?_, _, _, step_row hs.mem hb hid hlt _ ty (by omega) (by rw [← h5, win_all]; exact h3) (by rw [← h5, win_all]; exact h4) ?_⟩
      · simp [execOp, ho, Instr.box, newVar, newRow]
      · simp only [RC]; exact ⟨w.heap.size, by simp [upR], rfl⟩
    · cases h
  · cases h

theorem places_sound : ∀ {l : List Field} {pl : List (Nat × Nat)}, placesL P l = some pl → ∀ w, (l.mapM fun f => (do pure (f.offset, ← sizeOf f.type) : Sem (Nat × Nat))).run P w = .ok pl w
  | [], pl, h, w => by simp only [placesL, Option.some.injEq] at h; subst h; simp
  | f :: l, pl, h, w => by
    simp only [placesL] at h
    split at h
    · rename_i i pl' h1 h2
      cases h
      rw [List.mapM_cons]
      simp only [Sem.run_bind, run_sizeOf' h1, Result.andThen_ok, Sem.run_pure, places_sound h2]
    · cases h

theorem build_sound (hs : Sim G base w0 nt ρ I e H a w) {o : Oper} {ty : TypeId} {parts : Array (Nat × Operand)} (ho : o.op = .build ty parts) {eff : Eff} (lo hi : Nat)
    (h : (match zeroL P ty, evParts G e parts.toList with
    | some z, some ps => match P.underlying ty with
      | some (.struct fields) => match placesL P fields.toList with
        | some pl => (fillC (fun i => pl[i]?) z ps).map fun cs => (⟨.agg cs, [], []⟩ : Eff)
        | none => none
      | some (.array _ elem) => (P.info? elem).bind fun i => (fillC (fun j => some (j * i.size, i.size)) z ps).map fun cs => ⟨.agg cs, [], []⟩
      | _ => none
    | _, _ => none) = some eff) : Res P o a w fun v w' => Step G base w0 ρ I H w lo hi eff v ρ I w' := by
  split at h
  · rename_i z ps hz hps
    obtain ⟨i, zv, h1, h2, h3, h4, h5⟩ := zeroL_sound (ρ := ρ) (w := w) (I := I) hz
    split at h
    · rename_i fields hu
      split at h
      · rename_i pl hpl
        cases hf : fillC (fun i => pl[i]?) z ps with
        | none => simp [hf] at h
        | some out =>
          simp only [hf, Option.map_some, Option.some.injEq] at h
          subst h
          obtain ⟨arr', g1, g2, _⟩ := fill_sound hps hs hf h3
          refine .inl ⟨.agg arr', w, ?_, Step.still hs.mem (by simp only [RC]; exact ⟨_, rfl, g2⟩)⟩
          have hp := places_sound hpl w
          have g1' : Instr.fill (fun x => pl.toArray[x]?) zv.cells (parts.map fun x => (x.1, a.eval x.2)).toList = some arr' := by simpa using g1
          have hp' : (fields.mapM fun f => (do pure (f.offset, ← sizeOf f.type) : Sem (Nat × Nat))).run P w = .ok pl.toArray w := by
            rw [Array.mapM_eq_mapM_toList]
            simp only [Sem.run_map, hp, Result.andThen_ok]
          simp only [execOp, ho, Instr.build, Sem.run_bind, run_zeroValue' h1 h2, Result.andThen_ok, run_underlying hu, hp', g1', Sem.run_pure]
      · cases h
    · rename_i len elem hu
      obtain ⟨ie, hie, h⟩ := Option.bind_eq_some_iff.1 h
      cases hf : fillC (fun j => some (j * ie.size, ie.size)) z ps with
      | none => simp [hf] at h
      | some out =>
        simp only [hf, Option.map_some, Option.some.injEq] at h
        subst h
        obtain ⟨arr', g1, g2, _⟩ := fill_sound hps hs hf h3
        refine .inl ⟨.agg arr', w, ?_, Step.still hs.mem (by simp only [RC]; exact ⟨_, rfl, g2⟩)⟩
        have g1' : Instr.fill (fun j => some (j * ie.size, ie.size)) zv.cells (parts.map fun x => (x.1, a.eval x.2)).toList = some arr' := by simpa using g1
        simp only [execOp, ho, Instr.build, Sem.run_bind, run_zeroValue' h1 h2, Result.andThen_ok, run_underlying hu, run_sizeOf' hie, g1', Sem.run_pure]
    · cases h
  · cases h
end
end Go.Va
namespace Go.Va
open Go Go.RowKit

section
variable {P : Program} {G : Nat → Option (List T)} {base nt : Nat} {w0 : Base} {w : World} {ρ : Nat → Option Nat} {I : Nat → Prop} {e : Nat → Option C} {H : Nat → Option Blk} {a : Act}

theorem rep_zero (z : Array Value) : ∀ n : Nat, ((List.range (n * z.size)).map fun i => z[i % z.size]!) = (List.replicate n z.toList).flatten
  | 0 => by simp
  | n + 1 => by
    rw [Nat.succ_mul, List.range_add, List.map_append, rep_zero z n, List.replicate_succ', List.flatten_append]
    congr 1
    simp only [List.map_map, List.flatten_cons, List.flatten_nil, List.append_nil]
    apply List.ext_getElem
    · simp
    · intro i h1 h2
      have hi : i < z.size := by simpa using h1
      have hm : (n * z.size + i) % z.size = i := by rw [Nat.mul_comm, Nat.mul_add_mod]; exact Nat.mod_eq_of_lt hi
      simp [hm, hi]

theorem RCs.flat {cs : List C} {l : List Value} (h : RCs ρ w.heap I cs l) : ∀ n : Nat, RCs ρ w.heap I (List.replicate n cs).flatten (List.replicate n l).flatten
  | 0 => by simp [RCs]
  | n + 1 => by
    simp only [List.replicate_succ, List.flatten_cons]
    exact h.append (RCs.flat h n)
theorem ones_flat {l : List Value} (h : ones l) (n : Nat) : ones (List.replicate n l).flatten := fun v hv => by
  obtain ⟨x, hx, hvx⟩ := List.mem_flatten.1 hv
  obtain ⟨_, rfl⟩ := List.mem_replicate.1 hx
  exact h v hvx

theorem zero_none {n : Nat} (h : n = 0) (z : Array Value) : ((Array.range n).map fun j => (#[] : Array Value)[j % (#[] : Array Value).size]!) = (Array.range n).map fun j => z[j % z.size]! := by
  subst h
  simp [Array.range]

theorem buildSlice_sound (hs : Sim G base w0 nt ρ I e H a w) (hb : base ≤ w0.w.heap.size) {o : Oper} {ty : TypeId} {len : Nat} {parts : Array (Nat × Operand)} (ho : o.op = .buildSlice ty len parts) {eff : Eff} {id hi : Nat} (hid : ρ id = none) (hlt : id < hi)
    (h : (match P.underlying ty, evParts G e parts.toList with
    | some (.slice elem), some ps => match P.info? elem, zeroL P elem with
      | some i, some z => if len * i.size ≤ 65536 ∧ z.length = i.size then
          match fillC (fun j => some (j * i.size, i.size)) ((List.replicate len z).flatten) ps with
          | some cs => if cs.all oneC then some (⟨.osl id len i.size, [(id, some (.cells cs false))], []⟩ : Eff) else none
          | none => none
        else none
      | _, _ => none
    | _, _ => none) = some eff) : Res P o a w fun v w' => ∃ ρ' I', Step G base w0 ρ I H w id hi eff v ρ' I' w' := by
  split at h
  · rename_i elem ps hu hps
    split at h
    · rename_i i z hi' hz
      split at h
      · rename_i hc
        obtain ⟨hc1, hc2⟩ := hc
        split at h
        · rename_i cs hf
          split at h
          · rename_i hall
            cases h
            obtain ⟨i2, zv, h1, h2, h3, h4, h5⟩ := zeroL_sound (ρ := ρ) (w := w) (I := I) hz
            have hii : i = i2 := eq_of_some hi' h1
            subst hii
            have hzs : zv.cells.size = i.size := by omega
            have hcells : ((Array.range (len * i.size)).map fun j => zv.cells[j % zv.cells.size]!).toList = (List.replicate len zv.cells.toList).flatten := by
              rw [← rep_zero, hzs]; simp
            have h6 := h3.flat len
            rw [← hcells] at h6
            obtain ⟨arr', g1, g2, g3⟩ := fill_sound hps hs hf h6
            have g4 := all_ones hall g2
            have g5 := g2.length
            simp only [Array.length_toList] at g5
            refine .inl ⟨.slice (some ⟨w.heap.size, 0, none⟩) len len, w.alloc (.cells arr' elem), ?_, _, _, step_row hs.mem hb hid hlt _ elem (by omega) (by rw [← g5, win_all]; exact g2) (by rw [← g5, win_all]; exact g4) ?_⟩
            · have g1' : Instr.fill (fun j => some (j * i.size, i.size)) ((Array.range (len * i.size)).map fun j => zv.cells[j % zv.cells.size]!) (parts.map fun x => (x.1, a.eval x.2)).toList = some arr' := by simpa using g1
              have hle : ¬ (len * i.size > 2 ^ 24) := by omega
              simp only [execOp, ho, Instr.buildSlice, Sem.run_bind, run_underlying hu, Result.andThen_ok, run_sizeOf' hi', if_neg hle]
              by_cases h0 : len * i.size = 0
              · rw [← zero_none h0] at g1'
                simp only [if_pos h0, Sem.run_bind, Sem.run_pure, Result.andThen_ok, g1', newRow, run_newObj]
                rfl
              · simp only [if_neg h0, Sem.run_bind, run_zeroValue' h1 h2, Sem.run_pure, Result.andThen_ok, g1', newRow, run_newObj]
                rfl
            · simp only [RC]
              refine ⟨w.heap.size, len, arr', elem, (0, 0), by simp [upR], rfl, Nat.le_refl _, alloc_new w _, ?_⟩
              rw [g5, g3]
              simp [hc2]
          · cases h
        · cases h
      · cases h
    · cases h
  · cases h

theorem intL_sound {c : C} {n : Int} {v : Value} (h : intL c = some n) (hv : RC ρ w.heap I c v) : ∃ k, v = .int k n := by
  unfold intL at h
  split at h
  · rename_i k m
    cases h
    simp only [RC, RT] at hv
    exact ⟨k, hv.1⟩
  · cases h

theorem makeSlice_sound (hs : Sim G base w0 nt ρ I e H a w) (hb : base ≤ w0.w.heap.size) {o : Oper} {ty : TypeId} {l c : Operand} (ho : o.op = .makeSlice ty l c) {eff : Eff} {id hi : Nat} (hid : ρ id = none) (hlt : id < hi)
    (h : (match P.underlying ty, (ev G e l).bind intL, (ev G e c).bind intL with
    | some (.slice elem), some ln, some cp => match P.info? elem, zeroL P elem with
      | some i, some z => if 0 ≤ ln ∧ ln ≤ cp ∧ roomB cp.toNat i.bytes ∧ z.length = i.size then
          some (⟨.osl id ln.toNat i.size, [(id, some (.cells ((List.replicate ln.toNat z).flatten) false))], []⟩ : Eff)
        else none
      | _, _ => none
    | _, _, _ => none) = some eff) : Res P o a w fun v w' => ∃ ρ' I', Step G base w0 ρ I H w id hi eff v ρ' I' w' := by
  split at h
  · rename_i elem ln cp hu hl hc
    split at h
    · rename_i i z hi' hz
      split at h
      · rename_i hcond
        obtain ⟨c1, c2, c3, c4⟩ := hcond
        cases h
        obtain ⟨x, hx1, hx2⟩ := Option.bind_eq_some_iff.1 hl
        obtain ⟨y, hy1, hy2⟩ := Option.bind_eq_some_iff.1 hc
        obtain ⟨k1, e1⟩ := intL_sound hx2 (ev_sound hs hx1)
        obtain ⟨k2, e2⟩ := intL_sound hy2 (ev_sound hs hy1)
        obtain ⟨i2, zv, h1, h2, h3, h4, h5⟩ := zeroL_sound (ρ := ρ) (w := w) (I := I) hz
        have hii : i = i2 := eq_of_some hi' h1
        subst hii
        have hzs : zv.cells.size = i.size := by omega
        unfold roomB at c3
        simp only [Bool.and_eq_true, decide_eq_true_eq] at c3
        obtain ⟨⟨r1, r2⟩, r3⟩ := c3
        have w1 : IntKind.i64.wrap ln = ln := IntWalk.i64_in _ (by omega)
        have w2 : IntKind.i64.wrap cp = cp := IntWalk.i64_in _ (by omega)
        have hm : (i.bytes : Int) * cp ≤ 2 ^ 40 := by
          have : ((cp.toNat * i.bytes : Nat) : Int) ≤ 2 ^ 40 := by exact_mod_cast r1
          rw [Int.natCast_mul, Int.toNat_of_nonneg (by omega)] at this
          rw [Int.mul_comm]; exact this
        have hcells : ((Array.range (cp.toNat * i.size)).map fun j => zv.cells[j % zv.cells.size]!).toList = (List.replicate cp.toNat zv.cells.toList).flatten := by
          rw [← rep_zero, hzs]; simp
        have hwin : win ((Array.range (cp.toNat * i.size)).map fun j => zv.cells[j % zv.cells.size]!) 0 ((List.replicate ln.toNat z).flatten).length = (List.replicate ln.toNat zv.cells.toList).flatten := by
          unfold win
          rw [hcells, List.drop_zero]
          have hsplit : cp.toNat = ln.toNat + (cp.toNat - ln.toNat) := by omega
          rw [hsplit, ← List.replicate_append_replicate, List.flatten_append]
          have : ((List.replicate ln.toNat z).flatten).length = ((List.replicate ln.toNat zv.cells.toList).flatten).length := by simp [c4, hzs]
          rw [this, List.take_left]
        refine .inl ⟨.slice (some ⟨w.heap.size, 0, none⟩) ln.toNat cp.toNat, w.alloc (.cells ((Array.range (cp.toNat * i.size)).map fun j => zv.cells[j % zv.cells.size]!) elem), ?_, _, _,
          step_row hs.mem hb hid hlt _ elem ?_ (by rw [hwin]; exact h3.flat _) (by rw [hwin]; exact ones_flat h4 _) ?_⟩
        · have t1 : (decide (cp < 0) || decide ((i.bytes : Int) * cp > 2 ^ 48)) = false := by
            simp; constructor <;> omega
          have t2 : ¬ ((decide (cp < 0) || decide ((i.bytes : Int) * cp > 2 ^ 48)) = true ∨ ln < 0 ∨ ln > cp) := by
            rw [t1]; simp; omega
          have hinfo : (typeInfo elem).run P w = .ok i w := by simp [typeInfo, hi']
          have t3 : (cp < 0 || decide ((i.bytes : Int) * cp > 2 ^ 48) || decide (ln < 0) || decide (ln > cp)) = false := by
            rw [t1]; simp; omega
          simp only [execOp, ho, e1, e2, Instr.makeSlice, asInt, asIntOf, Sem.run_bind, run_underlying hu, Result.andThen_ok, Sem.run_pure, hinfo, w1, w2]
          rw [if_neg (by simpa using t3)]
          simp only [Sem.run_bind, run_askRoom, Result.andThen_ok, run_sizeOf' hi']
          by_cases h0 : cp.toNat * i.size = 0
          · simp only [if_pos h0, Sem.run_bind, Sem.run_pure, Result.andThen_ok, zero_none h0 zv.cells, newRow, run_newObj]
            rfl
          · simp only [if_neg h0, Sem.run_bind, run_zeroValue' h1 h2, Sem.run_pure, Result.andThen_ok, newRow, run_newObj]
            rfl
        · simp only [List.length_flatten, List.map_replicate, List.sum_replicate_nat, Array.size_map, Array.size_range, c4]
          exact Nat.mul_le_mul_right _ (by omega)
        · simp only [RC]
          refine ⟨w.heap.size, cp.toNat, _, elem, (0, 0), by simp [upR], rfl, by omega, alloc_new w _, by simp⟩
      · cases h
    · cases h
  · cases h

theorem makeMap_sound (hs : Sim G base w0 nt ρ I e H a w) (hb : base ≤ w0.w.heap.size) {o : Oper} {ty : TypeId} (ho : o.op = .makeMap ty none) {id hi : Nat} (hid : ρ id = none) (hlt : id < hi) :
    Res P o a w fun v w' => ∃ ρ' I', Step G base w0 ρ I H w id hi ⟨.omp id, [(id, some (.map [] [] false))], []⟩ v ρ' I' w' := by
  have hx := ext_alloc hs.mem (.map #[] 0)
  have hup := rho_alloc (ρ := ρ) (r := w.heap.size) hid
  refine .inl ⟨.map (some w.heap.size), w.alloc (.map #[] 0), ?_, upR ρ id w.heap.size, I, hx, hup, fun b hb => ?_, by simp only [RC]; exact ⟨w.heap.size, by simp [upR], rfl⟩, hs.mem.alloc hb hid _ rfl ?_⟩
  · simp [execOp, ho, Instr.makeMap]
  · unfold upR
    rw [if_neg]
    rintro rfl
    exact hb ⟨Nat.le_refl _, hlt⟩
  · simp only [RB]
    exact ⟨#[], 0, [], alloc_new w _, ⟨by simp, by simp, by simp, by simp⟩, by simp, by simp [RCs]⟩

/-- Freezing: the step. -/
theorem step_frz (hs : SimH G base w0 ρ I H w) {lo hi : Nat} {c : C} {v : Value} {ms fp : List Nat} (hd : ∀ b, b ∈ ms → ∃ k, H b = some k) (hv : RC ρ w.heap (J ρ I ms) c v) :
    Step G base w0 ρ I H w lo hi ⟨c, marks H ms, fp⟩ v ρ (J ρ I ms) w :=
  ⟨ext_J w ms, fun _ _ h => h, fun _ _ => rfl, hv, hs.marks hd⟩

theorem makeInterface_sound (hs : Sim G base w0 nt ρ I e H a w) {o : Oper} {ty : TypeId} {x : Operand} (ho : o.op = .makeInterface ty x) {eff : Eff} (lo hi : Nat)
    (h : (match P.underlying ty with
    | some (.interface _) => none
    | some _ => match (ev G e x).bind (frz H deep) with
      | some (t, ms) => some (⟨.t (.ifc ty t), marks H ms, ms⟩ : Eff)
      | none => none
    | none => none) = some eff) : Res P o a w fun v w' => ∃ ρ' I', Step G base w0 ρ I H w lo hi eff v ρ' I' w' := by
  split at h
  · cases h
  · rename_i d hni hu
    split at h
    · rename_i t ms hx
      cases h
      obtain ⟨c, h1, h2⟩ := Option.bind_eq_some_iff.1 hx
      obtain ⟨g1, g2⟩ := frz_sound hs.mem deep c t ms h2
      refine .inl ⟨.iface ty (a.eval x), w, ?_, ρ, _, step_frz hs.mem g1 (by simp only [RC, RT]; exact ⟨_, rfl, g2 _ (ev_sound hs h1)⟩)⟩
      have hconc : P.concrete ty = true := by
        unfold Program.concrete
        rw [hu]
        cases d <;> first | rfl | (exact (hni _ rfl).elim)
      simp only [execOp, ho, Sem.run_bind, run_makeInterface w ty _ hconc, Result.andThen_ok, Sem.run_pure]
    · cases h
  · cases h

theorem makeFunc_sound (hs : Sim G base w0 nt ρ I e H a w) {o : Oper} {fn : Fn} {first capt : Array Operand} (ho : o.op = .makeFunc fn first capt) {eff : Eff} (lo hi : Nat)
    (h : (match evs G e first.toList, evs G e capt.toList with
    | some a, some b => some (⟨.fn fn a b, [], []⟩ : Eff)
    | _, _ => none) = some eff) : Res P o a w fun v w' => Step G base w0 ρ I H w lo hi eff v ρ I w' := by
  split at h
  · rename_i x y hx hy
    cases h
    refine .inl ⟨.func fn (first.map a.eval) (capt.map a.eval), w, ?_, Step.still hs.mem ?_⟩
    · simp [execOp, ho, Instr.makeFunc]
    · simp only [RC]
      exact ⟨_, _, rfl, by simpa using evs_sound hs hx, by simpa using evs_sound hs hy⟩
  · cases h

theorem move_sound (hs : Sim G base w0 nt ρ I e H a w) {o : Oper} {x : Operand} (ho : o.op = .move x ∨ o.op = .assign x) {eff : Eff} (lo hi : Nat)
    (h : (ev G e x).map (fun c => (⟨c, [], []⟩ : Eff)) = some eff) : Res P o a w fun v w' => Step G base w0 ρ I H w lo hi eff v ρ I w' := by
  cases hx : ev G e x with
  | none => simp [hx] at h
  | some c =>
    simp only [hx, Option.map_some, Option.some.injEq] at h
    subst h
    refine .inl ⟨a.eval x, w, ?_, Step.still hs.mem (ev_sound hs hx)⟩
    rcases ho with ho | ho <;> simp [execOp, ho]

theorem pick_sound (hs : Sim G base w0 nt ρ I e H a w) {o : Oper} {c x y : Operand} (ho : o.op = .pick c x y) {eff : Eff} (lo hi : Nat)
    (h : (match ev G e c with
    | some (.t (.lit (.bool t))) => (ev G e (if t then x else y)).map fun c => (⟨c, [], []⟩ : Eff)
    | _ => none) = some eff) : Res P o a w fun v w' => Step G base w0 ρ I H w lo hi eff v ρ I w' := by
  split at h
  · rename_i t hc
    have hv := ev_sound hs hc
    simp only [RC, RT] at hv
    cases hx : ev G e (if t then x else y) with
    | none => simp [hx] at h
    | some d =>
      simp only [hx, Option.map_some, Option.some.injEq] at h
      subst h
      refine .inl ⟨a.eval (if t then x else y), w, ?_, Step.still hs.mem (ev_sound hs hx)⟩
      simp only [execOp, ho, hv.1, asBool, Sem.run_bind, Sem.run_pure, Result.andThen_ok]
      cases t <;> rfl
  · cases h

theorem extract_sound (hs : Sim G base w0 nt ρ I e H a w) {o : Oper} {x : Operand} {ix : Nat} (ho : o.op = .extract x ix) {eff : Eff} (lo hi : Nat)
    (h : (match ev G e x with
    | some (.tup cs) => (cs[ix]?).map fun c => (⟨c, [], []⟩ : Eff)
    | _ => none) = some eff) : Res P o a w fun v w' => Step G base w0 ρ I H w lo hi eff v ρ I w' := by
  split at h
  · rename_i cs hx
    have hv := ev_sound hs hx
    simp only [RC] at hv
    obtain ⟨vs, hv, h1⟩ := hv
    cases hc : cs[ix]? with
    | none => simp [hc] at h
    | some c =>
      simp only [hc, Option.map_some, Option.some.injEq] at h
      subst h
      obtain ⟨u, hu, hrc⟩ := h1.get hc
      have hu' : vs[ix]? = some u := by simpa using hu
      exact .inl ⟨u, w, by simp [execOp, ho, hv, Instr.extract, hu'], Step.still hs.mem hrc⟩
  · cases h

theorem nilCheck_sound (hs : Sim G base w0 nt ρ I e H a w) {o : Oper} {x : Operand} (ho : o.op = .nilCheck x) {eff : Eff} (lo hi : Nat)
    (h : (match ev G e x with
    | some (.loc b off) => some (⟨.loc b off, [], []⟩ : Eff)
    | some (.t (.ptr ts off)) => some ⟨.t (.ptr ts off), [], []⟩
    | some (.t (.ifc t y)) => some ⟨.t (.ifc t y), [], []⟩
    | _ => none) = some eff) : Res P o a w fun v w' => Step G base w0 ρ I H w lo hi eff v ρ I w' := by
  split at h
  · rename_i b off hx
    cases h
    have hv := ev_sound hs hx
    refine .inl ⟨a.eval x, w, ?_, Step.still hs.mem hv⟩
    simp only [RC] at hv
    obtain ⟨r, _, hv⟩ := hv
    simp [execOp, ho, hv]
  · rename_i ts off hx
    cases h
    have hv := ev_sound hs hx
    refine .inl ⟨a.eval x, w, ?_, Step.still hs.mem hv⟩
    simp only [RC, RT] at hv
    obtain ⟨b, l, c, el, fr, hv, _⟩ := hv
    simp [execOp, ho, hv]
  · rename_i t y hx
    cases h
    have hv := ev_sound hs hx
    refine .inl ⟨a.eval x, w, ?_, Step.still hs.mem hv⟩
    simp only [RC, RT] at hv
    obtain ⟨u, hv, _⟩ := hv
    simp [execOp, ho, hv]
  · cases h

theorem fieldAddr_sound (hs : Sim G base w0 nt ρ I e H a w) {o : Oper} {s : TypeId} {x : Operand} {f : Nat} (ho : o.op = .fieldAddr s x f) {eff : Eff} (lo hi : Nat)
    (h : (match P.underlying s with
    | some (.struct fields) => match fields[f]? with
      | some fd => match P.info? fd.type, ev G e x with
        | some i, some (.loc b off) => if i.size = 0 then none else some (⟨.loc b (off + fd.offset), [], []⟩ : Eff)
        | some i, some (.t (.ptr ts off)) => if i.size = 0 then none else some ⟨.t (.ptr ts (off + fd.offset)), [], []⟩
        | _, _ => none
      | none => none
    | _ => none) = some eff) : Res P o a w fun v w' => Step G base w0 ρ I H w lo hi eff v ρ I w' := by
  split at h
  · rename_i fields hu
    split at h
    · rename_i fd hfd
      split at h
      · rename_i i b off hi' hx
        split at h
        · cases h
        · rename_i hne
          cases h
          have hv := ev_sound hs hx
          simp only [RC] at hv
          obtain ⟨r, hr, hv⟩ := hv
          refine .inl ⟨.pointer (some ⟨r, off + fd.offset, none⟩), w, ?_, Step.still hs.mem (by simp only [RC]; exact ⟨r, hr, rfl⟩)⟩
          simp [execOp, ho, hv, Instr.fieldAt, run_underlying hu, hfd, Instr.sureAddr, fieldPlace, run_sizeOf' hi', hne, addr_add]
      · rename_i i ts off hi' hx
        split at h
        · cases h
        · rename_i hne
          cases h
          have hv := ev_sound hs hx
          simp only [RC, RT] at hv
          obtain ⟨b, l, c, el, fr, hv, h2⟩ := hv
          refine .inl ⟨.pointer (some ⟨b, l + (off + fd.offset), none⟩), w, ?_, Step.still hs.mem (by simp only [RC, RT]; exact ⟨b, l, c, el, fr, rfl, h2⟩)⟩
          simp [execOp, ho, hv, Instr.fieldAt, run_underlying hu, hfd, Instr.sureAddr, fieldPlace, run_sizeOf' hi', hne, addr_add, Nat.add_assoc]
      · cases h
    · cases h
  · cases h

theorem field_sound (hs : Sim G base w0 nt ρ I e H a w) {o : Oper} {s : TypeId} {x : Operand} {f : Nat} (ho : o.op = .field s x f) {eff : Eff} (lo hi : Nat)
    (h : (match P.underlying s with
    | some (.struct fields) => match fields[f]? with
      | some fd => match ev G e x with
        | some (.agg cs) => (partC P fd.type cs fd.offset).map fun c => (⟨c, [], []⟩ : Eff)
        | some (.t (.agg ts)) => (partC P fd.type (ts.map .t) fd.offset).map fun c => ⟨c, [], []⟩
        | _ => none
      | none => none
    | _ => none) = some eff) : Res P o a w fun v w' => Step G base w0 ρ I H w lo hi eff v ρ I w' := by
  split at h
  · rename_i fields hu
    split at h
    · rename_i fd hfd
      split at h
      · rename_i cs hx
        cases hp : partC P fd.type cs fd.offset with
        | none => simp [hp] at h
        | some c =>
          simp only [hp, Option.map_some, Option.some.injEq] at h
          subst h
          have hv := ev_sound hs hx
          simp only [RC] at hv
          obtain ⟨vs, hv, h1⟩ := hv
          obtain ⟨u, h2, h3⟩ := part_part hp h1
          exact .inl ⟨u, w, by simp [execOp, ho, hv, Instr.field, run_underlying hu, hfd, asAgg, h2], Step.still hs.mem h3⟩
      · rename_i ts hx
        cases hp : partC P fd.type (ts.map .t) fd.offset with
        | none => simp [hp] at h
        | some c =>
          simp only [hp, Option.map_some, Option.some.injEq] at h
          subst h
          have hv := ev_sound hs hx
          simp only [RC, RT] at hv
          obtain ⟨vs, hv, h1⟩ := hv
          obtain ⟨u, h2, h3⟩ := part_part (ρ := ρ) hp (RCs.of_RTs h1)
          exact .inl ⟨u, w, by simp [execOp, ho, hv, Instr.field, run_underlying hu, hfd, asAgg, h2], Step.still hs.mem h3⟩
      · cases h
    · cases h
  · cases h
end
end Go.Va
