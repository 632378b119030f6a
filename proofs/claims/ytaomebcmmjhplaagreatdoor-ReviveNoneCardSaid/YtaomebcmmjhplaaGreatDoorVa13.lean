/- An operation hangs on its operands and on the blocks that it looks at, on nothing else. -/
import Derived.Test.YtaomebcmmjhplaaGreatDoorVa12
namespace Go.Va
open Go Go.RowKit

section
variable {P : Program} {G : Nat → Option (List T)} {e e' : Nat → Option C} {H H' : Nat → Option Blk}

theorem frzL_local {f g : C → Option (T × List Nat)} (hf : ∀ c t ms, f c = some (t, ms) → (∀ b, b ∈ ms → H b = H' b) → g c = some (t, ms)) : ∀ (cs : List C) (ts : List T) (ms : List Nat), frzL f cs = some (ts, ms) → (∀ b, b ∈ ms → H b = H' b) → frzL g cs = some (ts, ms)
  | [], ts, ms, h, _ => h
  | c :: cs, ts, ms, h, hH => by
    simp only [frzL] at h ⊢
    split at h
    · rename_i t m ts' ms' h1 h2
      simp only [Option.some.injEq, Prod.mk.injEq] at h
      obtain ⟨rfl, rfl⟩ := h
      rw [hf c t m h1 fun b hb => hH b (List.mem_append.2 (.inl hb)), frzL_local hf cs ts' ms' h2 fun b hb => hH b (List.mem_append.2 (.inr hb))]
    · cases h

theorem frz_local : ∀ (n : Nat) (c : C) (t : T) (ms : List Nat), frz H n c = some (t, ms) → (∀ b, b ∈ ms → H b = H' b) → frz H' n c = some (t, ms)
  | 0, c, t, ms, h, _ => by simp [frz] at h
  | n + 1, .t x, t, ms, h, _ => by simpa [frz] using h
  | n + 1, .loc b off, t, ms, h, hH => by
    simp only [frz] at h ⊢
    split at h
    · rename_i cs fz hb
      cases hq : frzL (frz H n) cs with
      | none => simp [hq] at h
      | some q =>
        obtain ⟨ts, ns⟩ := q
        simp only [hq, Option.map_some, Option.some.injEq, Prod.mk.injEq] at h
        obtain ⟨rfl, rfl⟩ := h
        rw [← hH b List.mem_cons_self, hb]
        simp only [frzL_local (frz_local n) cs ts ns hq fun x hx => hH x (List.mem_cons_of_mem _ hx), Option.map_some]
    · cases h
  | n + 1, .osl b k sz, t, ms, h, hH => by
    simp only [frz] at h ⊢
    split at h
    · rename_i cs fz hb
      split at h
      · rename_i hle
        cases hq : frzL (frz H n) (cs.take (k * sz)) with
        | none => simp [hq] at h
        | some q =>
          obtain ⟨ts, ns⟩ := q
          simp only [hq, Option.map_some, Option.some.injEq, Prod.mk.injEq] at h
          obtain ⟨rfl, rfl⟩ := h
          rw [← hH b List.mem_cons_self, hb]
          simp only [if_pos hle, frzL_local (frz_local n) _ ts ns hq fun x hx => hH x (List.mem_cons_of_mem _ hx), Option.map_some]
      · cases h
    · cases h
  | n + 1, .omp b, t, ms, h, hH => by
    simp only [frz] at h ⊢
    split at h
    · rename_i ks vs fz hb
      cases hq : frzL (frz H n) vs with
      | none => simp [hq] at h
      | some q =>
        obtain ⟨ts, ns⟩ := q
        simp only [hq, Option.map_some, Option.some.injEq, Prod.mk.injEq] at h
        obtain ⟨rfl, rfl⟩ := h
        rw [← hH b List.mem_cons_self, hb]
        simp only [frzL_local (frz_local n) vs ts ns hq fun x hx => hH x (List.mem_cons_of_mem _ hx), Option.map_some]
    · cases h
  | n + 1, .agg cs, t, ms, h, hH => by
    simp only [frz] at h ⊢
    cases hq : frzL (frz H n) cs with
    | none => simp [hq] at h
    | some q =>
      obtain ⟨ts, ns⟩ := q
      simp only [hq, Option.map_some, Option.some.injEq, Prod.mk.injEq] at h
      obtain ⟨rfl, rfl⟩ := h
      simp only [frzL_local (frz_local n) cs ts ns hq hH, Option.map_some]
  | n + 1, .fn f x y, t, ms, h, hH => by
    simp only [frz] at h ⊢
    split at h
    · rename_i ts m us m' h1 h2
      simp only [Option.some.injEq, Prod.mk.injEq] at h
      obtain ⟨rfl, rfl⟩ := h
      rw [frzL_local (frz_local n) _ ts m h1 fun b hb => hH b (List.mem_append.2 (.inl hb)), frzL_local (frz_local n) _ us m' h2 fun b hb => hH b (List.mem_append.2 (.inr hb))]
    · cases h
  | n + 1, .bad, t, ms, h, _ => by simp [frz] at h
  | n + 1, .tup cs, t, ms, h, _ => by simp [frz] at h

theorem marks_local : ∀ (ms : List Nat), (∀ b, b ∈ ms → H b = H' b) → marks H' ms = marks H ms
  | [], _ => rfl
  | b :: r, hH => by
    simp only [marks]
    rw [hH b List.mem_cons_self, marks_local r fun x hx => hH x (List.mem_cons_of_mem _ hx)]

theorem callF_local {rc : FuncId → List T → Option (List R)} {id : Nat} {f : FuncId} {args : List C} {eff : Eff} (h : callF P rc H id f args = some eff) (hH : ∀ b, b ∈ eff.fp → H b = H' b) : callF P rc H' id f args = some eff := by
  unfold callF at h ⊢
  cases hfn : P.funcs[f]? with
  | none => simp [hfn] at h
  | some fn =>
    simp only [hfn] at h ⊢
    split at h
    · cases h
    · rename_i hc
      rw [if_neg hc]
      cases hf : frzL (frz H deep) args with
      | none => simp [hf] at h
      | some q =>
        obtain ⟨ts, ms⟩ := q
        simp only [hf] at h
        cases hr : rc f ts with
        | none => simp [hr] at h
        | some rs =>
          simp only [hr] at h
          split at h
          · rename_i hle
            cases h
            rw [frzL_local (frz_local deep) args ts ms hf hH]
            simp only [hr, if_pos hle, marks_local ms hH]
          · cases h

theorem callV_local {rc : FuncId → List T → Option (List R)} {id : Nat} {fn : Fn} {all capt : List C} {eff : Eff} (h : callV P rc H id fn all capt = some eff) (hH : ∀ b, b ∈ eff.fp → H b = H' b) : callV P rc H' id fn all capt = some eff := by
  unfold callV at h ⊢
  split at h
  · exact callF_local h hH
  · split at h
    · split at h
      · rename_i hm; (try simp only [hm]); exact callF_local h hH
      · cases h
    · cases h
  · cases h

theorem srcL_local {c : C} {src : List C} {k : Nat} {fp : List Nat} (h : srcL H c = some (src, k, fp)) (hH : ∀ b, b ∈ fp → H b = H' b) : srcL H' c = some (src, k, fp) := by
  unfold srcL at h ⊢
  split at h
  · exact h
  · exact h
  · rename_i b n sz
    split at h
    · rename_i cs fz hb
      simp only [Option.some.injEq, Prod.mk.injEq] at h
      obtain ⟨rfl, rfl, rfl⟩ := h
      rw [← hH b (by simp), hb]
    · cases h
  · cases h

theorem appendC_local {id size bytes : Nat} {d x : C} {eff : Eff} (h : appendC H id size bytes d x = some eff) (hH : ∀ b, b ∈ eff.fp → H b = H' b) : appendC H' id size bytes d x = some eff := by
  unfold appendC at h ⊢
  cases hs : srcL H x with
  | none => simp [hs] at h
  | some q =>
    obtain ⟨src, k, fp⟩ := q
    simp only [hs] at h
    split at h
    case isFalse => cases h
    rename_i hc
    have main : (∀ b, b ∈ fp → H b = H' b) → srcL H' x = some (src, k, fp) := srcL_local hs
    split at h
    · have h0 := h
      have hfp : eff.fp = fp := by
        split at h
        · cases h; rfl
        · split at h
          · cases h; rfl
          · cases h
      rw [hfp] at hH
      simp only [main hH, if_pos hc]
      exact h0
    · have h0 := h
      have hfp : eff.fp = fp := by
        split at h
        · cases h; rfl
        · split at h
          · cases h; rfl
          · cases h
      rw [hfp] at hH
      simp only [main hH, if_pos hc]
      exact h0
    · rename_i b n sz
      split at h
      · rename_i hk
        cases h
        simp only [main hH, if_pos hc, if_pos hk]
      · rename_i hk
        split at h
        · rename_i cs hb
          split at h
          · rename_i hcond
            cases h
            rw [main fun b hb => hH b (by simp [hb])]
            simp only [if_pos hc, if_neg hk, ← hH b (by simp), hb, if_pos hcond]
          · cases h
        · cases h
    · cases h

theorem lenC_local {d : TypeDesc} {c : C} {n : Nat} {fp : List Nat} (h : lenC H d c = some (n, fp)) (hH : ∀ b, b ∈ fp → H b = H' b) : lenC H' d c = some (n, fp) := by
  unfold lenC at h ⊢
  split at h
  · exact h
  · exact h
  · exact h
  · exact h
  · exact h
  · exact h
  · exact h
  · rename_i b
    split at h
    · rename_i ks vs fz hb
      simp only [Option.some.injEq, Prod.mk.injEq] at h
      obtain ⟨rfl, rfl⟩ := h
      rw [← hH b (by simp), hb]
    · cases h
  · cases h

theorem foundC_local {kd : TypeDesc} {kv : Value} {c : C} {x : Option C} {fp : List Nat} (h : foundC H kd kv c = some (x, fp)) (hH : ∀ b, b ∈ fp → H b = H' b) : foundC H' kd kv c = some (x, fp) := by
  unfold foundC at h ⊢
  split at h
  · exact h
  · exact h
  · rename_i b
    split at h
    · rename_i ks vs fz hb
      have hfp : fp = [b] := by
        split at h
        · split at h
          · simp only [Option.some.injEq, Prod.mk.injEq] at h; exact h.2.symm
          · cases h
        · simp only [Option.some.injEq, Prod.mk.injEq] at h; exact h.2.symm
        · cases h
      subst hfp
      simp only [← hH b (by simp), hb]
      exact h
    · cases h
  · cases h

theorem lookupC_local {t : TypeId} {m k : C} {ok : Bool} {eff : Eff} (h : lookupC P H t m k ok = some eff) (hH : ∀ b, b ∈ eff.fp → H b = H' b) : lookupC P H' t m k ok = some eff := by
  unfold lookupC at h ⊢
  split at h
  case h_2 => cases h
  rename_i key elem hu
  split at h
  case h_2 => cases h
  rename_i kd kv hkd
  split at h
  case isFalse => cases h
  rename_i hsk
  cases hf : foundC H kd kv m with
  | none => simp [hf] at h
  | some q =>
    obtain ⟨x, fp⟩ := q
    have hfp : eff.fp = fp := by
      simp only [hf] at h
      cases x with
      | some c => simp only [Option.some.injEq] at h; rw [← h]
      | none =>
        cases hz : zeroC P elem with
        | none => simp [hz] at h
        | some z => simp only [hz, Option.map_some, Option.some.injEq] at h; rw [← h]
    rw [hfp] at hH
    have := foundC_local hf hH
    simp only [hf] at h
    simp only [if_pos hsk, this]
    exact h

theorem updateC_local {t : TypeId} {m k x : C} {eff : Eff} (h : updateC P H t m k x = some eff) (hH : ∀ b, b ∈ eff.fp → H b = H' b) : updateC P H' t m k x = some eff := by
  unfold updateC at h ⊢
  split at h
  case h_2 => cases h
  rename_i key elem hu
  split at h
  case h_2 => cases h
  rename_i kd kv b hkd
  split at h
  case isFalse => cases h
  rename_i hsk
  split at h
  case h_2 => cases h
  rename_i ks vs hb
  have hfp : eff.fp = [b] := by
    split at h
    · split at h
      · cases h; rfl
      · cases h
    · cases h; rfl
    · cases h
  simp only [if_pos hsk, ← hH b (by simp [hfp]), hb]
  exact h

theorem deleteC_local {t : TypeId} {m k : C} {eff : Eff} (h : deleteC P H t m k = some eff) (hH : ∀ b, b ∈ eff.fp → H b = H' b) : deleteC P H' t m k = some eff := by
  unfold deleteC at h ⊢
  split at h
  case h_2 => cases h
  rename_i key elem hu
  split at h
  case h_2 => cases h
  rename_i kd kv hkd
  split at h
  case isFalse => cases h
  rename_i hsk
  simp only [if_pos hsk]
  split at h
  · exact h
  · rename_i b
    split at h
    case h_2 => cases h
    rename_i ks vs hb
    have hfp : eff.fp = [b] := by
      split at h
      · split at h
        · cases h; rfl
        · cases h
      · cases h; rfl
      · cases h
    simp only [← hH b (by simp [hfp]), hb]
    exact h
  · cases h

theorem sliceC_local {elem : TypeId} {x : C} {lo hi mx : Option Int} {eff : Eff} (h : sliceC P H elem x lo hi mx = some eff) (hH : ∀ b, b ∈ eff.fp → H b = H' b) : sliceC P H' elem x lo hi mx = some eff := by
  unfold sliceC at h ⊢
  split at h
  · cases h
  · rename_i i hi'
    split at h
    · exact h
    · exact h
    · rename_i b n sz
      split at h
      · rename_i cs fz l hh m hb hq
        split at h
        · rename_i hc
          split at h
          · rename_i ts ms hf
            cases h
            have h1 : H' b = some (.cells cs fz) := by rw [← hH b (by simp), hb]
            have h2 := frzL_local (frz_local deep) _ ts ms hf fun x hx => hH x (List.mem_cons_of_mem _ hx)
            simp only [h1, hq, if_pos hc, h2]
            rw [marks_local (b :: ms) hH]
          · cases h
        · cases h
      · cases h
    · cases h

theorem arrSliceC_local {n : Nat} {elem : TypeId} {b : Nat} {lo hi mx : Option Operand} {eff : Eff} (h : arrSliceC P H n elem b lo hi mx = some eff) (hH : ∀ b, b ∈ eff.fp → H b = H' b) : arrSliceC P H' n elem b lo hi mx = some eff := by
  unfold arrSliceC at h
  split at h
  case h_2 => cases h
  rename_i i cs fz hi' hb
  split at h
  case isFalse => cases h
  rename_i hle
  cases h
  have := hH b (by simp)
  unfold arrSliceC
  rw [← this]
  simp only [hi', hb]
  rw [if_pos hle]
theorem builtinC_local {id : Nat} {b : Builtin} {ats : Array TypeId} {args : List C} {eff : Eff} (h : builtinC P H id b ats args = some eff) (hH : ∀ b, b ∈ eff.fp → H b = H' b) : builtinC P H' id b ats args = some eff := by
  unfold builtinC at h ⊢
  split at h
  · split at h
    · rename_i c _ d hd
      cases hl : lenC H d c with
      | none => simp [hl] at h
      | some q =>
        obtain ⟨n, fp⟩ := q
        simp only [hl, Option.map_some, Option.some.injEq] at h
        subst h
        rw [lenC_local hl hH]
        rfl
    · cases h
  · split at h
    case h_2 => cases h
    split at h
    case isFalse => cases h
    rename_i hts htt
    split at h
    case h_2 => cases h
    rename_i hu
    split at h
    case h_2 => cases h
    rename_i hi hz
    split at h
    case isFalse => cases h
    rename_i hzl
    simp only [if_pos htt, if_pos hzl]
    exact appendC_local h hH
  · split at h
    case h_2 => cases h
    rename_i elem src k fp hd hsrc
    split at h
    case h_2 => cases h
    rename_i i c n sz hi
    split at h
    case h_2 => cases h
    rename_i cs hb
    split at h
    case isFalse => cases h
    rename_i hcond
    cases h
    have h1 := srcL_local hsrc fun b hb => hH b (List.mem_cons_of_mem _ hb)
    have h2 : H' c = some (.cells cs false) := by rw [← hH c (by simp), hb]
    simp only [hd, h1, hi, h2, if_pos hcond]
  · split at h
    case h_2 => cases h
    exact deleteC_local h hH
  · cases h

/-! ### Operands -/
theorem evs_local : ∀ {xs : List Operand}, (∀ x, x ∈ xs → ev G e' x = ev G e x) → evs G e' xs = evs G e xs
  | [], _ => rfl
  | x :: xs, h => by
    simp only [evs]
    rw [h x List.mem_cons_self, evs_local fun y hy => h y (List.mem_cons_of_mem _ hy)]
theorem evParts_local : ∀ {xs : List (Nat × Operand)}, (∀ x, x ∈ xs → ev G e' x.2 = ev G e x.2) → evParts G e' xs = evParts G e xs
  | [], _ => rfl
  | (i, x) :: xs, h => by
    simp only [evParts]
    rw [h (i, x) List.mem_cons_self, evParts_local fun y hy => h y (List.mem_cons_of_mem _ hy)]
theorem flatOp_local {o : Oper} (hsel : ∀ cs b, o.op ≠ .select cs b) (hE : ∀ x, x ∈ o.op.operands → ev G e' x = ev G e x) : flatOp P G e' o = flatOp P G e o := by
  unfold flatOp
  rw [evs_local fun x hx => hE x (by simpa using hx)]
  rw [execOp_congr (ρ := fun x => ((ev G e' x).bind flatV).getD undef) (ρ' := fun x => ((ev G e x).bind flatV).getD undef) o hsel fun x hx => by simp only [hE x hx]]
theorem optInt_local {x : Option Operand} (h : ∀ y, x = some y → ev G e' y = ev G e y) : optInt G e' x = optInt G e x := by
  cases x with
  | none => rfl
  | some y => simp only [optInt]; rw [h y rfl]

theorem rangeC_local {id : Nat} {t : TypeId} {c : C} {eff : Eff} (h : rangeC P H id t c = some eff) (hH : ∀ b, b ∈ eff.fp → H b = H' b) : rangeC P H' id t c = some eff := by
  unfold rangeC at h ⊢
  split at h
  case h_2 => cases h
  rename_i k el y ms hu hf
  split at h
  case h_2 => cases h
  rename_i td htd
  cases h
  simp only [hu, frz_local deep c y ms hf hH, htd, marks_local ms hH]
theorem nextC_local {s : Bool} {c : C} {eff : Eff} (h : nextC H s c = some eff) (hH : ∀ b, b ∈ eff.fp → H b = H' b) : nextC H' s c = some eff := by
  unfold nextC at h ⊢
  split at h
  · rename_i b
    split at h
    · rename_i k x hb
      cases h
      have := hH b (by simp)
      rw [hb] at this
      rw [← this]
    · rename_i cu hb
      cases h
      have := hH b (by simp)
      rw [hb] at this
      rw [← this]
    · cases h
  · cases h
theorem entryC_local {c : C} {eff : Eff} (h : entryC H c = some eff) (hH : ∀ b, b ∈ eff.fp → H b = H' b) : entryC H' c = some eff := by
  unfold entryC at h ⊢
  split at h
  · rename_i b
    split at h
    · rename_i k x hb
      cases h
      have := hH b (by simp)
      rw [hb] at this
      rw [← this]
    · cases h
  · cases h
theorem opc_local {rc : FuncId → List T → Option (List R)} {o : Oper} {id : Nat} {eff : Eff} (h : opc P G rc o e H id = some eff) (hE : ∀ x, x ∈ o.op.operands → ev G e' x = ev G e x) (hH : ∀ b, b ∈ eff.fp → H b = H' b) :
    opc P G rc o e' H' id = some eff := by
  unfold opc at h ⊢
  have hfl : (∀ cs b, o.op ≠ .select cs b) → flatOp P G e' o = flatOp P G e o := fun hs => flatOp_local hs hE
  cases ho : o.op <;> simp only [ho, Op.operands] at h hE ⊢
  case move x => rw [hE x (by simp)]; exact h
  case assign x => rw [hE x (by simp)]; exact h
  case pick c a b =>
    rw [hE c (by simp)]
    split at h
    · rename_i t hc
      have : ev G e' (if t = true then a else b) = ev G e (if t = true then a else b) := by split <;> exact hE _ (by simp)
      simp only [this]
      exact h
    · cases h
  case alloc ty => exact h
  case box ty x => rw [hE x (by simp)]; exact h
  case build ty parts =>
    rw [evParts_local fun x hx => hE x.2 (by simp; exact ⟨x.1, by simpa using hx⟩)]
    exact h
  case buildSlice ty len parts =>
    rw [evParts_local fun x hx => hE x.2 (by simp; exact ⟨x.1, by simpa using hx⟩)]
    exact h
  case load ty x =>
    rw [hE x (by simp)]
    split at h
    · rename_i b off hx
      split at h
      · rename_i cs fz hb
        cases hp : partC P ty cs off with
        | none => simp [hp] at h
        | some y =>
          simp only [hp, Option.map_some, Option.some.injEq] at h
          subst h
          simp only [hx, ← hH b (by simp), hb, hp, Option.map_some]
      · cases h
    · rename_i hx; (try simp only [hx]); exact h
    · cases h
  case store ty x y =>
    rw [hE x (by simp), hE y (by simp)]
    split at h
    · rename_i b off xs i hx hy hi
      split at h
      · rename_i cs hb
        split at h
        · rename_i hc
          cases h
          simp only [hx, hy, hi, ← hH b (by simp), hb, if_pos hc]
        · cases h
      · cases h
    · cases h
  case nilCheck x => rw [hE x (by simp)]; exact h
  case makeInterface ty x =>
    rw [hE x (by simp)]
    split at h
    · cases h
    · rename_i d hni hu
      split at h
      · rename_i t ms hx
        cases h
        obtain ⟨c, h1, h2⟩ := Option.bind_eq_some_iff.1 hx
        have h3 := frz_local deep c t ms h2 hH
        simp only [hu, h1, Option.bind_some, h3, marks_local ms hH]
        try rfl
      · cases h
    · cases h
  case makeFunc fn first capt =>
    rw [evs_local fun x hx => hE x (by simp; exact .inl (by simpa using hx)), evs_local fun x hx => hE x (by simp; exact .inr (by simpa using hx))]
    exact h
  case makeMap ty r => cases r <;> first | exact h | cases h
  case makeSlice ty l c => rw [hE l (by simp), hE c (by simp)]; exact h
  case slice ty x lo hi mx =>
    rw [hE x (by simp), hfl (by simp [ho]), optInt_local (x := lo) fun y hy => hE y (by simp [hy]), optInt_local (x := hi) fun y hy => hE y (by simp [hy]), optInt_local (x := mx) fun y hy => hE y (by simp [hy])]
    split at h
    · rename_i elem c hu hx
      split at h
      · exact sliceC_local h hH
      · cases h
    · exact arrSliceC_local h hH
    · exact h
  case fieldAddr s x f => rw [hE x (by simp)]; exact h
  case field s x f => rw [hE x (by simp)]; exact h
  case indexAddr t x i => rw [hE x (by simp), hE i (by simp)]; exact h
  case index t x i => rw [hE x (by simp), hE i (by simp), hfl (by simp [ho])]; exact h
  case lookup t m k ok =>
    rw [hE m (by simp), hE k (by simp)]
    split at h
    · exact lookupC_local h hH
    · cases h
  case mapUpdate t m k x =>
    rw [hE m (by simp), hE k (by simp), hE x (by simp)]
    split at h
    · exact updateC_local h hH
    · cases h
  case insert t m k x =>
    rw [hE m (by simp), hE k (by simp), hE x (by simp)]
    split at h
    · exact updateC_local h hH
    · cases h
  case typeAssert x xt as ok => rw [hE x (by simp)]; exact h
  case extract t ix => rw [hE t (by simp)]; exact h
  case binOp op t x y yt => rw [hE x (by simp), hfl (by simp [ho])]; exact h
  case unOp op t x => rw [hfl (by simp [ho])]; exact h
  case convert s d x => rw [hfl (by simp [ho])]; exact h
  case call c =>
    have hargs : evs G e' c.args.toList = evs G e c.args.toList := evs_local fun x hx => hE x (by simp [Call.operands]; exact .inr (by simpa using hx))
    rw [hfl (by simp [ho]), hargs]
    cases hc : c.callee with
    | builtin b =>
      simp only [hc] at h ⊢
      cases b <;> simp only at h ⊢ <;> first
        | exact h
        | (split at h
           · exact builtinC_local h hH
           · cases h)
    | invoke r name =>
      simp only [hc] at h ⊢
      rw [hE r (by simp [Call.operands, hc])]
      split at h
      · exact callV_local h hH
      · cases h
    | value f =>
      simp only [hc] at h ⊢
      rw [hE f (by simp [Call.operands, hc])]
      split at h
      · exact callV_local h hH
      · exact callV_local h hH
      · cases h
  case range t x =>
    rw [hE x (by simp)]
    split at h
    · exact rangeC_local h hH
    · cases h
  case next x s =>
    rw [hE x (by simp)]
    split at h
    · exact nextC_local h hH
    · cases h
  case entry x =>
    rw [hE x (by simp)]
    split at h
    · exact entryC_local h hH
    · cases h
  case sliceToArrayPointer arr x => rw [hE x (by simp)]; exact h
  all_goals (first | exact h | cases h)
end
end Go.Va
