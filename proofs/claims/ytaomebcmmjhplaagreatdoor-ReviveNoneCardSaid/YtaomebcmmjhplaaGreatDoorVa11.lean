/- Every operation of the interpreter is what the model does. -/
import Derived.Test.YtaomebcmmjhplaaGreatDoorVa10
namespace Go.Va
open Go Go.RowKit

section
variable {P : Program} {G : Nat → Option (List T)} {base nt : Nat} {w0 : Base} {w : World} {ρ : Nat → Option Nat} {I : Nat → Prop} {e : Nat → Option C} {H : Nat → Option Blk} {a : Act}

theorem wp_of_res {o : Oper} {K : Value → World → Prop} {next : Act → World → Prop} {Q : Exit → Act → World → Prop} (h : Res P o a w K) (hn : ∀ v w', K v w' → next (a.put o.dst v) w') : o.wp P a w next Q := by
  unfold Oper.wp
  rcases h with ⟨v, w', h1, h2⟩ | ⟨w', h1, h2⟩
  · rw [h1]; exact hn v w' h2
  · rw [h1]; exact hn undef w' h2
theorem wp_of_call {o : Oper} {K : Value → World → Prop} {next : Act → World → Prop} {Q : Exit → Act → World → Prop} (h : CallRes P o a w K) (hn : ∀ v w', K v w' → next (a.put o.dst v) w') : o.wp P a w next Q := by
  unfold Oper.wp
  obtain ⟨f, args, h1, h2⟩ := h
  rw [h1, Oper.upon_enter]
  refine h2.mono ?_
  rintro en w' ⟨v, rfl, hk⟩
  exact hn v w' hk

theorem builtin_sound (hs : Sim G base w0 nt ρ I e H a w) (hb : base ≤ w0.w.heap.size) {o : Oper} {c : Call} (ho : o.op = .call c) {b : Builtin} (hc : c.callee = .builtin b) {id : Nat} (hid : ∀ x, id ≤ x → x < id + nalloc o → ρ x = none)
    {args : List C} (hargs : evs G e c.args.toList = some args) {eff : Eff} (h : builtinC P H id b c.argTypes args = some eff) :
    Res P o a w fun v w' => ∃ ρ' I', Step G base w0 ρ I H w id (id + nalloc o) eff v ρ' I' w' := by
  have hvs := evs_sound hs hargs
  have hmap : (c.args.map a.eval).toList = c.args.toList.map a.eval := by simp
  have hex : ∀ n, builtin b c.argTypes o.type (c.args.map fun | .const _ => true | _ => false) (c.args.map a.eval) = n → (execOp a.eval o).run P w = n.run P w := by
    intro n hn
    rw [← hn]
    simp only [execOp, ho, resolve, hc, Sem.run_bind, Sem.run_pure, Result.andThen_ok, invoke]
    rfl
  unfold builtinC at h
  split at h
  · rename_i cx
    simp only [RCs] at hvs
    obtain ⟨v, rest, he, hv, rfl⟩ := hvs
    have ha : c.args.map a.eval = #[v] := Array.ext' (by rw [hmap, he])
    split at h
    · rename_i d hd
      obtain ⟨t, ht, hd⟩ := Option.bind_eq_some_iff.1 hd
      cases hl : lenC H d cx with
      | none => simp [hl] at h
      | some q =>
        obtain ⟨n, fp⟩ := q
        simp only [hl, Option.map_some, Option.some.injEq] at h
        subst h
        refine .inl ⟨goInt n, w, ?_, ρ, I, Step.still hs.mem (RC_lit rfl)⟩
        rw [hex _ rfl, ha]
        simp only [builtin, Sem.run_bind, len_sound hs hd hv hl c.argTypes ht o.type, Result.andThen_ok, Sem.run_pure]
    · cases h
  · rename_i cd cx
    simp only [RCs] at hvs
    obtain ⟨vd, rest, he, hvd, vx, rest', rfl, hvx, rfl⟩ := hvs
    have ha : c.args.map a.eval = #[vd, vx] := Array.ext' (by rw [hmap, he])
    split at h
    case h_2 => cases h
    rename_i t1 t2 hts
    split at h
    case isFalse => cases h
    rename_i htt
    subst htt
    have hat : c.argTypes = #[t1, t1] := Array.ext' (by rw [hts])
    split at h
    case h_2 => cases h
    rename_i elem hu
    split at h
    case h_2 => cases h
    rename_i i z hi hz
    split at h
    case isFalse => cases h
    rename_i hzl
    have hna : nalloc o = 1 := by simp [nalloc, ho, hc]
    obtain ⟨v, w', g1, g2⟩ := append_sound (hi := id + nalloc o) hs hb (hid id (Nat.le_refl _) (by omega)) (by omega) hu hi hz hzl hvd hvx h o.type
    refine .inl ⟨v, w', ?_, g2⟩
    rw [hex _ rfl, ha, hat]
    simp only [builtin, Sem.run_bind, g1, Result.andThen_ok, Sem.run_pure]
  · rename_i cd cx
    simp only [RCs] at hvs
    obtain ⟨vd, rest, he, hvd, vx, rest', rfl, hvx, rfl⟩ := hvs
    have ha : c.args.map a.eval = #[vd, vx] := Array.ext' (by rw [hmap, he])
    split at h
    case h_2 => cases h
    rename_i elem src k fp hd hsrc
    split at h
    case h_2 => cases h
    rename_i i c2 n sz hi
    split at h
    case h_2 => cases h
    rename_i cs hbk
    split at h
    case isFalse => cases h
    rename_i hcond
    cases h
    obtain ⟨t, ht, hu⟩ := Option.bind_eq_some_iff.1 hd
    obtain ⟨v, w', g1, g2⟩ := copy_sound (P := P) (t2 := t) (lo := id) (hi := id + nalloc o) hs hu hi hvd hvx hsrc hbk hcond.1 hcond.2.1 hcond.2.2 o.type
    refine .inl ⟨v, w', ?_, g2⟩
    rw [hex _ rfl, ha]
    have : Builtin.copy_ c.argTypes o.type #[vd, vx] = Builtin.copy_ #[t, t] o.type #[vd, vx] := by
      unfold Builtin.copy_
      simp only [ht]
      rfl
    simp only [builtin, Sem.run_bind, this, g1, Result.andThen_ok, Sem.run_pure]
  · rename_i cm ck
    simp only [RCs] at hvs
    obtain ⟨vd, rest, he, hvd, vx, rest', rfl, hvx, rfl⟩ := hvs
    have ha : c.args.map a.eval = #[vd, vx] := Array.ext' (by rw [hmap, he])
    split at h
    case h_2 => cases h
    rename_i t ht
    obtain ⟨v, w', g1, g2⟩ := delete_sound (lo := id) (hi := id + nalloc o) hs hvd hvx h c.argTypes ht o.type
    refine .inl ⟨v, w', ?_, g2⟩
    rw [hex _ rfl, ha]
    simp only [builtin, Sem.run_bind, g1, Result.andThen_ok, Sem.run_pure]
  · cases h

theorem opc_sound {rc : FuncId → List T → Option (List R)} (hrc : ∀ f args rs, rc f args = some rs → Holds P G f args rs) (hs : Sim G base w0 nt ρ I e H a w) (hb : base ≤ w0.w.heap.size) {o : Oper} {id : Nat}
    (hid : ∀ b, id ≤ b → b < id + nalloc o → ρ b = none) {eff : Eff} (h : opc P G rc o e H id = some eff) {next : Act → World → Prop} {Q : Exit → Act → World → Prop}
    (hn : ∀ v ρ' I' w', Step G base w0 ρ I H w id (id + nalloc o) eff v ρ' I' w' → next (a.put o.dst v) w') : o.wp P a w next Q := by
  have hn1 : ∀ v w', (∃ ρ' I', Step G base w0 ρ I H w id (id + nalloc o) eff v ρ' I' w') → next (a.put o.dst v) w' := fun v w' ⟨ρ', I', h⟩ => hn v ρ' I' w' h
  have hn0 : ∀ v w', Step G base w0 ρ I H w id (id + nalloc o) eff v ρ I w' → next (a.put o.dst v) w' := fun v w' h => hn v ρ I w' h
  have one : nalloc o = 1 → ρ id = none ∧ id < id + nalloc o := fun h => ⟨hid id (Nat.le_refl _) (by omega), by omega⟩
  unfold opc at h
  split at h
  · rename_i x ho; exact wp_of_res (move_sound hs (.inl ho) _ _ h) hn0
  · rename_i x ho; exact wp_of_res (move_sound hs (.inr ho) _ _ h) hn0
  · rename_i c x y ho; exact wp_of_res (pick_sound hs ho _ _ h) hn0
  · rename_i ty ho; have h1 := one (by simp [nalloc, ho]); exact wp_of_res (alloc_sound hs hb ho h1.1 h1.2 h) hn1
  · rename_i ty x ho; have h1 := one (by simp [nalloc, ho]); exact wp_of_res (box_sound hs hb ho h1.1 h1.2 h) hn1
  · rename_i ty parts ho; exact wp_of_res (build_sound hs ho _ _ h) hn0
  · rename_i ty len parts ho; have h1 := one (by simp [nalloc, ho]); exact wp_of_res (buildSlice_sound hs hb ho h1.1 h1.2 h) hn1
  · rename_i ty x ho; exact wp_of_res (load_sound hs ho _ _ h) hn0
  · rename_i ty x y ho; exact wp_of_res (store_sound hs ho _ _ h) hn0
  · rename_i x ho; exact wp_of_res (nilCheck_sound hs ho _ _ h) hn0
  · rename_i ty x ho; exact wp_of_res (makeInterface_sound hs ho _ _ h) hn1
  · rename_i fn first capt ho; exact wp_of_res (makeFunc_sound hs ho _ _ h) hn0
  · rename_i ty ho; have h1 := one (by simp [nalloc, ho]); cases h; exact wp_of_res (makeMap_sound hs hb ho h1.1 h1.2) hn1
  · rename_i ty l c ho; have h1 := one (by simp [nalloc, ho]); exact wp_of_res (makeSlice_sound hs hb ho h1.1 h1.2 h) hn1
  · rename_i ty x lo hi mx ho
    split at h
    · rename_i elem c hu hx
      split at h
      · rename_i l' h' m' h1 h2 h3
        exact wp_of_res (slice_sound hs ho _ _ hu hx h1 h2 h3 h) hn1
      · cases h
    · rename_i n elem b hu hx; exact wp_of_res (arrSlice_sound hs ho _ _ hu hx h) hn0
    · exact wp_of_res (flatOp_sound hs _ _ (by simp [ho]) h) hn0
  · rename_i s x f ho; exact wp_of_res (fieldAddr_sound hs ho _ _ h) hn0
  · rename_i s x f ho; exact wp_of_res (field_sound hs ho _ _ h) hn0
  · rename_i t x i ho
    split at h
    · rename_i c n hx hi; exact wp_of_res (indexAddr_sound hs ho _ _ hx hi h) hn0
    · cases h
  · rename_i t x i ho
    split at h
    · rename_i len elem hu; exact wp_of_res (index_sound hs ho _ _ hu h) hn0
    · exact wp_of_res (flatOp_sound hs _ _ (by simp [ho]) h) hn0
  · rename_i t m k ok ho
    split at h
    · rename_i cm ck hm hk; exact wp_of_res (lookup_sound hs ho _ _ hm hk h) hn0
    · cases h
  · rename_i t m k x ho
    split at h
    · rename_i cm ck cx hm hk hx; exact wp_of_res (update_sound hs (.inl ho) _ _ hm hk hx h) hn1
    · cases h
  · rename_i t m k x ho
    split at h
    · rename_i cm ck cx hm hk hx; exact wp_of_res (update_sound hs (.inr ho) _ _ hm hk hx h) hn1
    · cases h
  · rename_i x xt asserted ok ho; exact wp_of_res (typeAssert_sound hs ho _ _ h) hn0
  · rename_i t ix ho; exact wp_of_res (extract_sound hs ho _ _ h) hn0
  · rename_i op t x y yt ho; exact wp_of_res (binOp_sound hs ho _ _ h) hn0
  · rename_i c ho
    split at h
    · rename_i b hc
      have hfl : flatOp P G e o = some eff → o.wp P a w next Q := fun h => wp_of_res (flatOp_sound hs _ _ (by simp [ho]) h) hn0
      split at h
      all_goals first
        | exact hfl h
        | (split at h
           · rename_i args hargs; exact wp_of_res (builtin_sound hs hb ho hc hid hargs h) hn1
           · cases h)
    · rename_i r name hc
      split at h
      · rename_i rv args hr hargs
        have hna : nalloc o = many := by simp [nalloc, ho, hc]
        rw [hna] at hid hn1
        obtain ⟨f, as, g1, g2⟩ := callV_sound (us := []) hrc hs.mem hb hid (by simp only [RCs]; exact ⟨_, _, rfl, ev_sound hs hr, evs_sound hs hargs⟩) (by simp only [RCs]) h
        refine wp_of_call ⟨f, as, ?_, g2⟩ hn1
        simp only [execOp, ho, resolve, hc, Sem.run_bind, Sem.run_pure, Result.andThen_ok]
        rw [← g1]
        congr 2
        simp
      · cases h
    · rename_i fv hc
      have hna : nalloc o = many := by simp [nalloc, ho, hc]
      rw [hna] at hid hn1
      split at h
      · rename_i fn first capt args hf hargs
        have hv := ev_sound hs hf
        simp only [RC] at hv
        obtain ⟨as, bs, hv, h1, h2⟩ := hv
        obtain ⟨f, as', g1, g2⟩ := callV_sound hrc hs.mem hb hid (h1.append (evs_sound hs hargs)) h2 h
        refine wp_of_call ⟨f, as', ?_, g2⟩ hn1
        simp only [execOp, ho, resolve, hc, hv, Deferred.ofValue, Sem.run_bind, Sem.run_pure, Result.andThen_ok]
        rw [← g1]
        congr 2
        exact Array.ext' (by simp)
      · rename_i fn first capt args hf hargs
        have hv := ev_sound hs hf
        simp only [RC, RT] at hv
        obtain ⟨as, bs, hv, h1, h2⟩ := hv
        obtain ⟨f, as', g1, g2⟩ := callV_sound hrc hs.mem hb hid ((RCs.of_RTs h1).append (evs_sound hs hargs)) (RCs.of_RTs h2) h
        refine wp_of_call ⟨f, as', ?_, g2⟩ hn1
        simp only [execOp, ho, resolve, hc, hv, Deferred.ofValue, Sem.run_bind, Sem.run_pure, Result.andThen_ok]
        rw [← g1]
        congr 2
        exact Array.ext' (by simp)
      · cases h
  · rename_i op t x ho; exact wp_of_res (flatOp_sound hs _ _ (by simp [ho]) h) hn0
  · rename_i s d x ho; exact wp_of_res (flatOp_sound hs _ _ (by simp [ho]) h) hn0
  · rename_i t x ho
    have h1 := one (by simp [nalloc, ho])
    split at h
    · rename_i c hx; exact wp_of_res (range_sound hs hb ho h1.1 h1.2 hx h) hn1
    · cases h
  · rename_i x s ho
    split at h
    · rename_i c hx; exact wp_of_res (next_sound hs ho _ _ hx h) hn0
    · cases h
  · rename_i x ho
    split at h
    · rename_i c hx; exact wp_of_res (entry_sound hs ho _ _ hx h) hn0
    · cases h
  · rename_i arr x ho; exact wp_of_res (arrPtr_sound hs ho _ _ h) hn0
  · cases h
end
end Go.Va
