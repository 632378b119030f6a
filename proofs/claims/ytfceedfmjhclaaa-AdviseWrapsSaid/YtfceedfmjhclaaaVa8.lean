/- Each operation of the interpreter is what the model does: maps, len, append, copy. -/
import Derived.Test.YtfceedfmjhclaaaVa7
namespace Go.Va
open Go Go.RowKit

section
variable {P : Program} {G : Nat → Option (List T)} {base nt : Nat} {w0 : Base} {w : World} {ρ : Nat → Option Nat} {I : Nat → Prop} {e : Nat → Option C} {H : Nat → Option Blk} {a : Act}

/-! ### Maps -/
theorem findIx_spec {d : TypeDesc} {k : Value} : ∀ (ks : List Value) (i : Nat) (es : List MapEntry), es.map (·.key) = ks → ∀ r, findIx d k ks i = some r →
    (r = none ∧ Instr.findNow d k es i = some none) ∨ ∃ j en, r = some (i + j) ∧ es[j]? = some en ∧ Instr.findNow d k es i = some (some (i + j, en.val)) ∧ Instr.sameNow d k en.key = some true
  | [], i, es, he, r, h => by
    simp only [findIx, Option.some.injEq] at h
    have : es = [] := by simpa using he
    subst this
    exact .inl ⟨h.symm, rfl⟩
  | x :: ks, i, es, he, r, h => by
    cases es with
    | nil => simp at he
    | cons en es =>
      simp only [List.map_cons, List.cons.injEq] at he
      obtain ⟨rfl, he⟩ := he
      simp only [findIx] at h
      cases hq : Instr.sameNow d k en.key with
      | none => simp [hq] at h
      | some q =>
        cases q with
        | true =>
          simp only [hq, Option.some.injEq] at h
          exact .inr ⟨0, en, h.symm, by simp, by simp [Instr.findNow, hq], hq⟩
        | false =>
          simp only [hq] at h
          rcases findIx_spec ks (i + 1) es he r h with ⟨h1, h2⟩ | ⟨j, en', h1, h2, h3, h4⟩
          · exact .inl ⟨h1, by simp [Instr.findNow, hq, h2]⟩
          · exact .inr ⟨j + 1, en', by rw [h1]; congr 1; omega, by simpa using h2, by simp only [Instr.findNow, hq, h3]; congr 3; omega, h4⟩

theorem run_checkKey' {kt : TypeId} {d : TypeDesc} (hu : P.underlying kt = some d) (hs : simpleKey d = true) (em : Bool) (n : Nat) (k : Value) : (Instr.checkKey em (n + 1) kt k).run P w = .ok () w := by
  unfold Instr.checkKey
  simp only [Sem.run_bind, run_underlying hu, Result.andThen]
  cases d <;> simp [simpleKey] at hs <;> cases k <;> simp

theorem run_findKey' {kt : TypeId} {d : TypeDesc} {k : Value} {l : List MapEntry} {r : Option (Nat × Value)} (hu : P.underlying kt = some d) (h : Instr.findNow d k l 0 = some r) : (Instr.findKey kt k l).run P w = .ok r w := by
  simp [Instr.findKey, run_underlying hu, Result.andThen, h]

theorem same_stays {d : TypeDesc} {x y : Value} (h : Instr.sameNow d x y = some true) : x = y ∧ (Instr.keyThatStays y x).run P w = .ok x w := by
  unfold Instr.sameNow at h
  split at h
  · split at h
    · rename_i k a k' b hk
      subst hk
      simp at h
      subst h
      exact ⟨rfl, by simp [Instr.keyThatStays, Instr.sameBits]⟩
    · cases h
  · rename_i a b
    simp only [Option.some.injEq] at h
    have e := (MapKept.bytes_beq a b).1 h
    subst e
    exact ⟨rfl, by simp [Instr.keyThatStays, Instr.sameBits, (MapKept.bytes_beq a a).2 rfl]⟩
  · rename_i a b
    simp at h
    subst h
    exact ⟨rfl, by simp [Instr.keyThatStays, Instr.sameBits]⟩
  · cases h

theorem getObj_map {r : Nat} {es : Array MapEntry} {clk : Nat} (hb : w.heap[r]? = some (.map es clk)) : (getObj r).run P w = .ok (.map es clk) w := MapKept.run_getObj_map hb

theorem lookup_sound (hs : Sim G base w0 nt ρ I e H a w) {o : Oper} {t : TypeId} {m k : Operand} {ok : Bool} (ho : o.op = .lookup t m k ok) {eff : Eff} (lo hi : Nat) {cm ck : C}
    (hm : ev G e m = some cm) (hk : ev G e k = some ck) (h : lookupC P H t cm ck ok = some eff) : Res P o a w fun v w' => Step G base w0 ρ I H w lo hi eff v ρ I w' := by
  have hvm := ev_sound hs hm
  have hvk := ev_sound hs hk
  unfold lookupC at h
  split at h
  case h_2 => cases h
  rename_i key elem hu
  split at h
  case h_2 => cases h
  rename_i kd kv hkd
  simp only [RC, RT] at hvk
  split at h
  case isFalse => cases h
  rename_i hsk
  -- what stands in the map
  have hB : ∀ b, RC ρ w.heap I (goB b) (.bool b) := fun b => RC_lit rfl
  have fin : ∀ (es : Array MapEntry) (r : Option (Nat × Value)), (match a.eval m with | .map none => es = #[] | .map (some r) => ∃ clk, w.heap[r]? = some (.map es clk) | _ => False) → Instr.findNow kd kv es.toList 0 = some r →
      ∀ (c : C) (v : Value) (b : Bool), RC ρ w.heap I c v → (match r with | some (_, x) => v = x ∧ b = true | none => b = false ∧ (zeroValue elem).run P w = .ok v w) →
      ∀ fp, Res P o a w fun v w' => Step G base w0 ρ I H w lo hi ⟨if ok then .tup [c, goB b] else c, [], fp⟩ v ρ I w' := by
    intro es r hes hf c v b hc hr fp
    have hrun : (execOp a.eval o).run P w = .ok (.value (if ok then .tuple #[v, .bool b] else v)) w := by
      simp only [execOp, ho, Instr.lookup, Sem.run_bind, run_underlying hu, Result.andThen_ok, hvk.1]
      cases hmv : a.eval m with
      | map x =>
        rw [hmv] at hes
        cases x with
        | none =>
          simp only at hes
          subst hes
          have hrr : r = none := by simpa [Instr.findNow] using hf.symm
          subst hrr
          simp only [Sem.run_bind, Sem.run_pure, Result.andThen_ok, run_checkKey' hkd hsk, run_findKey' hkd hf, hr.2, hr.1]
        | some x =>
          obtain ⟨clk, hb⟩ := hes
          simp only [Sem.run_bind, getObj_map hb, Sem.run_pure, Result.andThen_ok, run_checkKey' hkd hsk, run_findKey' hkd hf]
          cases r with
          | none => simp only [Sem.run_bind, hr.2, hr.1, Result.andThen_ok, Sem.run_pure]
          | some q => obtain ⟨q1, q2⟩ := q; simp only [hr.1, hr.2]; cases ok <;> rfl
      | _ => rw [hmv] at hes; exact hes.elim
    refine .inl ⟨_, w, hrun, Step.still hs.mem ?_⟩
    cases ok with
    | true => simp only [if_true, RC]; exact ⟨_, rfl, by simp only [RCs]; exact ⟨v, _, rfl, hc, _, _, rfl, hB b, rfl⟩⟩
    | false => simpa using hc
  have zero : ∀ (es : Array MapEntry), (match a.eval m with | .map none => es = #[] | .map (some r) => ∃ clk, w.heap[r]? = some (.map es clk) | _ => False) → Instr.findNow kd kv es.toList 0 = some none → ∀ fp,
      (zeroC P elem).map (fun z => (⟨if ok then .tup [z, goB false] else z, [], fp⟩ : Eff)) = some eff → Res P o a w fun v w' => Step G base w0 ρ I H w lo hi eff v ρ I w' := by
    intro es hes hf fp hz
    cases hq : zeroC P elem with
    | none => simp [hq] at hz
    | some z =>
      simp only [hq, Option.map_some, Option.some.injEq] at hz
      subst hz
      obtain ⟨i, zv, g1, g2, g3⟩ := zeroC_sound (ρ := ρ) (w := w) (I := I) hq
      exact fin es none hes hf z zv false g3 ⟨rfl, run_zeroValue' g1 g2 w⟩ fp
  split at h
  · -- found
    rename_i c fp hfound
    cases h
    unfold foundC at hfound
    split at hfound
    · simp at hfound
    · rename_i ks vs
      simp only [RC, RT] at hvm
      obtain ⟨r, es, clk, hav, _, hb, hks, hvs⟩ := hvm
      split at hfound
      · rename_i i hix
        split at hfound
        · rename_i x hx
          simp only [Option.some.injEq, Prod.mk.injEq] at hfound
          obtain ⟨rfl, rfl⟩ := hfound
          rcases findIx_spec ks 0 es.toList hks _ hix with ⟨h1, _⟩ | ⟨j, en, h1, h2, h3, _⟩
          · cases h1
          · simp only [Nat.zero_add, Option.some.injEq] at h1
            subst h1
            have : (es.toList.map (·.val))[i]? = some en.val := by rw [List.getElem?_map, h2]; rfl
            have hrt := hvs.get' hx this
            exact fin es _ (by rw [hav]; exact ⟨clk, hb⟩) h3 (.t x) en.val true (by simp only [RC]; exact hrt) ⟨rfl, rfl⟩ _
        · cases hfound
      · simp at hfound
      · cases hfound
    · rename_i b
      simp only [RC] at hvm
      obtain ⟨r, hr, hav⟩ := hvm
      split at hfound
      · rename_i ks vs fz hb
        obtain ⟨es, clk, hh, hks, hvs⟩ := blk_map hs.mem hb hr
        split at hfound
        · rename_i i hix
          split at hfound
          · rename_i x hx
            simp only [Option.some.injEq, Prod.mk.injEq] at hfound
            obtain ⟨rfl, rfl⟩ := hfound
            rcases findIx_spec ks 0 es.toList hks _ hix with ⟨h1, _⟩ | ⟨j, en, h1, h2, h3, _⟩
            · cases h1
            · simp only [Nat.zero_add, Option.some.injEq] at h1
              subst h1
              have : (es.toList.map (·.val))[i]? = some en.val := by rw [List.getElem?_map, h2]; rfl
              exact fin es _ (by rw [hav]; exact ⟨clk, hh⟩) h3 x en.val true (hvs.get' hx this) ⟨rfl, rfl⟩ _
          · cases hfound
        · simp at hfound
        · cases hfound
      · cases hfound
    · cases hfound
  · -- not found
    rename_i fp hfound
    unfold foundC at hfound
    split at hfound
    · simp only [RC, RT] at hvm
      simp only [Option.some.injEq, Prod.mk.injEq, true_and] at hfound
      subst hfound
      exact zero #[] (by rw [hvm.1]) rfl _ h
    · rename_i ks vs
      simp only [RC, RT] at hvm
      obtain ⟨r, es, clk, hav, _, hb, hks, hvs⟩ := hvm
      split at hfound
      · split at hfound <;> simp at hfound
      · rename_i hix
        rcases findIx_spec ks 0 es.toList hks _ hix with ⟨_, h2⟩ | ⟨j, en, h1, _⟩
        · exact zero es (by rw [hav]; exact ⟨clk, hb⟩) h2 _ h
        · cases h1
      · cases hfound
    · rename_i b
      simp only [RC] at hvm
      obtain ⟨r, hr, hav⟩ := hvm
      split at hfound
      · rename_i ks vs fz hb
        obtain ⟨es, clk, hh, hks, hvs⟩ := blk_map hs.mem hb hr
        split at hfound
        · split at hfound <;> simp at hfound
        · rename_i hix
          rcases findIx_spec ks 0 es.toList hks _ hix with ⟨_, h2⟩ | ⟨j, en, h1, _⟩
          · exact zero es (by rw [hav]; exact ⟨clk, hh⟩) h2 _ h
          · cases h1
        · cases hfound
      · cases hfound
    · cases hfound
  · cases h

theorem setObj_map {r : Nat} {es : Array MapEntry} {clk : Nat} (o : Obj) (hb : w.heap[r]? = some (.map es clk)) : (setObj r o).run P w = .ok () (setObjW w r o) := MapKept.run_setObj_map o hb

theorem update_sound (hs : Sim G base w0 nt ρ I e H a w) {o : Oper} {t : TypeId} {m k x : Operand} (ho : o.op = .mapUpdate t m k x ∨ o.op = .insert t m k x) {eff : Eff} (lo hi : Nat) {cm ck cx : C}
    (hm : ev G e m = some cm) (hk : ev G e k = some ck) (hx : ev G e x = some cx) (h : updateC P H t cm ck cx = some eff) : Res P o a w fun v w' => ∃ ρ' I', Step G base w0 ρ I H w lo hi eff v ρ' I' w' := by
  have hvm := ev_sound hs hm
  have hvk := ev_sound hs hk
  have hvx := ev_sound hs hx
  unfold updateC at h
  split at h
  case h_2 => cases h
  rename_i key elem hu
  split at h
  case h_2 => cases h
  rename_i kd kv b hkd
  simp only [RC, RT] at hvk
  split at h
  case isFalse => cases h
  rename_i hsk
  split at h
  case h_2 => cases h
  rename_i ks vs hb
  simp only [RC] at hvm
  obtain ⟨r, hr, hav⟩ := hvm
  obtain ⟨es, clk, hh, hks, hvs⟩ := blk_map hs.mem hb hr
  have hexec : (execOp a.eval o).run P w = ((Instr.mapUpdate t (.map (some r)) kv (a.eval x)).run P w).andThen fun _ w' => Result.ok Next.skip w' := by
    rcases ho with ho | ho <;> simp only [execOp, ho, hav, hvk.1, Sem.run_bind, Sem.run_pure]
  have hundef : ∀ {ρ' I'} {w' : World}, RC ρ' w'.heap I' (.tup []) undef := by intro ρ' I' w'; simp only [RC]; exact ⟨#[], rfl, by simp only [RCs]⟩
  split at h
  · rename_i i hix
    split at h
    case isFalse => cases h
    rename_i hlen
    cases h
    rcases findIx_spec ks 0 es.toList hks _ hix with ⟨h1, _⟩ | ⟨j, en, h1, h2, h3, h4⟩
    · cases h1
    · simp only [Nat.zero_add, Option.some.injEq] at h1
      subst h1
      obtain ⟨hke, hst⟩ := same_stays (P := P) (w := w) h4
      have hei : es[i]? = some en := by simpa using h2
      have hlt : i < es.size := (Array.getElem?_eq_some_iff.1 hei).1
      have hlist : (es.modify i fun q => { q with key := kv, val := a.eval x }).toList = es.toList.set i { en with key := kv, val := a.eval x } := by
        rw [Array.toList_modify]
        apply List.ext_getElem?
        intro q
        rw [List.getElem?_modify, List.getElem?_set]
        by_cases hq : i = q
        · subst hq
          have hge : es[i] = en := (Array.getElem?_eq_some_iff.1 hei).2
          simp [hlt, hge]
        · simp [hq]
      obtain ⟨g1, g2⟩ := hs.mem.setMap hb hr hh (es.modify i fun q => { q with key := kv, val := a.eval x }) clk (ks' := ks) (vs' := vs.set i cx)
        (by
          rw [hlist, List.map_set, hks]
          apply List.ext_getElem?
          intro q
          rw [List.getElem?_set]
          by_cases hq : i = q
          · subst hq
            have : ks[i]? = some en.key := by rw [← hks, List.getElem?_map, h2]; rfl
            have hl : i < ks.length := (List.getElem?_eq_some_iff.1 this).1
            rw [if_pos rfl, if_pos hl, this, hke]
          · simp [hq])
        (by
          rw [hlist, List.map_set]
          exact hvs.set i hvx)
      refine .inr ⟨setObjW w r (.map (es.modify i fun q => { q with key := kv, val := a.eval x }) clk), ?_, ρ, I, g1, fun _ _ h => h, fun _ _ => rfl, hundef, g2⟩
      rw [hexec]
      have hgd : ((es[i]?).map (·.key)).getD kv = en.key := by rw [hei]; rfl
      simp only [Instr.mapUpdate, Sem.run_bind, run_underlying hu, Result.andThen_ok, getObj_map hh, run_checkKey' hkd hsk, run_findKey' hkd h3, Nat.zero_add, hgd, hst, setObj_map _ hh]
  · rename_i hix
    cases h
    rcases findIx_spec ks 0 es.toList hks _ hix with ⟨_, h2⟩ | ⟨j, en, h1, _⟩
    · obtain ⟨g1, g2⟩ := hs.mem.setMap hb hr hh (es.push { key := kv, val := a.eval x, born := clk }) (clk + 1) (ks' := ks ++ [kv]) (vs' := vs ++ [cx])
        (by simp [hks]) (by
          simp only [Array.toList_push, List.map_append, List.map_cons, List.map_nil]
          exact hvs.append (by simp only [RCs]; exact ⟨_, _, rfl, hvx, rfl⟩))
      refine .inr ⟨setObjW w r (.map (es.push { key := kv, val := a.eval x, born := clk }) (clk + 1)), ?_, ρ, I, g1, fun _ _ h => h, fun _ _ => rfl, hundef, g2⟩
      rw [hexec]
      simp only [Instr.mapUpdate, Sem.run_bind, run_underlying hu, Result.andThen_ok, getObj_map hh, run_checkKey' hkd hsk, run_findKey' hkd h2, setObj_map _ hh]
    · cases h1
  · cases h

theorem delete_sound (hs : Sim G base w0 nt ρ I e H a w) {t : TypeId} {vm vk : Value} (lo hi : Nat) {eff : Eff} {cm ck : C}
    (hvm : RC ρ w.heap I cm vm) (hvk : RC ρ w.heap I ck vk) (h : deleteC P H t cm ck = some eff) (ats : Array TypeId) (hat : ats[0]? = some t) (ty : TypeId) :
    ∃ v w', (Builtin.delete_ ats ty #[vm, vk]).run P w = .ok v w' ∧ ∃ ρ' I', Step G base w0 ρ I H w lo hi eff v ρ' I' w' := by
  have hundef : ∀ {ρ' I'} {w' : World}, RC ρ' w'.heap I' (.tup []) (.tuple #[]) := by intro ρ' I' w'; simp only [RC]; exact ⟨#[], rfl, by simp only [RCs]⟩
  unfold deleteC at h
  split at h
  case h_2 => cases h
  rename_i key elem hu
  split at h
  case h_2 => cases h
  rename_i kd kv hkd
  simp only [RC, RT] at hvk
  split at h
  case isFalse => cases h
  rename_i hsk
  split at h
  · cases h
    simp only [RC, RT] at hvm
    refine ⟨.tuple #[], w, ?_, ρ, I, Step.still hs.mem hundef⟩
    simp [Builtin.delete_, hat, run_underlying hu, hvm.1, run_checkKey' hkd hsk]
  · rename_i b
    split at h
    case h_2 => cases h
    rename_i ks vs hb
    simp only [RC] at hvm
    obtain ⟨r, hr, hav⟩ := hvm
    obtain ⟨es, clk, hh, hks, hvs⟩ := blk_map hs.mem hb hr
    split at h
    · rename_i i hix
      split at h
      case isFalse => cases h
      rename_i hlen
      cases h
      rcases findIx_spec ks 0 es.toList hks _ hix with ⟨h1, _⟩ | ⟨j, en, h1, h2, h3, h4⟩
      · cases h1
      · simp only [Nat.zero_add, Option.some.injEq] at h1
        subst h1
        have hei : es[i]? = some en := by simpa using h2
        have hlt : i < es.size := (Array.getElem?_eq_some_iff.1 hei).1
        have hlist : (es.eraseIdxIfInBounds i).toList = es.toList.eraseIdx i := by
          unfold Array.eraseIdxIfInBounds
          rw [dif_pos hlt, Array.toList_eraseIdx]
        obtain ⟨g1, g2⟩ := hs.mem.setMap hb hr hh (es.eraseIdxIfInBounds i) clk (ks' := ks.eraseIdx i) (vs' := vs.eraseIdx i)
          (by rw [hlist, ← hks, List.eraseIdx_eq_take_drop_succ, List.eraseIdx_eq_take_drop_succ]; simp) (by
            rw [hlist, List.eraseIdx_eq_take_drop_succ, List.eraseIdx_eq_take_drop_succ, List.map_append, List.map_take, List.map_drop]
            exact (hvs.take i).append (hvs.drop (i + 1)))
        refine ⟨.tuple #[], setObjW w r (.map (es.eraseIdxIfInBounds i) clk), ?_, ρ, I, g1, fun _ _ h => h, fun _ _ => rfl, hundef, g2⟩
        simp [Builtin.delete_, hat, run_underlying hu, hav, hvk.1, getObj_map hh, run_checkKey' hkd hsk, run_findKey' hkd h3, setObj_map _ hh]
    · rename_i hix
      cases h
      rcases findIx_spec ks 0 es.toList hks _ hix with ⟨_, h2⟩ | ⟨j, en, h1, _⟩
      · refine ⟨.tuple #[], setObjW w r (.map es clk), ?_, ρ, I, ?_⟩
        · simp [Builtin.delete_, hat, run_underlying hu, hav, hvk.1, getObj_map hh, run_checkKey' hkd hsk, run_findKey' hkd h2, setObj_map _ hh]
        · have : setObjW w r (.map es clk) = w := by
            unfold setObjW
            have hlt := (Array.getElem?_eq_some_iff.1 hh).1
            have hge := (Array.getElem?_eq_some_iff.1 hh).2
            have : w.heap.setIfInBounds r (.map es clk) = w.heap := by
              apply Array.ext_getElem?
              intro k
              rw [Array.getElem?_setIfInBounds]
              by_cases hk : r = k
              · subst hk; simp [hlt, hge]
              · simp [hk]
            rw [this]
          rw [this]
          exact Step.still hs.mem hundef
      · cases h1
    · cases h
  · cases h

theorem len_sound (hs : Sim G base w0 nt ρ I e H a w) {t : TypeId} {d : TypeDesc} {v : Value} {c : C} {n : Nat} {fp : List Nat} (hu : P.underlying t = some d) (hv : RC ρ w.heap I c v) (h : lenC H d c = some (n, fp))
    (ats : Array TypeId) (hat : ats[0]? = some t) (ty : TypeId) : (Builtin.len_ ats ty #[v]).run P w = .ok (goInt n) w := by
  unfold lenC at h
  split at h
  · simp only [Option.some.injEq, Prod.mk.injEq] at h
    obtain ⟨rfl, _⟩ := h
    simp [Builtin.len_, hat, run_underlying hu]
  · simp only [Option.some.injEq, Prod.mk.injEq] at h
    obtain ⟨rfl, _⟩ := h
    simp only [RC, RT] at hv
    simp [Builtin.len_, hat, run_underlying hu, hv.1]
  · simp only [Option.some.injEq, Prod.mk.injEq] at h
    obtain ⟨rfl, _⟩ := h
    simp only [RC, RT] at hv
    simp [Builtin.len_, hat, run_underlying hu, hv.1]
  · simp only [Option.some.injEq, Prod.mk.injEq] at h
    obtain ⟨rfl, _⟩ := h
    simp only [RC, RT] at hv
    obtain ⟨b, lo, cap, c, el, fr, rfl, _⟩ := hv
    simp [Builtin.len_, hat, run_underlying hu]
  · simp only [Option.some.injEq, Prod.mk.injEq] at h
    obtain ⟨rfl, _⟩ := h
    simp only [RC] at hv
    obtain ⟨r, cap, c, el, fr, _, rfl, _⟩ := hv
    simp [Builtin.len_, hat, run_underlying hu]
  · simp only [Option.some.injEq, Prod.mk.injEq] at h
    obtain ⟨rfl, _⟩ := h
    simp only [RC, RT] at hv
    simp [Builtin.len_, hat, run_underlying hu, hv.1]
  · simp only [Option.some.injEq, Prod.mk.injEq] at h
    obtain ⟨rfl, _⟩ := h
    simp only [RC, RT] at hv
    obtain ⟨r, es, clk, rfl, _, hb, hks, _⟩ := hv
    have : es.size = es.toList.length := by simp
    simp [Builtin.len_, hat, run_underlying hu, getObj_map hb, ← hks]
  · rename_i b
    split at h
    · rename_i ks vs fz hb
      simp only [Option.some.injEq, Prod.mk.injEq] at h
      obtain ⟨rfl, _⟩ := h
      simp only [RC] at hv
      obtain ⟨r, hr, rfl⟩ := hv
      obtain ⟨es, clk, hh, hks, _⟩ := blk_map hs.mem hb hr
      simp [Builtin.len_, hat, run_underlying hu, getObj_map hh, ← hks]
    · cases h
  · cases h

theorem src_sound (hs : Sim G base w0 nt ρ I e H a w) {c : C} {v : Value} {src : List C} {k : Nat} {fp : List Nat} (h : srcL H c = some (src, k, fp)) (hv : RC ρ w.heap I c v) :
    ∃ news, RCs ρ w.heap I src news ∧ ones news ∧ ((v = .slice none 0 0 ∧ k = 0 ∧ src = []) ∨ ∃ a c, v = .slice (some a) k c ∧ ∀ (j : Nat) u, news[j]? = some u → w.cell? (a.add j) = some u) := by
  unfold srcL at h
  split at h
  · simp only [Option.some.injEq, Prod.mk.injEq] at h
    obtain ⟨rfl, rfl, _⟩ := h
    simp only [RC, RT] at hv
    exact ⟨[], by simp [RCs], (fun v hv => by cases hv), .inl ⟨hv.1, rfl, rfl⟩⟩
  · rename_i ts n clip
    simp only [Option.some.injEq, Prod.mk.injEq] at h
    obtain ⟨rfl, rfl, _⟩ := h
    simp only [RC, RT] at hv
    obtain ⟨b, lo, cap, c, el, fr, rfl, _, hb, h1, h2, _⟩ := hv
    refine ⟨win c lo ts.length, RCs.of_RTs h1, h2, .inr ⟨_, _, rfl, fun j u hu => ?_⟩⟩
    rw [addr_add, cell_of_row w b _ c el fr hb]
    exact (win_get hu).2
  · rename_i b n sz
    split at h
    · rename_i cs fz hb
      simp only [Option.some.injEq, Prod.mk.injEq] at h
      obtain ⟨rfl, rfl, _⟩ := h
      simp only [RC] at hv
      obtain ⟨r, cap, c0, e0, fr0, hr, rfl, _⟩ := hv
      obtain ⟨c, el, h1, h2, h3, h4⟩ := blk_cells hs.mem hb hr
      refine ⟨(win c 0 cs.length).take (n * sz), h3.take _, ones_sub h4 fun v hv => List.mem_of_mem_take hv, .inr ⟨_, _, rfl, fun j u hu => ?_⟩⟩
      rw [addr_add, cell_of_row w r _ c el (0, 0) h1]
      rw [List.getElem?_take] at hu
      split at hu
      · exact (win_get hu).2
      · cases hu
    · cases h
  · cases h

theorem grown_le (w : World) {need old : Nat} (e : TypeId) : need ≤ grownCap w need old e := by
  unfold grownCap Question.cut
  exact Nat.le_add_right _ _

theorem zeroCells_length (z : Array Value) (n : Nat) : (Builtin.zeroCells z n).size = n * z.size := by simp [Builtin.zeroCells]
end
end Go.Va
