/- Calls that are handed blocks of the caller's own: by their bodies. Blocks handed over, under other numbers. -/
import Derived.Test.YtiegfchaepbnbaaGreatDoorP10
namespace Go.Va
open Go Go.RowKit

section
variable (P : Program) (G : Nat → Option (List T))
def iterN (f : S → Tape → Option (Ex × S × Tape × List Prop)) : Nat → S → Tape → Option (Ex × S × Tape × List Prop)
  | 0, _, _ => none
  | m + 1, s, tp => match f s tp with
    | some (.normal, s', tp', ps) => match iterN f m s' tp' with
      | some (x, s3, tp'', qs) => some (x, s3, tp'', ps ++ qs)
      | none => none
    | r => r
def execN (rn : FuncId → List T → Tape → Option (List R × Tape × List Prop)) (fid nt n : Nat) : Code → S → Tape → Option (Ex × S × Tape × List Prop)
  | .skip, s, tp => some (.normal, s, tp, [])
  | .label _, s, tp => some (.normal, s, tp, [])
  | .region _ ops draw, s, tp => match regionX P G rn fid nt ops draw s tp with
    | some (s', tp', ps) => some (.normal, s', tp', ps)
    | none => none
  | .seq a b, s, tp => match execN rn fid nt n a s tp with
    | some (.normal, s', tp', ps) => match execN rn fid nt n b s' tp' with
      | some (x, s'', tp'', qs) => some (x, s'', tp'', ps ++ qs)
      | none => none
    | r => r
  | .cond c x y, s, tp => match ev G s.e c with
    | some (.t (.lit (.bool b))) => match tickB fid (slotOf c) tp with
      | (some d, tp') => match (if d then execN rn fid nt n x s tp' else execN rn fid nt n y s tp') with
        | some (z, s', tp'', ps) => some (z, s', tp'', (b = d) :: ps)
        | none => none
      | (none, tp') => if b then execN rn fid nt n x s tp' else execN rn fid nt n y s tp'
    | _ => none
  | .block id b, s, tp => match execN rn fid nt n b s tp with
    | some (.exit j, s', tp', ps) => if j = id then some (.normal, s', tp', ps) else some (.exit j, s', tp', ps)
    | r => r
  | .loop b, s, tp => iterN (execN rn fid nt n b) n s tp
  | .exit id, s, tp => some (.exit id, s, tp, [])
  | .ret, s, tp => some (.ret, s, tp, [])
  | _, _, _ => none

end
section
variable {P : Program} {G : Nat → Option (List T)} {nt : Nat}
/-- Of body 'c', what a state comes to: the blocks keep their numbers. -/
def ExecK (P : Program) (G : Nat → Option (List T)) (nt : Nat) (c : Code) (s : S) (x : Ex) (s' : S) : Prop :=
  ∀ (base : Nat) (w0 : Base) (ρ : Nat → Option Nat) (I : Nat → Prop) (a : Act) (w : World) (Q : Exit → Act → World → Prop), base ≤ w0.w.heap.size → SimS G base w0 nt ρ I s a w →
    (∀ ρ' I' a' w', SimS G base w0 nt ρ' I' s' a' w' → Q (exitOf x) a' w') → c.wp P Q a w
theorem ExecK.skip (s : S) : ExecK P G nt .skip s .normal s := fun _ _ _ _ _ _ _ _ hs hq => wp_skip (hq _ _ _ _ hs)
theorem ExecK.label (l : Nat) (s : S) : ExecK P G nt (.label l) s .normal s := fun _ _ _ _ _ _ _ _ hs hq => wp_label (hq _ _ _ _ hs)
theorem ExecK.exit (id : Nat) (s : S) : ExecK P G nt (.exit id) s (.exit id) s := fun _ _ _ _ _ _ _ _ hs hq => wp_exit (hq _ _ _ _ hs)
theorem ExecK.ret (s : S) : ExecK P G nt .ret s .ret s := fun _ _ _ _ _ _ _ _ hs hq => wp_ret (hq _ _ _ _ hs)
theorem ExecK.region (hm : P.follows .mixedOrders = true) {id : Nat} {ops : Array Oper} {draw : Bool} {s s' : S} (h : RegionR P G nt ops draw s s') : ExecK P G nt (.region id ops draw) s .normal s' :=
  fun _ _ _ _ _ _ _ hb hs hq => region_sound hm hb hs h hq
theorem ExecK.seq {x y : Code} {s s1 s' : S} {z : Ex} (h1 : ExecK P G nt x s .normal s1) (h2 : ExecK P G nt y s1 z s') : ExecK P G nt (.seq x y) s z s' :=
  fun base w0 ρ I a w Q hb hs hq => wp_seq (h1 base w0 ρ I a w _ hb hs fun ρ' I' a' w' hs' => h2 base w0 ρ' I' a' w' Q hb hs' hq)
theorem ExecK.seqOut {x y : Code} {s s' : S} {z : Ex} (hz : z ≠ .normal) (h1 : ExecK P G nt x s z s') : ExecK P G nt (.seq x y) s z s' :=
  fun base w0 ρ I a w Q hb hs hq => wp_seq (h1 base w0 ρ I a w _ hb hs fun ρ' I' a' w' hs' => by
    have := hq ρ' I' a' w' hs'
    cases z with
    | normal => exact (hz rfl).elim
    | exit id => exact this
    | ret => exact this)
theorem ExecK.cond {c : Operand} {x y : Code} {s s' : S} {z : Ex} {b : Bool} (hc : ev G s.e c = some (.t (.lit (.bool b)))) (h : ExecK P G nt (if b then x else y) s z s') : ExecK P G nt (.cond c x y) s z s' :=
  fun base w0 ρ I a w Q hb hs hq => by
    have hv := ev_sound hs.1 hc
    simp only [RC, RT] at hv
    exact wp_cond (t := b) hv.1 (h base w0 ρ I a w Q hb hs hq)
theorem ExecK.blockIn {id : Nat} {b : Code} {s s' : S} (h : ExecK P G nt b s (.exit id) s') : ExecK P G nt (.block id b) s .normal s' :=
  fun base w0 ρ I a w Q hb hs hq => wp_block (h base w0 ρ I a w _ hb hs fun ρ' I' a' w' hs' => by
    show (if id = id then Q .normal a' w' else Q (.exit id) a' w')
    rw [if_pos rfl]
    exact hq ρ' I' a' w' hs')
theorem ExecK.block {id : Nat} {b : Code} {s s' : S} {z : Ex} (hz : z ≠ .exit id) (h : ExecK P G nt b s z s') : ExecK P G nt (.block id b) s z s' :=
  fun base w0 ρ I a w Q hb hs hq => wp_block (h base w0 ρ I a w _ hb hs fun ρ' I' a' w' hs' => by
    have := hq ρ' I' a' w' hs'
    cases z with
    | normal => exact this
    | exit j =>
      show (if j = id then Q .normal a' w' else Q (.exit j) a' w')
      rw [if_neg fun e => hz (by rw [e])]
      exact this
    | ret => exact this)

inductive RoundsK (P : Program) (G : Nat → Option (List T)) (nt : Nat) (b : Code) : S → Ex → S → Prop
  | out {s s' : S} {z : Ex} (hz : z ≠ .normal) (h : ExecK P G nt b s z s') : RoundsK P G nt b s z s'
  | round {s s1 s' : S} {z : Ex} (h : ExecK P G nt b s .normal s1) (r : RoundsK P G nt b s1 z s') : RoundsK P G nt b s z s'
theorem RoundsK.count {b : Code} {s s' : S} {z : Ex} (h : RoundsK P G nt b s z s') : ∃ n, ∀ (base : Nat) (w0 : Base) (ρ : Nat → Option Nat) (I : Nat → Prop) (a : Act) (w : World) (Q : Exit → Act → World → Prop), base ≤ w0.w.heap.size → SimS G base w0 nt ρ I s a w →
    (∀ ρ' I' a' w', SimS G base w0 nt ρ' I' s' a' w' → Q (exitOf z) a' w') → Code.rounds P b Q n a w := by
  induction h with
  | @out s s' z hz h =>
    refine ⟨1, fun base w0 ρ I a w Q hb hs hq => ?_⟩
    rw [rounds_succ]
    refine h base w0 ρ I a w _ hb hs fun ρ' I' a' w' hs' => ?_
    have := hq ρ' I' a' w' hs'
    cases z with
    | normal => exact (hz rfl).elim
    | exit id => exact this
    | ret => exact this
  | @round s s1 s' z h hr ih =>
    obtain ⟨n, hn⟩ := ih
    refine ⟨n + 1, fun base w0 ρ I a w Q hb hs hq => ?_⟩
    rw [rounds_succ]
    exact h base w0 ρ I a w _ hb hs fun ρ' I' a' w' hs' => hn base w0 ρ' I' a' w' Q hb hs' hq
theorem RoundsK.loop {b : Code} {s s' : S} {z : Ex} (h : RoundsK P G nt b s z s') : ExecK P G nt (.loop b) s z s' := by
  obtain ⟨n, hn⟩ := h.count
  exact fun base w0 ρ I a w Q hb hs hq => wp_loop_rounds n (hn base w0 ρ I a w Q hb hs hq)
theorem iterN_sound {f : S → Tape → Option (Ex × S × Tape × List Prop)} {c : Code} (hf : ∀ s tp x s' tp' ps, f s tp = some (x, s', tp', ps) → All ps → ExecK P G nt c s x s') :
    ∀ (m : Nat) (s : S) (tp : Tape) (x : Ex) (s' : S) (tp' : Tape) (ps : List Prop), iterN f m s tp = some (x, s', tp', ps) → All ps → RoundsK P G nt c s x s'
  | 0, s, tp, x, s', tp', ps, h, hp => by simp [iterN] at h
  | m + 1, s, tp, x, s', tp', ps, h, hp => by
    simp only [iterN] at h
    split at h
    · rename_i s1 tp1 qs h1
      split at h
      · rename_i y s3 tp2 rs h3
        simp only [Option.some.injEq, Prod.mk.injEq] at h
        obtain ⟨rfl, rfl, rfl, rfl⟩ := h
        obtain ⟨p1, p2⟩ := hp.append
        exact .round (hf _ _ _ _ _ _ h1 p1) (iterN_sound hf m s1 _ _ _ _ _ h3 p2)
      · cases h
    · rename_i hne
      refine .out ?_ (hf _ _ _ _ _ _ h hp)
      rintro rfl
      exact hne _ _ _ h

theorem execN_sound (hm : P.follows .mixedOrders = true) {rn : FuncId → List T → Tape → Option (List R × Tape × List Prop)} (hrn : SndX P G rn) (fid n : Nat) :
    ∀ (c : Code) (s : S) (tp : Tape) (x : Ex) (s' : S) (tp' : Tape) (ps : List Prop), execN P G rn fid nt n c s tp = some (x, s', tp', ps) → All ps → ExecK P G nt c s x s' := by
  intro c
  induction c with
  | skip =>
    intro s tp x s' tp' ps h hp
    simp only [execN, Option.some.injEq, Prod.mk.injEq] at h
    obtain ⟨rfl, rfl, _⟩ := h
    exact .skip _
  | label l =>
    intro s tp x s' tp' ps h hp
    simp only [execN, Option.some.injEq, Prod.mk.injEq] at h
    obtain ⟨rfl, rfl, _⟩ := h
    exact .label _ _
  | region id ops draw =>
    intro s tp x s' tp' ps h hp
    simp only [execN] at h
    split at h
    · rename_i s1 tp1 qs hr
      simp only [Option.some.injEq, Prod.mk.injEq] at h
      obtain ⟨rfl, rfl, rfl, rfl⟩ := h
      exact .region hm (regionX_RegionR hrn hr hp)
    · cases h
  | seq x y ihx ihy =>
    intro s tp z s' tp' ps h hp
    simp only [execN] at h
    split at h
    · rename_i s1 tp1 qs h1
      split at h
      · rename_i z' s2 tp2 rs h2
        simp only [Option.some.injEq, Prod.mk.injEq] at h
        obtain ⟨rfl, rfl, rfl, rfl⟩ := h
        obtain ⟨p1, p2⟩ := hp.append
        exact .seq (ihx _ _ _ _ _ _ h1 p1) (ihy _ _ _ _ _ _ h2 p2)
      · cases h
    · rename_i hne
      refine .seqOut ?_ (ihx _ _ _ _ _ _ h hp)
      rintro rfl
      exact hne _ _ _ h
  | cond c x y ihx ihy =>
    intro s tp z s' tp' ps h hp
    simp only [execN] at h
    split at h
    · rename_i b hc
      split at h
      · rename_i d tp1 _
        split at h
        · rename_i z' s2 tp2 qs h2
          simp only [Option.some.injEq, Prod.mk.injEq] at h
          obtain ⟨rfl, rfl, rfl, rfl⟩ := h
          have hbd : b = d := hp _ List.mem_cons_self
          have hp' : All qs := fun p hq => hp p (List.mem_cons_of_mem _ hq)
          subst hbd
          refine .cond hc ?_
          cases b with
          | true => exact ihx _ _ _ _ _ _ h2 hp'
          | false => exact ihy _ _ _ _ _ _ h2 hp'
        · cases h
      · refine .cond hc ?_
        cases b with
        | true => exact ihx _ _ _ _ _ _ h hp
        | false => exact ihy _ _ _ _ _ _ h hp
    · cases h
  | block id b ih =>
    intro s tp z s' tp' ps h hp
    simp only [execN] at h
    split at h
    · rename_i j s1 tp1 qs h1
      split at h <;> cases h
      · rename_i hj
        subst hj
        exact .blockIn (ih _ _ _ _ _ _ h1 hp)
      · rename_i hj
        exact .block (fun e => by cases e; exact hj rfl) (ih _ _ _ _ _ _ h1 hp)
    · rename_i hne
      refine .block ?_ (ih _ _ _ _ _ _ h hp)
      rintro rfl
      exact hne _ _ _ _ h
  | loop b ih =>
    intro s tp z s' tp' ps h hp
    simp only [execN] at h
    exact (iterN_sound (fun s tp x s' tp' ps h hp => ih s tp x s' tp' ps h hp) n s tp z s' tp' ps h hp).loop
  | exit id =>
    intro s tp x s' tp' ps h hp
    simp only [execN, Option.some.injEq, Prod.mk.injEq] at h
    obtain ⟨rfl, rfl, _⟩ := h
    exact .exit _ _
  | ret =>
    intro s tp x s' tp' ps h hp
    simp only [execN, Option.some.injEq, Prod.mk.injEq] at h
    obtain ⟨rfl, rfl, _⟩ := h
    exact .ret _
  | _ => intro s tp x s' tp' ps h; simp only [execN] at h; cases h


/-! ## The contract -/
def initC : List C → Nat → Env
  | [], _ => []
  | c :: r, k => (k, c) :: initC r (k + 1)
theorem initC_look : ∀ (l : List C) (j k : Nat) (c : C), look (initC l j) k = some c → j ≤ k ∧ l[k - j]? = some c
  | [], j, k, c, h => by simp [initC, look] at h
  | x :: r, j, k, c, h => by
    simp only [initC, look] at h
    split at h
    · rename_i hk
      cases h
      subst hk
      exact ⟨Nat.le_refl _, by simp⟩
    · obtain ⟨h1, h2⟩ := initC_look r (j + 1) k c h
      refine ⟨by omega, ?_⟩
      rw [show k - j = (k - (j + 1)) + 1 by omega, List.getElem?_cons_succ]
      exact h2
def enumB : List Blk → Nat → List (Nat × Blk)
  | [], _ => []
  | k :: r, i => (i, k) :: enumB r (i + 1)
theorem hOf_enum : ∀ (l : List Blk) (i b : Nat), hOf (enumB l i) b = if i ≤ b then l[b - i]? else none
  | [], i, b => by simp [enumB, hOf]
  | k :: r, i, b => by
    simp only [enumB, hOf, hOf_enum r (i + 1) b]
    by_cases h : b = i
    · subst h; simp
    · rw [if_neg h]
      by_cases h2 : i ≤ b
      · rw [if_pos (by omega), if_pos h2, show b - i = (b - (i + 1)) + 1 by omega, List.getElem?_cons_succ]
      · rw [if_neg (by omega), if_neg h2]
def cutB (k0 : Nat) (opq : List Nat) (b : Nat) (k : Blk) : Blk := if opq.contains b then k else renB (List.range k0) k
def cutL (k0 : Nat) (opq : List Nat) (s : S) : Nat → Nat → Option (List Blk)
  | 0, _ => some []
  | n + 1, i => match s.h i, cutL k0 opq s n (i + 1) with
    | some k, some l => some (cutB k0 opq i k :: l)
    | _, _ => none
/-- What is handed back: a result, and the caller's blocks. -/
def retO (P : Program) (fn : Func) (opq : List Nat) (k0 : Nat) (s : S) : Option (C × List Blk × List (Option Blk)) :=
  match resC P s.e s.h fn.results.toList, cutL k0 opq s k0 0 with
  | some cs, some l => some (retC (cs.map (renC (List.range k0) deep)), l, opq.map s.h)
  | _, _ => none
theorem cutL_get {k0 : Nat} {opq : List Nat} {s : S} : ∀ {n i : Nat} {l : List Blk}, cutL k0 opq s n i = some l → ∀ (j : Nat) (k : Blk), l[j]? = some k → ∃ k1, s.h (i + j) = some k1 ∧ k = cutB k0 opq (i + j) k1
  | 0, i, l, h, j, k, hk => by simp only [cutL, Option.some.injEq] at h; subst h; simp at hk
  | n + 1, i, l, h, j, k, hk => by
    simp only [cutL] at h
    split at h
    · rename_i k1 l1 h1 h2
      cases h
      cases j with
      | zero => simp at hk; exact ⟨k1, h1, hk.symm⟩
      | succ j =>
        simp at hk
        obtain ⟨k2, g1, g2⟩ := cutL_get h2 j k hk
        rw [show i + 1 + j = i + (j + 1) by omega] at g1 g2
        exact ⟨k2, g1, g2⟩
    · cases h
theorem cutL_len {k0 : Nat} {opq : List Nat} {s : S} : ∀ {n i : Nat} {l : List Blk}, cutL k0 opq s n i = some l → l.length = n
  | 0, i, l, h => by simp only [cutL, Option.some.injEq] at h; subst h; rfl
  | n + 1, i, l, h => by
    simp only [cutL] at h
    split at h
    · rename_i k1 l1 h1 h2
      cases h
      simp [cutL_len h2]
    · cases h
theorem holdsO_of_exec {f : FuncId} {fn : Func} {c : Code} {args : List C} {hin hout : List Blk} {opq : List Nat} {x : Ex} {s' : S} {res : C} {bs : List (Option Blk)} (hfn : P.funcs[f]? = some fn) (hc : fn.body = some c) (hlen : args.length ≤ fn.ntmps)
    (h : ExecK P G fn.ntmps c ⟨initC args 0, hin.map some⟩ x s') (hx : x = .normal ∨ x = .ret) (hr : retO P fn opq hin.length s' = some (res, hout, bs)) (ho : ∀ k, some k ∈ bs → OpqB k ∨ OpqM k) : HoldsO P G f args (enumB hin 0) res (enumB hout 0) := by
  intro w I ρ vs hsim hnone hargs
  have hin_h : ∀ b, hOf (enumB hin 0) b = hin[b]? := fun b => by rw [hOf_enum]; simp
  have hout_h : ∀ b, hOf (enumB hout 0) b = hout[b]? := fun b => by rw [hOf_enum]; simp
  have hfun : (S.mk (initC args 0) (hin.map some)).h = hOf (enumB hin 0) := by
    funext b
    rw [hin_h]
    simp only [S.h, List.getElem?_map]
    cases hin[b]? <;> rfl
  refine calls_of_wp hfn hc ?_
  have hvl := hargs.length
  have hst : SimS G w.heap.size ⟨w, I, ρ⟩ fn.ntmps ρ I ⟨initC args 0, hin.map some⟩ { tmps := vs.toArray ++ Array.replicate (fn.ntmps - vs.toArray.size) undef, defers := [] } w := by
    refine ⟨⟨by rw [hfun]; exact hsim, rfl, ?_, fun k c hk => ?_⟩, fun b hb => hnone b (by rw [hin_h, List.getElem?_eq_none (by simpa using hb)])⟩
    · simp [hvl]; omega
    · obtain ⟨_, h2⟩ := initC_look args 0 k c hk
      rw [Nat.sub_zero] at h2
      obtain ⟨v, v1, v2⟩ := hargs.get h2
      have hk' := (List.getElem?_eq_some_iff.1 v1).1
      have : (vs.toArray ++ Array.replicate (fn.ntmps - vs.toArray.size) undef).getD k undef = v := by
        simp only [Array.getD_eq_getD_getElem?]
        rw [Array.getElem?_append_left (by simpa using hk')]
        simp [v1]
      rw [this]
      exact v2
  unfold retO at hr
  split at hr
  case h_2 => cases hr
  rename_i cs l hcs hcut
  simp only [Option.some.injEq, Prod.mk.injEq] at hr
  obtain ⟨rfl, rfl, rfl⟩ := hr
  have hl := cutL_len hcut
  refine h w.heap.size ⟨w, I, ρ⟩ _ _ _ _ _ (Nat.le_refl _) hst fun ρ' I' a' w' hs' => ?_
  have hre : reρ (List.range hin.length) ρ' = ρ := by
    funext b
    unfold reρ
    by_cases hb : b < hin.length
    · rw [List.getElem?_range hb]
      obtain ⟨r, t1, _⟩ := hsim.blk b hin[b] (by rw [hin_h]; exact List.getElem?_eq_getElem hb)
      simp only [Option.bind_some]
      rw [t1]
      exact hs'.1.mem.keep b r t1
    · rw [List.getElem?_eq_none (by simpa using hb)]
      exact (hnone b (by rw [hin_h, List.getElem?_eq_none (by omega)])).symm
  have fin : a'.defers = [] ∧ ∃ v, (results fn a'.tmps).run P w' = .ok v w' ∧ ∃ v' I', Ending.returned v = .returned v' ∧ SimH G w.heap.size ⟨w, I, ρ⟩ ρ I' (hOf (enumB l 0)) w' ∧ RC ρ w'.heap I' (retC (cs.map (renC (List.range hin.length) deep))) v' := by
    obtain ⟨outs, g1, g2⟩ := resC_sound hs'.1 hcs
    refine ⟨hs'.1.defers, retV outs, ?_, retV outs, I', rfl, ?_, ?_⟩
    · unfold results
      rw [Array.mapM_eq_mapM_toList]
      have g1' : (fn.results.toList.mapM fun r => (match r with | .tmp t => pure (a'.tmps.getD t undef) | .cell x t => (do loadVar t (← asAddr (a'.tmps.getD x undef))) : Sem Value)).run P w' = .ok outs w' := g1
      simp only [Sem.run_bind, Sem.run_map]
      erw [g1']
      simp only [Result.andThen_ok, Sem.run_pure]
      unfold retV
      rcases outs with _ | ⟨v, _ | ⟨v', vs⟩⟩ <;> simp
    · have hm := hs'.1.mem
      have hget : ∀ b k, hOf (enumB l 0) b = some k → ∃ k1, s'.h b = some k1 ∧ k = cutB hin.length opq b k1 := fun b k hk => by
        rw [hOf_enum] at hk
        simp only [Nat.zero_le, if_true, Nat.sub_zero] at hk
        have := cutL_get hcut b k hk
        simpa using this
      have hlt : ∀ b k, hOf (enumB l 0) b = some k → b < hin.length := fun b k hk => by
        rw [hOf_enum] at hk
        simp only [Nat.zero_le, if_true, Nat.sub_zero] at hk
        have := (List.getElem?_eq_some_iff.1 hk).1
        omega
      have hfz : ∀ b k1, isFz (cutB hin.length opq b k1) = isFz k1 := fun b k1 => by
        unfold cutB
        split
        · rfl
        · exact renB_fz _ _
      have hρ : ∀ b, b < hin.length → ρ' b = ρ b := fun b hb => by
        have := congrFun hre b
        unfold reρ at this
        rw [List.getElem?_range hb] at this
        exact this
      refine ⟨hm.below, hm.ilt, hm.glob, fun b k hk => ?_, fun b b' k k' r q1 q2 q3 q4 => ?_, fun b r hr => hm.rlt b r (hm.keep b r hr), hm.io, fun b r hr => hr⟩
      · obtain ⟨k1, e1, rfl⟩ := hget b k hk
        obtain ⟨r, t1, t2, t3, t4, t5⟩ := hm.blk b k1 e1
        refine ⟨r, by rw [← hρ b (hlt b _ hk)]; exact t1, t2, ?_, by rw [hfz]; exact t4, by rw [hfz]; exact t5⟩
        unfold cutB
        split
        · rename_i hq
          exact opqM_any (ho k1 (List.mem_map.2 ⟨b, by simpa using hq, e1⟩)) t3
        · have := renB_sound (List.range hin.length) t3
          rw [hre] at this
          exact this
      · obtain ⟨k1, e1, _⟩ := hget b k q1
        obtain ⟨k2, e2, _⟩ := hget b' k' q2
        exact hm.inj b b' k1 k2 r e1 e2 (hm.keep _ _ q3) (hm.keep _ _ q4)
    · refine retC_sound ?_
      have : RCs (reρ (List.range hin.length) ρ') w'.heap I' (cs.map (renC (List.range hin.length) deep)) outs := by
        refine RCs.of_get (by simp [g2.length]) fun i c v hi hv => ?_
        rw [List.getElem?_map] at hi
        cases hci : cs[i]? with
        | none => simp [hci] at hi
        | some c0 =>
          simp only [hci, Option.map_some, Option.some.injEq] at hi
          subst hi
          exact renC_sound _ _ _ _ (g2.get' hci hv)
      rw [hre] at this
      exact this
  rcases hx with rfl | rfl
  · exact fin
  · exact fin
def runNB (P : Program) (G : Nat → Option (List T)) (rn : FuncId → List T → Tape → Option (List R × Tape × List Prop)) (f : Nat) (fn : Func) (opq : List Nat) (n : Nat) (c : Code) (args : List C) (hin : List Blk) (tp : Tape) : Option (C × List Blk × List (Option Blk) × Tape × List Prop) :=
  match execN P G rn f fn.ntmps n c ⟨initC args 0, hin.map some⟩ tp with
  | some (x, s', tp', ps) => if x = .normal ∨ x = .ret then match retO P fn opq hin.length s' with
    | some (r, l, bs) => some (r, l, bs, tp', ps)
    | none => none
    else none
  | none => none
theorem holdsO_runN (hm : P.follows .mixedOrders = true) {rn : FuncId → List T → Tape → Option (List R × Tape × List Prop)} (hrn : SndX P G rn) {f : FuncId} {fn : Func} {c : Code} {args : List C} {hin hout : List Blk} {opq : List Nat} {res : C} {bs : List (Option Blk)} {n : Nat} {tp tp' : Tape} {ps : List Prop}
    (hfn : P.funcs[f]? = some fn) (hc : fn.body = some c) (hlen : args.length ≤ fn.ntmps) (h : runNB P G rn f fn opq n c args hin tp = some (res, hout, bs, tp', ps)) (ho : ∀ k, some k ∈ bs → OpqB k ∨ OpqM k) (hp : All ps) : HoldsO P G f args (enumB hin 0) res (enumB hout 0) := by
  unfold runNB at h
  split at h
  · rename_i x s' tp1 ps1 hex
    split at h
    · rename_i hx
      split at h
      · rename_i r l bs1 hr
        simp only [Option.some.injEq, Prod.mk.injEq] at h
        obtain ⟨rfl, rfl, rfl, rfl, rfl⟩ := h
        exact holdsO_of_exec hfn hc hlen (execN_sound hm hrn f n _ _ _ _ _ _ _ hex hp) hx hr ho
      · cases h
    · cases h
  · cases h
end
end Go.Va
namespace Go.Va
open Go Go.RowKit
mutual
def mvC (f : Nat → Nat) : C → C
  | .bad => .bad
  | .t x => .t x
  | .loc b off => .loc (f b) off
  | .osl b n sz => .osl (f b) n sz
  | .omp b => .omp (f b)
  | .agg cs => .agg (mvCs f cs)
  | .tup cs => .tup (mvCs f cs)
  | .fn g a b => .fn g (mvCs f a) (mvCs f b)
def mvCs (f : Nat → Nat) : List C → List C
  | [] => []
  | c :: cs => mvC f c :: mvCs f cs
end
def mvB (f : Nat → Nat) : Blk → Blk
  | .cells cs fz => .cells (mvCs f cs) fz
  | .map ks vs fz => .map ks (mvCs f vs) fz
  | k => k
def mvL (f : Nat → Nat) (l : List (Nat × Blk)) : List (Nat × Blk) := l.map fun x => (f x.1, mvB f x.2)
theorem mvCs_t (f : Nat → Nat) : ∀ xs : List T, mvCs f (xs.map .t) = xs.map .t
  | [] => rfl
  | x :: xs => by simp only [List.map_cons, mvCs, mvC, mvCs_t f xs]
theorem mvCs_length (f : Nat → Nat) : ∀ cs : List C, (mvCs f cs).length = cs.length
  | [] => rfl
  | c :: cs => by simp [mvCs, mvCs_length f cs]
section
variable {ρ : Nat → Option Nat} {h : Array Obj} {I : Nat → Prop} {f : Nat → Nat}
mutual
theorem mvC_rc : ∀ (c : C) (v : Value), RC ρ h I (mvC f c) v ↔ RC (fun b => ρ (f b)) h I c v
  | .bad, _ => by simp only [mvC, RC]
  | .t x, v => by simp only [mvC, RC]
  | .loc b off, v => by simp only [mvC, RC]
  | .osl b n sz, v => by simp only [mvC, RC]
  | .omp b, v => by simp only [mvC, RC]
  | .agg cs, v => by
    simp only [mvC, RC]
    exact ⟨fun ⟨vs, h1, h2⟩ => ⟨vs, h1, (mvCs_rc cs _).1 h2⟩, fun ⟨vs, h1, h2⟩ => ⟨vs, h1, (mvCs_rc cs _).2 h2⟩⟩
  | .tup cs, v => by
    simp only [mvC, RC]
    exact ⟨fun ⟨vs, h1, h2⟩ => ⟨vs, h1, (mvCs_rc cs _).1 h2⟩, fun ⟨vs, h1, h2⟩ => ⟨vs, h1, (mvCs_rc cs _).2 h2⟩⟩
  | .fn g a b, v => by
    simp only [mvC, RC]
    exact ⟨fun ⟨x, y, h1, h2, h3⟩ => ⟨x, y, h1, (mvCs_rc a _).1 h2, (mvCs_rc b _).1 h3⟩, fun ⟨x, y, h1, h2, h3⟩ => ⟨x, y, h1, (mvCs_rc a _).2 h2, (mvCs_rc b _).2 h3⟩⟩
theorem mvCs_rc : ∀ (cs : List C) (vs : List Value), RCs ρ h I (mvCs f cs) vs ↔ RCs (fun b => ρ (f b)) h I cs vs
  | [], _ => by simp only [mvCs, RCs]
  | c :: cs, vs => by
    simp only [mvCs, RCs]
    exact ⟨fun ⟨v, r, h1, h2, h3⟩ => ⟨v, r, h1, (mvC_rc c v).1 h2, (mvCs_rc cs r).1 h3⟩, fun ⟨v, r, h1, h2, h3⟩ => ⟨v, r, h1, (mvC_rc c v).2 h2, (mvCs_rc cs r).2 h3⟩⟩
end
theorem mvB_rb {r : Nat} : ∀ (k : Blk), RB ρ h I r (mvB f k) ↔ RB (fun b => ρ (f b)) h I r k
  | .cells cs fz => by
    simp only [mvB, RB, mvCs_length, mvCs_rc]
  | .map ks vs fz => by
    simp only [mvB, RB, mvCs_rc]
  | .iter td cu => by simp only [mvB, RB]
  | .dead => by simp only [mvB, RB]
theorem mvB_fz : ∀ k : Blk, isFz (mvB f k) = isFz k
  | .cells .. | .map .. | .iter .. | .dead => rfl
theorem hOf_mv (hf : ∀ a b, f a = f b → a = b) : ∀ (l : List (Nat × Blk)) (b : Nat), hOf (mvL f l) (f b) = (hOf l b).map (mvB f)
  | [], b => rfl
  | (c, k) :: l, b => by
    have ih := hOf_mv hf l b
    unfold mvL at ih
    simp only [mvL, List.map_cons, hOf]
    by_cases hb : b = c
    · subst hb; simp
    · rw [if_neg hb, if_neg (fun e => hb (hf _ _ e))]
      exact ih
theorem hOf_mv_inv : ∀ (l : List (Nat × Blk)) (b : Nat) (k : Blk), hOf (mvL f l) b = some k → ∃ b0, b = f b0 ∧ b0 ∈ l.map (·.1)
  | [], b, k, h => by simp [mvL, hOf] at h
  | (c, q) :: l, b, k, h => by
    simp only [mvL, List.map_cons, hOf] at h
    split at h
    · exact ⟨c, ‹_›, by simp⟩
    · obtain ⟨b0, h1, h2⟩ := hOf_mv_inv l b k h
      exact ⟨b0, h1, by simp only [List.map_cons, List.mem_cons]; exact .inr h2⟩
end
theorem HoldsO.ren {P : Program} {G : Nat → Option (List T)} {g : FuncId} {args : List C} {hin hout : List (Nat × Blk)} {res : C} (f : Nat → Nat) (hf : ∀ a b, f a = f b → a = b) (h : HoldsO P G g args hin res hout) :
    HoldsO P G g (mvCs f args) (mvL f hin) (mvC f res) (mvL f hout) := by
  intro w I ρ vs hs hnone hargs
  have hsim : SimH G w.heap.size ⟨w, I, fun b => ρ (f b)⟩ (fun b => ρ (f b)) I (hOf hin) w := by
    refine ⟨BelowX.refl _ _ _, hs.ilt, hs.glob, fun b k hk => ?_, fun b b' k k' r q1 q2 q3 q4 => ?_, fun b r hr => hs.rlt _ r hr, ⟨fun b hb => hb, fun b hb => .inl hb⟩, fun b r hr => hr⟩
    · obtain ⟨r, t1, t2, t3, t4, t5⟩ := hs.blk (f b) (mvB f k) (by rw [hOf_mv hf, hk]; rfl)
      exact ⟨r, t1, .inr ⟨b, t1⟩, (mvB_rb k).1 t3, by rw [mvB_fz] at t4; exact t4, by rw [mvB_fz] at t5; exact t5⟩
    · exact hf _ _ (hs.inj (f b) (f b') (mvB f k) (mvB f k') r (by rw [hOf_mv hf, q1]; rfl) (by rw [hOf_mv hf, q2]; rfl) q3 q4)
  refine (h w I (fun b => ρ (f b)) vs hsim (fun b hb => hnone (f b) (by rw [hOf_mv hf, hb]; rfl)) ((mvCs_rc _ _).1 hargs)).mono ?_
  rintro en w' ⟨v, I', rfl, hs', hv⟩
  refine ⟨v, I', rfl, ?_, (mvC_rc _ _).2 hv⟩
  have hown : ∀ r, OwnR (fun b => ρ (f b)) w.heap.size r → OwnR ρ w.heap.size r := fun r hr => hr.elim .inl fun ⟨b, hb⟩ => .inr ⟨f b, hb⟩
  refine ⟨⟨hs'.below.os, hs'.below.tape, hs'.below.output, hs'.below.size, fun k hk hn => hs'.below.block k hk fun b hb => hn (f b) hb, hs'.below.rows⟩, hs'.ilt, hs'.glob, fun b k hk => ?_, fun b b' k k' r q1 q2 q3 q4 => ?_, fun b r hr => Nat.lt_of_lt_of_le (hs.rlt b r hr) hs'.below.size, ⟨hs'.io.1, fun b hb => (hs'.io.2 b hb).imp id (hown b)⟩, fun b r hr => hr⟩
  · obtain ⟨b0, rfl, hb0⟩ := hOf_mv_inv _ _ _ hk
    obtain ⟨k0, hk0⟩ := hOf_some hb0
    rw [hOf_mv hf, hk0] at hk
    cases hk
    obtain ⟨r, t1, t2, t3, t4, t5⟩ := hs'.blk b0 k0 hk0
    exact ⟨r, t1, hown r t2, (mvB_rb k0).2 t3, by rw [mvB_fz]; exact t4, by rw [mvB_fz]; exact t5⟩
  · obtain ⟨b0, rfl, hb0⟩ := hOf_mv_inv _ _ _ q1
    obtain ⟨b1, rfl, hb1⟩ := hOf_mv_inv _ _ _ q2
    obtain ⟨k0, hk0⟩ := hOf_some hb0
    obtain ⟨k1, hk1⟩ := hOf_some hb1
    rw [hs'.inj b0 b1 k0 k1 r hk0 hk1 q3 q4]
/-- One block, wherever it is. -/
theorem HoldsO.shift {P : Program} {G : Nat → Option (List T)} {g : FuncId} {args : List C} {hin hout : List (Nat × Blk)} {res : C} (n : Nat) (h : HoldsO P G g args hin res hout) :
    HoldsO P G g (mvCs (n + ·) args) (mvL (n + ·) hin) (mvC (n + ·) res) (mvL (n + ·) hout) := h.ren (n + ·) fun _ _ h => Nat.add_left_cancel h
end Go.Va
