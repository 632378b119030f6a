/- A region that draws its order: the theorem. -/
import Derived.Test.YtaomebcmmjhplaaGreatDoorVa14
namespace Go.Va
open Go Go.RowKit

section
variable {P : Program} {G : Nat → Option (List T)} {base nt : Nat} {w0 : Base} {ops : Array Oper}

/-- What the draw's proof holds on to, 'listed' having come up. -/
structure Drawn (G : Nat → Option (List T)) (base nt : Nat) (w0 : Base) (ops : Array Oper) (recs : List Rc) (id : Nat) (s0 : (Nat → Option C) × (Nat → Option Blk)) (listed : Array Bool) (a : Act) (w : World) : Prop where
  size : listed.size = ops.size
  closed : Closed ops fun k => listed.getD k false = true
  sim : ∃ ρ I, Sim G base w0 nt ρ I (st (fun j => listed.getD j false) recs 0 s0).1 (st (fun j => listed.getD j false) recs 0 s0).2 a w ∧
    (∀ (i : Nat) o, ops[i]? = some o → listed.getD i true = false → ∀ b, id + total (ops.toList.take i) ≤ b → b < id + total (ops.toList.take i) + nalloc o → ρ b = none) ∧
    ∀ b, id + total ops.toList ≤ b → ρ b = none

/-- What is known of the region from its text and from the trace of the text's order. -/
structure Known (P : Program) (G : Nat → Option (List T)) (nt : Nat) (ops : Array Oper) (recs : List Rc) (id : Nat) (s0 : (Nat → Option C) × (Nat → Option Blk)) : Prop where
  len : recs.length = ops.size
  edges : ∀ (i : Nat) o, ops[i]? = some o → (∀ e, e ∈ o.after → Region.binds .any e = true → e.on < i) ∧ ∀ cs b, o.op ≠ .select cs b
  /-- two operations that no edge puts in order -/
  apart : ∀ (i j : Nat) x y, i < j → ops[i]? = some x → ops[j]? = some y → (∀ L, Closed ops L → (Deps L y) → L i) ∨ x.apart ops y = true
  free : ∀ (i j : Nat) y r r', i < j → ops[j]? = some y → recs[i]? = some r → recs[j]? = some r' → (∀ L, Closed ops L → (Deps L y) → L i) ∨
    ((∀ b, b ∈ r.sets.map (·.1) → b ∉ r'.sets.map (·.1) ∧ b ∉ r'.fp) ∧ ∀ b, b ∈ r'.sets.map (·.1) → b ∉ r.fp)
  does : ∀ (i : Nat) o, ops[i]? = some o → ∃ r, recs[i]? = some r ∧ r.dst = o.dst ∧
    Does P G nt ops o (id + total (ops.toList.take i)) (st (fun j => decide (j < i)) recs 0 s0).1 (st (fun j => decide (j < i)) recs 0 s0).2 ⟨r.val, r.sets, r.fp⟩

theorem getD_tf {listed : Array Bool} {i : Nat} (h : i < listed.size) : listed.getD i true = listed.getD i false := by simp [h]

theorem updH_same : ∀ (sets : List (Nat × Option Blk)) (H H' : Nat → Option Blk) (b : Nat), H b = H' b → updH H sets b = updH H' sets b
  | [], H, H', b, h => h
  | (c, k) :: r, H, H', b, h => by
    simp only [updH]
    exact updH_same r _ _ b (by simp only [h])

/-- The operation that has come up does what it does in the order of the text. -/
theorem Known.now {recs : List Rc} {id : Nat} {s0 : (Nat → Option C) × (Nat → Option Blk)} (kn : Known P G nt ops recs id s0) {listed : Array Bool} (hsz : listed.size = ops.size)
    (hcl : Closed ops fun k => listed.getD k false = true) {i : Nat} {o : Oper} {r : Rc} (ho : ops[i]? = some o) (hr : recs[i]? = some r) (hun : listed.getD i true = false) (hdep : Deps (fun k => listed.getD k false = true) o) :
    (∀ (j : Nat) r', i < j → recs[j]? = some r' → listed.getD j false = true → Clear r r') ∧
    (Does P G nt ops o (id + total (ops.toList.take i)) (st (fun j => decide (j < i)) recs 0 s0).1 (st (fun j => decide (j < i)) recs 0 s0).2 ⟨r.val, r.sets, r.fp⟩ →
     Does P G nt ops o (id + total (ops.toList.take i)) (st (fun j => listed.getD j false) recs 0 s0).1 (st (fun j => listed.getD j false) recs 0 s0).2 ⟨r.val, r.sets, r.fp⟩) := by
  have hilt : i < ops.size := (Array.getElem?_eq_some_iff.1 ho).1
  have hunf : listed.getD i false = false := by rw [← getD_tf (by omega)]; exact hun
  have hdst : ∀ (j : Nat) r' y, recs[j]? = some r' → ops[j]? = some y → r'.dst = y.dst := fun j r' y h1 h2 => by
    obtain ⟨r2, q1, q2, _⟩ := kn.does j y h2
    have := eq_of_some h1 q1
    subst this
    exact q2
  have hopj : ∀ (j : Nat) r', recs[j]? = some r' → ∃ y, ops[j]? = some y := fun j r' h => by
    have : j < ops.size := by rw [← kn.len]; exact (List.getElem?_eq_some_iff.1 h).1
    exact ⟨ops[j], by simp [this]⟩
  -- no later one that has come up waits for this one
  have later : ∀ (j : Nat) y, ops[j]? = some y → listed.getD j false = true → ¬ ∀ L, Closed ops L → (Deps L y) → L i := fun j y hy hl hall => by
    have := hall (fun k => listed.getD k false = true) hcl (hcl j y hy hl)
    rw [hunf] at this
    cases this
  -- every earlier one that has not come up is none that this one waits for
  have earlier : ∀ (j : Nat), listed.getD j false = false → ¬ ∀ L, Closed ops L → (Deps L o) → L j := fun j hl hall => by
    have := hall (fun k => listed.getD k false = true) hcl hdep
    rw [hl] at this
    cases this
  have hap1 : ∀ (j : Nat) y, i < j → ops[j]? = some y → listed.getD j false = true → o.apart ops y = true := fun j y hij hy hl => (kn.apart i j o y hij ho hy).resolve_left (later j y hy hl)
  have hap2 : ∀ (j : Nat) y, j < i → ops[j]? = some y → listed.getD j false = false → y.apart ops o = true := fun j y hij hy hl => (kn.apart j i y o hij hy ho).resolve_left (earlier j hl)
  have hfr1 : ∀ (j : Nat) y r', i < j → ops[j]? = some y → recs[j]? = some r' → listed.getD j false = true → ((∀ b, b ∈ r.sets.map (·.1) → b ∉ r'.sets.map (·.1) ∧ b ∉ r'.fp) ∧ ∀ b, b ∈ r'.sets.map (·.1) → b ∉ r.fp) :=
    fun j y r' hij hy hr' hl => (kn.free i j y r r' hij hy hr hr').resolve_left (later j y hy hl)
  have hfr2 : ∀ (j : Nat) r', j < i → recs[j]? = some r' → listed.getD j false = false → ((∀ b, b ∈ r'.sets.map (·.1) → b ∉ r.sets.map (·.1) ∧ b ∉ r.fp) ∧ ∀ b, b ∈ r.sets.map (·.1) → b ∉ r'.fp) :=
    fun j r' hij hr' hl => (kn.free j i o r' r hij ho hr' hr).resolve_left (earlier j hl)
  have hro : r.dst = o.dst := hdst i r o hr ho
  refine ⟨fun j r' hij hr' hl => ?_, fun hdo => ?_⟩
  · obtain ⟨y, hy⟩ := hopj j r' hr'
    obtain ⟨a1, a2, a3⟩ := Oper.apart_spec (hap1 j y hij hy hl)
    refine ⟨fun d hd => ?_, fun b hb => ((hfr1 j y r' hij hy hr' hl).1 b hb).1⟩
    rw [hdst j r' y hr' hy]
    exact a2 d (hro ▸ hd)
  · -- the temporaries that it looks at
    have hE : ∀ t, t ∈ o.looksAt ops → (st (fun j => listed.getD j false) recs 0 s0).1 t = (st (fun j => decide (j < i)) recs 0 s0).1 t := fun t ht => by
      refine st_e recs 0 _ _ (fun j r' hr' hd => ?_) rfl
      obtain ⟨y, hy⟩ := hopj j r' hr'
      have hyd : y.dst = some t := (hdst j r' y hr' hy) ▸ hd
      simp only [Nat.zero_add]
      rcases Nat.lt_trichotomy j i with h | h | h
      · cases hl : listed.getD j false with
        | true => simp [h]
        | false => exact ((Oper.apart_spec (hap2 j y h hy hl)).1 t hyd ht).elim
      · subst h; rw [hunf]; simp
      · cases hl : listed.getD j false with
        | false => simp; omega
        | true => exact ((Oper.apart_spec (hap1 j y h hy hl)).2.2 t hyd ht).elim
    have hH : ∀ b, b ∈ r.fp → (st (fun j => listed.getD j false) recs 0 s0).2 b = (st (fun j => decide (j < i)) recs 0 s0).2 b := fun b hb => by
      refine st_h recs 0 _ _ (fun j r' hr' hd => ?_) rfl
      simp only [Nat.zero_add]
      rcases Nat.lt_trichotomy j i with h | h | h
      · cases hl : listed.getD j false with
        | true => simp [h]
        | false => exact (((hfr2 j r' h hr' hl).1 b hd).2 hb).elim
      · subst h; rw [hunf]; simp
      · cases hl : listed.getD j false with
        | false => simp; omega
        | true =>
          obtain ⟨y, hy⟩ := hopj j r' hr'
          exact ((hfr1 j y r' h hy hr' hl).2 b hd hb).elim
    have hev : ∀ x, x ∈ o.op.operands → ev G (st (fun j => listed.getD j false) recs 0 s0).1 x = ev G (st (fun j => decide (j < i)) recs 0 s0).1 x := fun x hx => by
      cases x with
      | tmp t => exact hE t (List.mem_append_left _ (List.mem_filterMap.2 ⟨.tmp t, by simpa using hx, rfl⟩))
      | _ => rfl
    have hwant : wantC ops (st (fun j => listed.getD j false) recs 0 s0).1 o = wantC ops (st (fun j => decide (j < i)) recs 0 s0).1 o := by
      unfold wantC
      cases hg : o.guard with
      | none => rfl
      | some q =>
        obtain ⟨g, want⟩ := q
        simp only
        have : yieldC ops (st (fun j => listed.getD j false) recs 0 s0).1 g = yieldC ops (st (fun j => decide (j < i)) recs 0 s0).1 g := by
          unfold yieldC
          cases hd : (ops[g]?).bind (·.dst) with
          | none => rfl
          | some d =>
            simp only
            rw [hE d (List.mem_append_right _ (by simp [hg, hd]))]
        rw [this]
    obtain ⟨hd, hw⟩ := hdo
    refine ⟨hd, ?_⟩
    rcases hw with ⟨hw, rc, eff0, hrc, hop, hfr⟩ | ⟨hw, he⟩
    · have hfp : ∀ b, b ∈ eff0.fp → b ∈ r.fp := fun b hb => by
        rcases hfr with h | ⟨t, ms, _, h⟩
        · have : r.fp = eff0.fp := by rw [← h]
          rw [this]; exact hb
        · have : r.fp = eff0.fp ++ ms := congrArg Eff.fp h
          rw [this]; exact List.mem_append.2 (.inl hb)
      refine .inl ⟨by rw [hwant]; exact hw, rc, eff0, hrc, opc_local hop (fun x hx => hev x hx) fun b hb => (hH b (hfp b hb)).symm, ?_⟩
      rcases hfr with h | ⟨t, ms, hf, h⟩
      · exact .inl h
      · have hms : ∀ b, b ∈ ms → b ∈ r.fp := fun b hb => by
          have : r.fp = eff0.fp ++ ms := congrArg Eff.fp h
          rw [this]; exact List.mem_append.2 (.inr hb)
        have hag : ∀ b, b ∈ ms → updH (st (fun j => decide (j < i)) recs 0 s0).2 eff0.sets b = updH (st (fun j => listed.getD j false) recs 0 s0).2 eff0.sets b := fun b hb => updH_same _ _ _ b (hH b (hms b hb)).symm
        refine .inr ⟨t, ms, frz_local deep _ t ms hf hag, ?_⟩
        rw [marks_local ms hag]
        exact h
    · exact .inr ⟨by rw [hwant]; exact hw, he⟩

theorem cnt_set {listed : Array Bool} {i : Nat} (hi : listed.getD i true = false) : ∀ (l : List Nat), l.Nodup → i ∈ l → (l.countP fun j => !(listed.setIfInBounds i true).getD j true) + 1 = l.countP fun j => !listed.getD j true
  | [], _, h => by cases h
  | j :: l, hn, h => by
    simp only [List.nodup_cons] at hn
    have hilt : i < listed.size := by
      rcases Nat.lt_or_ge i listed.size with h' | h'
      · exact h'
      · simp [Array.getElem?_eq_none h'] at hi
    by_cases hij : i = j
    · subst hij
      have h1 : (l.countP fun j => !(listed.setIfInBounds i true).getD j true) = l.countP fun j => !listed.getD j true := by
        apply List.countP_congr
        intro x hx
        have : i ≠ x := fun e => hn.1 (e ▸ hx)
        rw [getD_set_ne true this]
      have h2 : (listed.setIfInBounds i true).getD i true = true := by simp
      rw [List.countP_cons, List.countP_cons, h1, h2, hi]
      simp
    · have hmem : i ∈ l := by
        rcases List.mem_cons.1 h with h | h
        · exact (hij h).elim
        · exact h
      have := cnt_set hi l hn.2 hmem
      rw [List.countP_cons, List.countP_cons, getD_set_ne true hij]
      omega

theorem any_sound (hb : base ≤ w0.w.heap.size) {recs : List Rc} {id : Nat} {s0 : (Nat → Option C) × (Nat → Option Blk)} (kn : Known P G nt ops recs id s0) {Q : Exit → Act → World → Prop}
    (hq : ∀ ρ I a w, Sim G base w0 nt ρ I (recs.foldl (fun s r => U r s) s0).1 (recs.foldl (fun s r => U r s) s0).2 a w → (∀ b, id + total ops.toList ≤ b → ρ b = none) → Q .normal a w) :
    ∀ (fuel : Nat) (listed : Array Bool) (a : Act) (w : World), Drawn G base nt w0 ops recs id s0 listed a w → ((List.range ops.size).countP fun j => !listed.getD j true) = fuel → wpAny P .any ops Q fuel listed a w := by
  intro fuel
  have fin : ∀ (listed : Array Bool) (a : Act) (w : World), Drawn G base nt w0 ops recs id s0 listed a w → (∀ i, i < ops.size → listed.getD i true = true) → Q .normal a w := fun listed a w hd hall => by
    obtain ⟨ρ, I, hs, _, hf⟩ := hd.sim
    have : st (fun j => listed.getD j false) recs 0 s0 = recs.foldl (fun s r => U r s) s0 := by
      rw [← st_all recs 0, st_same (L' := fun _ => true) recs 0 s0]
      intro i hi
      rw [kn.len] at hi
      simp only [Nat.zero_add]
      rw [← getD_tf (by rw [hd.size]; exact hi)]
      exact hall i hi
    rw [this] at hs
    exact hq ρ I a w hs hf
  induction fuel with
  | zero =>
    intro listed a w hd hc
    have hall : ∀ i, i < ops.size → listed.getD i true = true := fun i hi => by
      have := List.countP_eq_zero.1 hc i (List.mem_range.2 hi)
      simpa using this
    refine ⟨?_, fin listed a w hd hall⟩
    rw [List.eq_nil_iff_forall_not_mem]
    intro i hi
    obtain ⟨h1, o, ho, _⟩ := mem_ready.1 hi
    rw [hall i (Array.getElem?_eq_some_iff.1 ho).1] at h1
    cases h1
  | succ fuel ih =>
    intro listed a w hd hc
    refine ⟨fun h0 => ?_, fun i hi => ?_⟩
    · -- something may always come up
      exfalso
      have key : ∀ n, n ≤ ops.size → ∀ i, i < n → listed.getD i true = true := by
        intro n
        induction n with
        | zero => intro _ i hi; omega
        | succ n ihn =>
          intro hn i hi
          by_cases hin : i < n
          · exact ihn (by omega) i hin
          · have hie : i = n := by omega
            subst hie
            cases hl : listed.getD i true with
            | true => rfl
            | false =>
              exfalso
              have ho : ops[i]? = some ops[i] := by simp [show i < ops.size by omega]
              have : i ∈ Region.ready .any ops listed := mem_ready.2 ⟨hl, ops[i], ho, fun e he hbi => by
                have hlt := (kn.edges i _ ho).1 e he hbi
                have := ihn (by omega) e.on hlt
                rw [← getD_tf (by rw [hd.size]; omega)]
                exact this⟩
              rw [h0] at this
              cases this
      have hz : ((List.range ops.size).countP fun j => !listed.getD j true) = 0 := by
        rw [List.countP_eq_zero]
        intro i hi
        rw [key ops.size (Nat.le_refl _) i (List.mem_range.1 hi)]
        simp
      omega
    · obtain ⟨hun, o, ho, hdep⟩ := mem_ready.1 hi
      have hilt : i < ops.size := (Array.getElem?_eq_some_iff.1 ho).1
      obtain ⟨ρ, I, hs, hf1, hf2⟩ := hd.sim
      obtain ⟨r, hr, hrd, hdo⟩ := kn.does i o ho
      obtain ⟨hclear, hnow⟩ := kn.now hd.size hd.closed ho hr hun (fun e he hbi => hdep e he hbi)
      have hunf : listed.getD i false = false := by rw [← getD_tf (by rw [hd.size]; omega)]; exact hun
      refine does_sound hs hb ho (hf1 i o ho hun) (hnow hdo) fun v ρ' I' w' hs' hr' hout => ?_
      refine ih _ _ _ ⟨by simp [hd.size], ?_, ρ', I', ?_, ?_, ?_⟩ ?_
      · intro k y hy hk e he hbi
        by_cases hki : i = k
        · subst hki
          have := eq_of_some ho hy
          subst this
          exact getD_set_true (hdep e he hbi)
        · rw [getD_set_ne false hki] at hk
          exact getD_set_true (hd.closed k y hy hk e he hbi)
      · have e1 : st (fun j => (listed.setIfInBounds i true).getD j false) recs 0 s0 = U r (st (fun j => listed.getD j false) recs 0 s0) := by
          have := st_insert (L := fun j => listed.getD j false) (r := r) i recs 0 s0 hr (by simpa using hunf) (fun j r' hj hr' hl => hclear j r' hj hr' (by simpa using hl))
          rw [← this]
          refine st_same recs 0 s0 fun j hj => ?_
          simp only [Nat.zero_add, upL]
          by_cases hji : j = i
          · subst hji
            have : j < listed.size := by rw [hd.size]; exact hilt
            simp [this]
          · rw [if_neg hji, getD_set_ne false (Ne.symm hji)]
        rw [e1]
        simp only [U, hrd]
        exact hs'
      · intro j y hy hl b hb1 hb2
        have hji : i ≠ j := fun e => by
          subst e
          have : i < listed.size := by rw [hd.size]; exact hilt
          simp [this] at hl
        rw [getD_set_ne true hji] at hl
        rw [hout b ?_]
        · exact hf1 j y hy hl b hb1 hb2
        · rintro ⟨h1, h2⟩
          rcases Nat.lt_or_gt_of_ne hji with h | h
          · have q1 := total_take_succ (l := ops.toList) (i := i) (o := o) (by simpa using ho)
            have q2 := total_take_le ops.toList (i := i + 1) (j := j) h
            omega
          · have q1 := total_take_succ (l := ops.toList) (i := j) (o := y) (by simpa using hy)
            have q2 := total_take_le ops.toList (i := j + 1) (j := i) h
            omega
      · intro b hb1
        rw [hout b ?_]
        · exact hf2 b hb1
        · rintro ⟨h1, h2⟩
          have q1 := total_take_succ (l := ops.toList) (i := i) (o := o) (by simpa using ho)
          have q2 := total_take_all ops.toList (i + 1)
          omega
      · have := cnt_set hun (List.range ops.size) List.nodup_range (List.mem_range.2 hilt)
        omega

theorem region_sound (hm : P.follows .mixedOrders = true) (hb : base ≤ w0.w.heap.size) {s s' : S} {rid : Nat} {draw : Bool} {Q : Exit → Act → World → Prop} {ρ : Nat → Option Nat} {I : Nat → Prop} {a : Act} {w : World}
    (hs : SimS G base w0 nt ρ I s a w) (h : RegionR P G nt ops draw s s') (hq : ∀ ρ' I' a' w', SimS G base w0 nt ρ' I' s' a' w' → Q .normal a' w') : (Code.region rid ops draw).wp P Q a w := by
  cases draw with
  | false => exact region_plain hb hs h hq
  | true =>
    obtain ⟨tr, hrun, hc⟩ := h
    simp only [Bool.not_true, Bool.false_or, Bool.and_eq_true, drawOk] at hc
    obtain ⟨⟨hc1, hc2⟩, hc3⟩ := hc
    obtain ⟨recs, g1, g2, g3, g4, g5⟩ := runO_recs _ _ _ _ _ hrun
    have hsz : recs.length = ops.size := by simpa using g1
    have hmask : ∀ j i, (((masks ops.toList []).getD j 0).testBit i) = true → ∀ L, Closed ops L → (∀ o, ops[j]? = some o → Deps L o) → L i :=
      masks_sound ops.toList [] (fun j => by simp) (fun j i h => by simp at h)
    let s0 : (Nat → Option C) × (Nat → Option Blk) := ((S.mk s.env (s.heap ++ List.replicate (total ops.toList) none)).e, (S.mk s.env (s.heap ++ List.replicate (total ops.toList) none)).h)
    have kn : Known P G nt ops recs s.heap.length s0 := by
      refine ⟨hsz, fun i o ho => ?_, fun i j x y hij hx hy => ?_, fun i j y r r' hij hy hr hr' => ?_, fun i o ho => ?_⟩
      · have := edgesOk_spec ops.toList 0 hc1 i o (by simpa using ho)
        simpa using this
      · rcases apartAll_spec ops.toList 0 hc2 i j x y hij (by simpa using hx) (by simpa using hy) with h1 | h1
        · simp only [Nat.zero_add] at h1
          exact .inl fun L hL hd => hmask j i h1 L hL fun o ho => by rw [hy] at ho; cases ho; exact hd
        · exact .inr h1
      · have t1 : tr[i]? = some (r.sets.map (·.1), r.fp) := by rw [g2, List.getElem?_map, hr]; rfl
        have t2 : tr[j]? = some (r'.sets.map (·.1), r'.fp) := by rw [g2, List.getElem?_map, hr']; rfl
        rcases freeAll_spec tr 0 hc3 i j _ _ hij t1 t2 with h1 | h1
        · simp only [Nat.zero_add] at h1
          exact .inl fun L hL hd => hmask j i h1 L hL fun o ho => by rw [hy] at ho; cases ho; exact hd
        · exact .inr (meet_spec h1)
      · obtain ⟨r, q1, q2, q3⟩ := g5 i o (by simpa using ho)
        refine ⟨r, q1, q2, ?_⟩
        have e1 : st (fun j => decide (j < i)) recs 0 s0 = (recs.take i).foldl (fun s r => U r s) s0 := by
          have := st_pre i recs 0 s0
          simpa using this
        rw [e1]
        exact q3
    refine wp_region_any hm (any_sound hb kn (fun ρ' I' a' w' hs' hf => hq ρ' I' a' w' ⟨?_, fun b hb => hf b ?_⟩) ops.size _ a _ ?_ ?_)
    · have : (s'.e, s'.h) = recs.foldl (fun s r => U r s) s0 := g3
      rw [← this] at hs'
      exact hs'
    · simp only [List.length_append, List.length_replicate] at g4
      omega
    · have hnone : st (fun j => (Array.replicate ops.size false).getD j false) recs 0 s0 = s0 := by
        rw [st_same (L' := fun _ => false) recs 0 s0 (fun j _ => by simp only [Nat.zero_add]; rcases Nat.lt_or_ge j ops.size with h | h <;> simp [h]), st_none recs 0 s0 fun _ _ => trivial]
      refine ⟨by simp, fun k y hy hk => ?_, ρ, I, ?_, fun i o ho hl b hb1 hb2 => hs.2 b (by omega), fun b hb1 => hs.2 b (by omega)⟩
      · exfalso
        rcases Nat.lt_or_ge k ops.size with h | h <;> simp [h] at hk
      · rw [hnone]
        have e1 : (S.mk s.env (s.heap ++ List.replicate (total ops.toList) none)).h = s.h := heapF_pad _ _
        have hsd : Sim G base w0 nt ρ I s.e s.h a { w with drawn := w.drawn + 1 } := ⟨hs.1.mem.drew, hs.1.defers, hs.1.tm, hs.1.env⟩
        show Sim G base w0 nt ρ I s0.1 s0.2 a _
        have e2 : s0.2 = s.h := e1
        rw [e2]
        exact hsd
    · rw [List.countP_eq_length_filter]
      have : (List.range ops.size).filter (fun j => !(Array.replicate ops.size false).getD j true) = List.range ops.size := by
        rw [List.filter_eq_self]
        intro j hj
        have := List.mem_range.1 hj
        simp [this]
      rw [this]
      simp
end
end Go.Va
