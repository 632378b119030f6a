/- Calls, and every operation. -/
import Derived.Test.YtaomebcmmjhplaaGreatDoorVa9
namespace Go.Va
open Go Go.RowKit

/-- The results in memory: 'os': the blocks that nobody else holds. -/
def RR (h : Array Obj) (J : Nat → Prop) (base : Nat) : List R → List Value → List Nat → Prop
  | [], vs, os => vs = [] ∧ os = []
  | .t x :: rs, vs, os => ∃ v rest, vs = v :: rest ∧ RT h J x v ∧ RR h J base rs rest os
  | .osl cells n sz :: rs, vs, os => ∃ r cap c e rest os', vs = .slice (some ⟨r, 0, none⟩) n cap :: rest ∧ os = r :: os' ∧ n ≤ cap ∧ cap * sz ≤ c.size ∧ h[r]? = some (.cells c e (0, 0)) ∧ cells.length ≤ c.size ∧
      RTs h J cells (win c 0 cells.length) ∧ ones (win c 0 cells.length) ∧ base ≤ r ∧ ¬ J r ∧ RR h J base rs rest os'
  | .omp ks us :: rs, vs, os => ∃ r es clk l rest os', vs = .map (some r) :: rest ∧ os = r :: os' ∧ h[r]? = some (.map es clk) ∧ MapOf es clk l ∧ l.map (·.key) = ks ∧ RTs h J us (l.map (·.val)) ∧ base ≤ r ∧ ¬ J r ∧ RR h J base rs rest os'

def retV : List Value → Value
  | [v] => v
  | vs => .tuple vs.toArray

/-- THE CONTRACT: handed these trees, function f hands back these results, whatever memory it is called in; what was there is as it was. -/
def Holds (P : Program) (G : Nat → Option (List T)) (f : FuncId) (args : List T) (rs : List R) : Prop :=
  ∀ (w : World) (I : Nat → Prop) (vs : List Value), (∀ g cells, G g = some cells → RT w.heap I (.ptr cells 0) (.pointer (some ⟨g, 0, none⟩))) → (∀ b, I b → b < w.heap.size) → RTs w.heap I args vs →
    Calls P f vs.toArray w fun en w' => ∃ outs J os, en = .returned (retV outs) ∧ Below w.heap.size w w' ∧ (∀ b, I b → J b) ∧ (∀ b, J b → I b ∨ (w.heap.size ≤ b ∧ b < w'.heap.size)) ∧
      RR w'.heap J w.heap.size rs outs os ∧ os.Nodup

section
variable {P : Program} {G : Nat → Option (List T)} {base nt : Nat} {w0 : Base} {w : World} {ρ : Nat → Option Nat} {I : Nat → Prop} {e : Nat → Option C} {H : Nat → Option Blk} {a : Act}

theorem SimH.adopt (hs : SimH G base w0 ρ I H w) {id r : Nat} (hid : ρ id = none) (hr : ∀ b, ρ b ≠ some r) (hbr : base ≤ r) {k : Blk} (hfz : isFz k = false) (hI : ¬ I r) (hk : RB (upR ρ id r) w.heap I r k) :
    SimH G base w0 (upR ρ id r) I (updH H [(id, some k)]) w := by
  have hup := rho_alloc (ρ := ρ) (r := r) hid
  refine ⟨hs.below, hs.ilt, hs.glob, fun y ky hy => ?_, fun y1 y2 k1 k2 rr e1 e2 e3 e4 => ?_, fun y rr hy => ?_, hs.io⟩
  · simp only [updH] at hy
    by_cases hyi : y = id
    · subst hyi
      rw [if_pos rfl] at hy
      cases hy
      exact ⟨r, by simp [upR], hbr, hk, (fun h => by rw [hfz] at h; cases h), fun _ => hI⟩
    · rw [if_neg hyi] at hy
      obtain ⟨r', t1, t2, t3, t4⟩ := hs.blk y ky hy
      exact ⟨r', hup _ _ t1, t2, RB.mono (Ext.refl _ _) hup rfl t3, t4⟩
  · simp only [updH] at e1 e2
    unfold upR at e3 e4
    by_cases w1 : y1 = id <;> by_cases w2 : y2 = id
    · rw [w1, w2]
    · rw [if_pos w1] at e3
      rw [if_neg w2] at e4
      cases e3
      exact (hr _ e4).elim
    · rw [if_pos w2] at e4
      rw [if_neg w1] at e3
      cases e4
      exact (hr _ e3).elim
    · rw [if_neg w1] at e1 e3
      rw [if_neg w2] at e2 e4
      exact hs.inj y1 y2 k1 k2 rr e1 e2 e3 e4
  · unfold upR at hy
    split at hy
    · cases hy; exact hk.lt
    · exact hs.rlt y rr hy

theorem place_sound {wsz : Nat} : ∀ {rs : List R} {ρ : Nat → Option Nat} {H : Nat → Option Blk} {id hi id' : Nat} {outs : List Value} {os : List Nat} {cs : List C} {ss : List (Nat × Option Blk)},
    RR w.heap I wsz rs outs os → os.Nodup → SimH G base w0 ρ I H w → base ≤ wsz → (∀ o, o ∈ os → ∀ b, ρ b ≠ some o) → (∀ b, id ≤ b → b < hi → ρ b = none) → place rs id = (cs, ss, id') → id' ≤ hi →
    id ≤ id' ∧ ∃ ρ', (∀ b r, ρ b = some r → ρ' b = some r) ∧ (∀ b, ¬ (id ≤ b ∧ b < id') → ρ' b = ρ b) ∧ RCs ρ' w.heap I cs outs ∧ SimH G base w0 ρ' I (updH H ss) w
  | [], ρ, H, id, hi, id', outs, os, cs, ss, hr, hn, hs, hbw, ho, hf, hp, hle => by
    simp only [place, Prod.mk.injEq] at hp
    obtain ⟨rfl, rfl, rfl⟩ := hp
    simp only [RR] at hr
    obtain ⟨rfl, rfl⟩ := hr
    exact ⟨Nat.le_refl _, ρ, fun _ _ h => h, fun _ _ => rfl, by simp only [RCs], hs⟩
  | .t x :: rs, ρ, H, id, hi, id', outs, os, cs, ss, hr, hn, hs, hbw, ho, hf, hp, hle => by
    simp only [place, place1] at hp
    cases hq : place rs id with
    | mk cs1 q =>
      obtain ⟨ss1, id1⟩ := q
      simp only [hq, Prod.mk.injEq] at hp
      obtain ⟨rfl, rfl, rfl⟩ := hp
      simp only [RR] at hr
      obtain ⟨v, rest, rfl, h1, h2⟩ := hr
      obtain ⟨g0, ρ', g1, g2, g3, g4⟩ := place_sound h2 hn hs hbw ho hf hq hle
      exact ⟨g0, ρ', g1, g2, by simp only [RCs, RC]; exact ⟨v, rest, rfl, h1, g3⟩, by simpa using g4⟩
  | .osl cells n sz :: rs, ρ, H, id, hi, id', outs, os, cs, ss, hr, hn, hs, hbw, ho, hf, hp, hle => by
    simp only [place, place1] at hp
    cases hq : place rs (id + 1) with
    | mk cs1 q =>
      obtain ⟨ss1, id1⟩ := q
      simp only [hq, Prod.mk.injEq] at hp
      obtain ⟨rfl, rfl, rfl⟩ := hp
      simp only [RR] at hr
      obtain ⟨r, cap, c, el, rest, os', rfl, rfl, h1, h2, h3, h4, h5, h6, h7, h8, h9⟩ := hr
      simp only [List.nodup_cons] at hn
      have hge : id + 1 ≤ id1 := by
        have : ∀ (rs : List R) (k : Nat), k ≤ (place rs k).2.2 := fun rs => by
          induction rs with
          | nil => intro k; simp [place]
          | cons x rs ih => intro k; cases x <;> simp only [place, place1] <;> first | exact ih k | exact Nat.le_trans (Nat.le_succ k) (ih (k + 1))
        have := this rs (id + 1)
        rw [hq] at this
        exact this
      have hid : ρ id = none := hf id (Nat.le_refl _) (by omega)
      have hup := rho_alloc (ρ := ρ) (r := r) hid
      have hs1 := hs.adopt (id := id) (r := r) (k := .cells (cells.map .t) false) hid (ho r List.mem_cons_self) (by omega) rfl h8 (by
        simp only [RB]
        exact ⟨c, el, h3, by simpa using h4, by rw [List.length_map]; exact RCs.of_RTs h5, by rw [List.length_map]; exact h6⟩)
      obtain ⟨g0, ρ', g1, g2, g3, g4⟩ := place_sound h9 hn.2 hs1 hbw (fun o ho' b hb => by
        unfold upR at hb
        split at hb
        · cases hb; exact hn.1 ho'
        · exact ho o (List.mem_cons_of_mem _ ho') b hb) (fun b hb1 hb2 => by
        unfold upR
        rw [if_neg (by omega)]
        exact hf b (by omega) hb2) hq hle
      refine ⟨by omega, ρ', fun b x hx => g1 _ _ (hup _ _ hx), fun b hb => ?_, ?_, by rw [List.singleton_append]; simp only [updH] at g4 ⊢; exact g4⟩
      · rw [g2 b (by omega)]
        unfold upR
        rw [if_neg]
        rintro rfl
        exact hb ⟨Nat.le_refl _, by omega⟩
      · simp only [RCs, RC]
        exact ⟨_, rest, rfl, ⟨r, cap, c, el, (0, 0), g1 id r (by simp [upR]), rfl, h1, h3, h2⟩, g3⟩
  | .omp ks us :: rs, ρ, H, id, hi, id', outs, os, cs, ss, hr, hn, hs, hbw, ho, hf, hp, hle => by
    simp only [place, place1] at hp
    cases hq : place rs (id + 1) with
    | mk cs1 q =>
      obtain ⟨ss1, id1⟩ := q
      simp only [hq, Prod.mk.injEq] at hp
      obtain ⟨rfl, rfl, rfl⟩ := hp
      simp only [RR] at hr
      obtain ⟨r, es, clk, l, rest, os', rfl, rfl, h3, hl, h4, h5, h7, h8, h9⟩ := hr
      simp only [List.nodup_cons] at hn
      have hge : id + 1 ≤ id1 := by
        have : ∀ (rs : List R) (k : Nat), k ≤ (place rs k).2.2 := fun rs => by
          induction rs with
          | nil => intro k; simp [place]
          | cons x rs ih => intro k; cases x <;> simp only [place, place1] <;> first | exact ih k | exact Nat.le_trans (Nat.le_succ k) (ih (k + 1))
        have := this rs (id + 1)
        rw [hq] at this
        exact this
      have hid : ρ id = none := hf id (Nat.le_refl _) (by omega)
      have hup := rho_alloc (ρ := ρ) (r := r) hid
      have hs1 := hs.adopt (id := id) (r := r) (k := .map ks (us.map .t) false) hid (ho r List.mem_cons_self) (by omega) rfl h8 (by
        simp only [RB]
        exact ⟨es, clk, l, h3, hl, h4, RCs.of_RTs h5⟩)
      obtain ⟨g0, ρ', g1, g2, g3, g4⟩ := place_sound h9 hn.2 hs1 hbw (fun o ho' b hb => by
        unfold upR at hb
        split at hb
        · cases hb; exact hn.1 ho'
        · exact ho o (List.mem_cons_of_mem _ ho') b hb) (fun b hb1 hb2 => by
        unfold upR
        rw [if_neg (by omega)]
        exact hf b (by omega) hb2) hq hle
      refine ⟨by omega, ρ', fun b x hx => g1 _ _ (hup _ _ hx), fun b hb => ?_, ?_, by rw [List.singleton_append]; simp only [updH] at g4 ⊢; exact g4⟩
      · rw [g2 b (by omega)]
        unfold upR
        rw [if_neg]
        rintro rfl
        exact hb ⟨Nat.le_refl _, by omega⟩
      · simp only [RCs, RC]
        exact ⟨_, rest, rfl, ⟨r, g1 id r (by simp [upR]), rfl⟩, g3⟩

theorem retC_sound {h : Array Obj} {cs : List C} {vs : List Value} (hr : RCs ρ h I cs vs) : RC ρ h I (retC cs) (retV vs) := by
  match cs, vs, hr with
  | [], vs, hr => simp only [RCs] at hr; subst hr; simp only [retC, retV, RC]; exact ⟨_, rfl, by simp only [RCs]⟩
  | [c], vs, hr =>
    simp only [RCs] at hr
    obtain ⟨v, rest, rfl, h1, rfl⟩ := hr
    exact h1
  | c :: d :: cs, vs, hr =>
    have hr0 := hr
    simp only [RCs] at hr
    obtain ⟨v, rest, rfl, h1, u, rest', rfl, h2, h3⟩ := hr
    simp only [retC, retV, RC]
    exact ⟨_, rfl, by simpa using hr0⟩

/-- A call under its contract, all that is handed over made immutable. -/
theorem callF_sound {rc : FuncId → List T → Option (List R)} (hrc : ∀ f args rs, rc f args = some rs → Holds P G f args rs) (hs : SimH G base w0 ρ I H w) (hb : base ≤ w0.w.heap.size) {id : Nat} (hid : ∀ b, id ≤ b → b < id + many → ρ b = none)
    {f : FuncId} {args : List C} {vs : List Value} {eff : Eff} (hargs : RCs ρ w.heap I args vs) (h : callF P rc H id f args = some eff) :
    (callFunc f vs.toArray).run P w = .ok (.enter f vs.toArray) w ∧
    Calls P f vs.toArray w fun en w' => ∃ v, en = .returned v ∧ ∃ ρ' I', Step G base w0 ρ I H w id (id + many) eff v ρ' I' w' := by
  unfold callF at h
  split at h
  case h_2 => cases h
  rename_i fn hfn
  split at h
  case isTrue => cases h
  rename_i hnm
  split at h
  case h_2 => cases h
  rename_i ts ms hf
  split at h
  case h_2 => cases h
  rename_i rs hrs
  cases hp : place rs id with
  | mk cs q =>
    obtain ⟨ss, id'⟩ := q
    simp only [hp] at h
    split at h
    case isFalse => cases h
    rename_i hle
    cases h
    simp only [Bool.or_eq_true, not_or, Bool.not_eq_true] at hnm
    have e1 : ¬ fn.name = "runtime.NumGoroutine" := by simpa using hnm.1
    have e2 : ¬ fn.body = none := by intro h; rw [h] at hnm; simp at hnm
    refine ⟨by simp [callFunc, hfn, e1, e2], ?_⟩
    obtain ⟨d1, _, d2⟩ := frzL_sound (frz_sound hs deep) args ts ms hf
    have hs1 := hs.marks d1
    refine (hrc f ts rs hrs w (J ρ I ms) vs hs1.glob hs1.ilt (d2 vs hargs)).mono ?_
    rintro en w' ⟨outs, K, os, rfl, hbel, hIK, hK, hRR, hnd⟩
    refine ⟨_, rfl, ?_⟩
    have hold : ∀ b, b < w.heap.size → w'.heap[b]? = w.heap[b]? := fun b hb => hbel.block b hb
    have hx : Ext (J ρ I ms) K w.heap w'.heap := ⟨fun b hb => hold b (hs1.ilt b hb), hIK, fun b c el fr hb => ⟨c, el, fr, by rw [hold b (Array.getElem?_eq_some_iff.1 hb).1]; exact hb, Nat.le_refl _⟩⟩
    have hs2 : SimH G base w0 ρ K (updH H (marks H ms)) w' := by
      refine ⟨hs1.below.trans (hbel.mono (hs.base_le hb)), fun b hb => ?_, fun g cells hg => RT.mono hx _ _ (hs1.glob g cells hg), fun b k hk => ?_, hs1.inj, fun b r hr => Nat.lt_of_lt_of_le (hs1.rlt b r hr) hbel.size, fun b hb => hIK _ (hs1.io.1 b hb), fun b hb => ?_⟩
      · rcases hK b hb with h | h
        · exact Nat.lt_of_lt_of_le (hs1.ilt b h) hbel.size
        · exact h.2
      · obtain ⟨r, t1, t2, t3, t4, t5⟩ := hs1.blk b k hk
        refine ⟨r, t1, t2, RB.mono hx (fun _ _ h => h) (hold r t3.lt) t3, fun h => hIK _ (t4 h), fun h hKr => ?_⟩
        rcases hK r hKr with h' | h'
        · exact t5 h h'
        · have := t3.lt; omega
      · rcases hK b hb with h | h
        · exact hs1.io.2 b h
        · have := hs.base_le ‹base ≤ w0.w.heap.size›; exact .inr (by omega)
    have hos : ∀ o, o ∈ os → ∀ b, ρ b ≠ some o := by
      have : ∀ (rs : List R) (outs : List Value) (os : List Nat), RR w'.heap K w.heap.size rs outs os → ∀ o, o ∈ os → w.heap.size ≤ o := by
        intro rs
        induction rs with
        | nil => intro outs os h o ho; simp only [RR] at h; rw [h.2] at ho; cases ho
        | cons x rs ih =>
          intro outs os h o ho
          cases x with
          | t x => simp only [RR] at h; obtain ⟨_, rest, _, _, h2⟩ := h; exact ih _ _ h2 o ho
          | osl cells n sz =>
            simp only [RR] at h
            obtain ⟨r, cap, c, el, rest, os', _, rfl, _, _, _, _, _, _, h7, _, h9⟩ := h
            rcases List.mem_cons.1 ho with rfl | ho
            · exact h7
            · exact ih _ _ h9 o ho
          | omp ks us =>
            simp only [RR] at h
            obtain ⟨r, es, clk, l, rest, os', _, rfl, _, _, _, _, h7, _, h9⟩ := h
            rcases List.mem_cons.1 ho with rfl | ho
            · exact h7
            · exact ih _ _ h9 o ho
      intro o ho b hb
      have h1 := this rs outs os hRR o ho
      have h2 := hs.rlt b o hb
      omega
    obtain ⟨g0, ρ', g1, g2, g3, g4⟩ := place_sound hRR hnd hs2 (hs.base_le hb) hos hid hp hle
    refine ⟨ρ', K, ⟨(ext_J w ms).trans hx, g1, fun b hb => g2 b (by omega), retC_sound g3, ?_⟩⟩
    rw [updH_append]
    exact g4

theorem method_sound {t : TypeId} {name : String} {f : FuncId} (h : methodF P t name = some f) (v : Value) (n : Nat) : (method (n + 1) t v name).run P w = .ok (f, v) w := by
  unfold methodF at h
  split at h
  case h_2 => cases h
  rename_i i d hi hd
  split at h
  case h_2 => cases h
  rename_i m hm
  split at h
  case isFalse => cases h
  rename_i hpath
  have hinfo : (typeInfo t).run P w = .ok i w := by simp [typeInfo, hi]
  have hpl : m.path.toList = [] := by simpa using hpath
  cases hfu : m.func with
  | none => simp [hfu] at h
  | some q =>
    obtain ⟨f', pr⟩ := q
    cases pr <;> cases d <;> simp only [hfu, Option.some.injEq, reduceCtorEq] at h <;> subst h <;> simp [method, hinfo, hm, hpl, follow, hfu, receiverAt, run_underlying hd, Place.get]

/-- What an operation that calls leaves. -/
def CallRes (P : Program) (o : Oper) (a : Act) (w : World) (K : Value → World → Prop) : Prop :=
  ∃ f args, (execOp a.eval o).run P w = .ok (.enter f args) w ∧ Calls P f args w fun en w' => ∃ v, en = .returned v ∧ K v w'

theorem callV_sound {rc : FuncId → List T → Option (List R)} (hrc : ∀ f args rs, rc f args = some rs → Holds P G f args rs) (hs : SimH G base w0 ρ I H w) (hb : base ≤ w0.w.heap.size) {id : Nat} (hid : ∀ b, id ≤ b → b < id + many → ρ b = none)
    {fn : Fn} {all capt : List C} {vs us : List Value} {eff : Eff} (h1 : RCs ρ w.heap I all vs) (h2 : RCs ρ w.heap I capt us) (h : callV P rc H id fn all capt = some eff) :
    ∃ f args, (invoke (.fn fn us.toArray) vs.toArray).run P w = .ok (.enter f args) w ∧ Calls P f args w fun en w' => ∃ v, en = .returned v ∧ ∃ ρ' I', Step G base w0 ρ I H w id (id + many) eff v ρ' I' w' := by
  unfold callV at h
  split at h
  · rename_i f
    obtain ⟨g1, g2⟩ := callF_sound hrc hs hb hid (h1.append h2) h
    refine ⟨f, (vs ++ us).toArray, ?_, g2⟩
    simp only [invoke]
    rw [← g1]
    simp
  · rename_i name
    split at h
    case h_2 => cases h
    rename_i t x rest
    split at h
    case h_2 => cases h
    rename_i f hf
    simp only [RCs, RC, RT] at h1
    obtain ⟨v, rest', rfl, ⟨u, rfl, hu⟩, hr⟩ := h1
    have hargs : RCs ρ w.heap I (.t x :: rest) (u :: rest') := by simp only [RCs, RC]; exact ⟨u, rest', rfl, hu, hr⟩
    obtain ⟨g1, g2⟩ := callF_sound hrc hs hb hid hargs h
    refine ⟨f, (u :: rest').toArray, ?_, g2⟩
    have hm := method_sound (w := w) hf u (P.types.size + 99)
    have hm' : (method (P.types.size + Made.depth) t u name).run P w = .ok (f, u) w := hm
    simp only [invoke, callMethod]
    simp only [List.getElem?_toArray, List.getElem?_cons_zero, Sem.run_bind, run_program, Result.andThen_ok, hm']
    rw [← g1]
    congr 1
    simp
  · cases h
end
end Go.Va
