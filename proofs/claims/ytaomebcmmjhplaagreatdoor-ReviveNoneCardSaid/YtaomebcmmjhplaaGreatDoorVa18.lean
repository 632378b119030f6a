/- From the arguments as data to trees, and a law's row out of its contract. -/
import Derived.Test.YtaomebcmmjhplaaGreatDoorVa17
import Derived.ProofKit
import Derived.OpenShut
import Derived.Deep.Slices
namespace Go.Va
open Go Go.RowKit Go.ChangeShapes Go.WideShapes

/-! ## Typed trees -/
def fieldsOk (cellsOf : TypeId → Nat) (op : TypeId → Bool) : List Field → Nat → Nat → Bool
  | [], off, total => off == total
  | f :: r, off, total => f.offset == off && op f.type && fieldsOk cellsOf op r (off + cellsOf f.type) total
/-- Data without an address in it. -/
def opens (P : Program) : Nat → TypeId → Bool
  | 0, _ => false
  | n + 1, t => match P.underlying t with
    | some .bool | some (.int _) | some .string => true
    | some (.struct fs) => fieldsOk P.cellsOf (opens P n) fs.toList 0 (P.cellsOf t)
    | some (.array len e) => P.cellsOf t == len * P.cellsOf e && opens P n e
    | _ => false
def TyFs (ty : TypeId → List T → Prop) : List Field → List T → Prop
  | [], ts => ts = []
  | f :: r, ts => ∃ a b, ts = a ++ b ∧ ty f.type a ∧ TyFs ty r b
def TyRep (ty : List T → Prop) : Nat → List T → Prop
  | 0, ts => ts = []
  | n + 1, ts => ∃ a b, ts = a ++ b ∧ ty a ∧ TyRep ty n b
/-- The cells of a value of a type. -/
def Ty (P : Program) : Nat → TypeId → List T → Prop
  | 0, _, _ => False
  | n + 1, t, ts => match P.underlying t with
    | some .bool => ∃ b, ts = [.lit (.bool b)]
    | some (.int k) => ∃ i, ts = [.lit (.int k i)] ∧ (Lit.int k i).wf = true
    | some .string => ∃ s : ByteArray, ts = [.lit (.string s)] ∧ s.size ≤ maxLen
    | some (.struct fs) => TyFs (Ty P n) fs.toList ts
    | some (.array len e) => TyRep (Ty P n e) len ts
    | _ => False
def opensA (P : Program) (n : Nat) (t : TypeId) : Bool :=
  match P.underlying t with
  | some (.slice e) => opens P n e
  | _ => opens P n t
/-- An argument of a type. -/
def TyA (P : Program) (n : Nat) (t : TypeId) (x : T) : Prop :=
  match P.underlying t with
  | some (.slice e) => x = .lit (.slice none 0 0) ∨ ∃ cells len, x = .sl cells len false ∧ TyRep (Ty P n e) len cells ∧ len ≤ maxLen
  | some (.struct _) | some (.array _ _) => ∃ ts, x = .agg ts ∧ Ty P n t ts
  | _ => Ty P n t [x]
def TyArgs (P : Program) (n : Nat) : List TypeId → List T → Prop
  | [], ts => ts = []
  | t :: r, ts => ∃ x xs, ts = x :: xs ∧ TyA P n t x ∧ TyArgs P n r xs

section
variable {H : Type} {enc : TypeId × Value → H} {P : Program} {w : World} {base : Nat} {spare : Nat → Bool} {held : Bool} {h : Array Obj} {I : Nat → Prop}

theorem ones_append {a b : List Value} (ha : ones a) (hb : ones b) : ones (a ++ b) := fun v hv => (List.mem_append.1 hv).elim (ha v) (hb v)

theorem fields_open {m n : Nat} {cs : List Value} (ih : ∀ {t : TypeId} {cs : List Value} {x : DataW H × List MemPlace}, opens P n t = true → DataW.trod enc P w base spare held m t cs = some x → ∃ ts, RTs h I ts cs ∧ ones cs ∧ Ty P n t ts) :
    ∀ (fs : List Field) (off : Nat), (∀ f, f ∈ fs → ∃ x, DataW.trod enc P w base spare held m f.type ((cs.drop f.offset).take (P.cellsOf f.type)) = some x) → fieldsOk P.cellsOf (opens P n) fs off cs.length = true →
      ∃ ts, RTs h I ts (cs.drop off) ∧ ones (cs.drop off) ∧ TyFs (Ty P n) fs ts
  | [], off, hx, hf => by
    simp only [fieldsOk, beq_iff_eq] at hf
    subst hf
    exact ⟨[], by simp [RTs], (by intro v hv; simp at hv), rfl⟩
  | f :: r, off, hx, hf => by
    simp only [fieldsOk, Bool.and_eq_true, beq_iff_eq] at hf
    obtain ⟨⟨h1, h2⟩, h3⟩ := hf
    obtain ⟨x, hx1⟩ := hx f List.mem_cons_self
    obtain ⟨ts, t1, t2, t3⟩ := ih h2 hx1
    obtain ⟨us, u1, u2, u3⟩ := fields_open ih r (off + P.cellsOf f.type) (fun f' hf' => hx f' (List.mem_cons_of_mem _ hf')) h3
    rw [h1] at t1 t2
    have e : cs.drop off = (cs.drop off).take (P.cellsOf f.type) ++ cs.drop (off + P.cellsOf f.type) := by rw [← List.drop_drop, List.take_append_drop]
    rw [e]
    exact ⟨ts ++ us, t1.append u1, ones_append t2 u2, ts, us, rfl, t3, u3⟩

theorem rep_open {m n sz : Nat} {e : TypeId} {cs : List Value} (ih : ∀ {cs : List Value} {x : DataW H × List MemPlace}, DataW.trod enc P w base spare held m e cs = some x → ∃ ts, RTs h I ts cs ∧ ones cs ∧ Ty P n e ts) :
    ∀ (k i : Nat), (∀ j, i ≤ j → j < i + k → ∃ x, DataW.trod enc P w base spare held m e ((cs.drop (j * sz)).take sz) = some x) →
      ∃ ts, RTs h I ts ((cs.drop (i * sz)).take (k * sz)) ∧ ones ((cs.drop (i * sz)).take (k * sz)) ∧ TyRep (Ty P n e) k ts
  | 0, i, hx => ⟨[], by simp [RTs], (by intro v hv; simp at hv), rfl⟩
  | k + 1, i, hx => by
    obtain ⟨x, hx1⟩ := hx i (Nat.le_refl _) (by omega)
    obtain ⟨ts, t1, t2, t3⟩ := ih hx1
    obtain ⟨us, u1, u2, u3⟩ := rep_open ih k (i + 1) (fun j h1 h2 => hx j (by omega) (by omega))
    have e : (cs.drop (i * sz)).take ((k + 1) * sz) = (cs.drop (i * sz)).take sz ++ (cs.drop ((i + 1) * sz)).take (k * sz) := by
      rw [show (k + 1) * sz = sz + k * sz by rw [Nat.succ_mul]; omega, List.take_add, List.drop_drop, show i * sz + sz = (i + 1) * sz by rw [Nat.succ_mul]]
    rw [e]
    exact ⟨ts ++ us, t1.append u1, ones_append t2 u2, ts, us, rfl, t3, u3⟩

theorem open_data : ∀ {n fuel : Nat} {t : TypeId} {cs : List Value} {x : DataW H × List MemPlace}, opens P n t = true → DataW.trod enc P w base spare held fuel t cs = some x → ∃ ts, RTs h I ts cs ∧ ones cs ∧ Ty P n t ts
  | 0, fuel, t, cs, x, ho, ht => by simp [opens] at ho
  | n + 1, fuel, t, cs, x, ho, ht => by
    simp only [opens] at ho
    split at ho
    · rename_i hu
      obtain ⟨b, rfl, _⟩ := DataW.trod_bool hu ht
      exact ⟨[.lit (.bool b)], by simp [RTs, RT, flat], (by intro v hv; simp at hv; subst hv; rfl), by simp only [Ty, hu]; exact ⟨b, rfl⟩⟩
    · rename_i k hu
      obtain ⟨i, rfl, _, hw⟩ := DataW.trod_int hu ht
      exact ⟨[.lit (.int k i)], by simp [RTs, RT, flat], (by intro v hv; simp at hv; subst hv; rfl), by simp only [Ty, hu]; exact ⟨i, rfl, hw⟩⟩
    · rename_i hu
      obtain ⟨s, rfl, _, hs⟩ := DataW.trod_string hu ht
      exact ⟨[.lit (.string s)], by simp [RTs, RT, flat], (by intro v hv; simp at hv; subst hv; rfl), by simp only [Ty, hu]; exact ⟨s, rfl, hs⟩⟩
    · rename_i fs hu
      obtain ⟨xs, m, rfl, _, hl, hlen, hx⟩ := DataW.trod_struct hu ht
      rw [← hl] at ho
      obtain ⟨ts, t1, t2, t3⟩ := fields_open (cs := cs) (n := n) (m := m) (h := h) (I := I) (enc := enc) (w := w) (base := base) (spare := spare) (held := held) (fun h1 h2 => open_data h1 h2) fs.toList 0 (fun f hf => by
        obtain ⟨i, hi⟩ := List.mem_iff_getElem?.1 hf
        have hi' : fs[i]? = some f := by simpa using hi
        have hlt := (Array.getElem?_eq_some_iff.1 hi').1
        have := hx i f hi'
        rw [List.getElem?_eq_getElem (by omega)] at this
        exact ⟨_, this⟩) ho
      simp only [List.drop_zero] at t1 t2
      exact ⟨ts, t1, t2, by simp only [Ty, hu]; exact t3⟩
    · rename_i len e hu
      simp only [Bool.and_eq_true, beq_iff_eq] at ho
      obtain ⟨xs, m, rfl, _, hl, hlen, hx⟩ := DataW.trod_array hu ht
      obtain ⟨ts, t1, t2, t3⟩ := rep_open (cs := cs) (n := n) (m := m) (e := e) (sz := P.cellsOf e) (h := h) (I := I) (enc := enc) (w := w) (base := base) (spare := spare) (held := held) (fun h2 => open_data ho.2 h2) len 0 (fun j _ hj => by
        have := hx j (by omega)
        rw [List.getElem?_eq_getElem (by omega)] at this
        exact ⟨_, this⟩)
      rw [← ho.1, ← hl] at t1 t2
      simp only [Nat.zero_mul, List.drop_zero, List.take_length] at t1 t2
      exact ⟨ts, t1, t2, by simp only [Ty, hu]; exact t3⟩
    · cases ho

theorem take_of_len {α : Type} {l : List α} {n m : Nat} (h : (l.take n).length = m) : l.take m = l.take n := by
  rw [List.length_take] at h
  rcases Nat.le_total n l.length with h1 | h1
  · rw [Nat.min_eq_left h1] at h
    rw [h]
  · rw [Nat.min_eq_right h1] at h
    rw [← h, List.take_length, List.take_of_length_le h1]

theorem cells_eq_one {v : Value} {x : Value} (h : v.cells.toList = [x]) (ha : ∀ cs, v ≠ .agg cs) : v = x := by
  cases v <;> first | (simp [Value.cells] at h; exact h) | exact (ha _ rfl).elim

/-- One argument, opened. -/
theorem open_arg {n : Nat} {t : TypeId} {v : Value} {d : DataW H} {ps : List MemPlace} (ho : opensA P n t = true) (hok : Value.okWide P w .any base t v) (ht : DataW.Trod enc P w 0 (fun _ => true) true t v d ps) :
    ∃ x, RT w.heap (fun b => b < w.heap.size) x v ∧ TyA P n t x := by
  obtain ⟨fuel, ht⟩ := ht
  unfold opensA at ho
  unfold TyA
  cases hu : P.underlying t with
  | none =>
    simp only [hu] at ho
    cases n <;> simp [opens, hu] at ho
  | some dsc =>
    simp only [hu] at ho ⊢
    have agg : ∀ cs, v = .agg cs → opens P n t = true → ∃ ts, RT w.heap (fun b => b < w.heap.size) (.agg ts) v ∧ Ty P n t ts := fun cs hv ho => by
      subst hv
      obtain ⟨ts, t1, _, t3⟩ := open_data (h := w.heap) (I := fun b => b < w.heap.size) ho ht
      exact ⟨ts, by simp only [RT]; exact ⟨cs, rfl, t1⟩, t3⟩
    have one : (∀ cs, v ≠ .agg cs) → opens P n t = true → (∀ ts, Ty P n t ts → ∃ x, ts = [x]) → ∃ x, RT w.heap (fun b => b < w.heap.size) x v ∧ Ty P n t [x] := fun hv ho hs => by
      obtain ⟨ts, t1, _, t3⟩ := open_data (h := w.heap) (I := fun b => b < w.heap.size) ho ht
      obtain ⟨x, rfl⟩ := hs ts t3
      simp only [RTs] at t1
      obtain ⟨u, rest, e1, e2, rfl⟩ := t1
      have := cells_eq_one e1 hv
      subst this
      exact ⟨x, e2, t3⟩
    simp only [Value.okWide, hu] at hok
    cases dsc with
    | slice e =>
      simp only [Cell.okWide, hu, Cell.ok] at hok
      rcases Deep.open_slice hu ht with ⟨hc, _⟩ | ⟨a, len, cap, m, n', D, Pl, hc, _, hl, hm, hmm, _, hx⟩
      · have hv : v = .slice none 0 0 := cells_eq_one hc fun cs e => by subst e; simp [Cell.ok, hu] at hok
        subst hv
        exact ⟨.lit (.slice none 0 0), by simp [RT, flat], .inl rfl⟩
      · have hv : v = .slice (some a) len cap := cells_eq_one hc fun cs e => by subst e; simp [Cell.ok, hu] at hok
        subst hv
        simp only [Cell.ok, hu] at hok
        obtain ⟨_, _, _, hspot, row, cells, hsh, _⟩ := hok
        obtain ⟨b, lo, spot⟩ := a
        simp only at hspot hsh
        subst hspot
        unfold World.shape? at hsh
        split at hsh
        · rename_i c el fr hb
          simp only [if_true] at hmm
          subst hmm
          have hlt : b < w.heap.size := (Array.getElem?_eq_some_iff.1 hb).1
          have hwin : ∀ i, i < len → ∃ x, DataW.trod enc P w 0 (fun _ => true) true n' e ((c.toList.drop (lo + i * P.cellsOf e)).take (P.cellsOf e)) = some x := fun i hi => by
            obtain ⟨cs', h1, h2⟩ := hx i (by omega)
            obtain ⟨_, h3, h4⟩ := World.cells?_some h1
            have : cs' = (c.toList.drop (lo + i * P.cellsOf e)).take (P.cellsOf e) := by
              apply List.ext_getElem?
              intro j
              rcases Nat.lt_or_ge j (P.cellsOf e) with hj | hj
              · rw [← h4 j hj]
                have e1 : ((Addr.mk b lo none).add (i * P.cellsOf e)).add j = ⟨b, lo + i * P.cellsOf e + j, none⟩ := by rw [addr_add, addr_add]
                rw [e1]
                simp only [World.cell?, hb]
                simp [List.getElem?_take, hj]
              · rw [List.getElem?_eq_none (by omega), List.getElem?_eq_none (by rw [List.length_take]; omega)]
            rw [← this]
            exact ⟨_, h2⟩
          obtain ⟨ts, t1, t2, t3⟩ := rep_open (cs := c.toList.drop lo) (n := n) (m := n') (e := e) (sz := P.cellsOf e) (h := w.heap) (I := fun b => b < w.heap.size) (enc := enc) (w := w) (base := 0) (spare := fun _ => true) (held := true)
            (fun h2 => open_data ho h2) len 0 (fun j _ hj => by rw [List.drop_drop]; exact hwin j (by omega))
          simp only [Nat.zero_mul, List.drop_zero] at t1 t2
          have hlen : win c lo ts.length = (c.toList.drop lo).take (len * P.cellsOf e) := take_of_len t1.length
          refine ⟨.sl ts len false, ?_, .inr ⟨ts, len, rfl, t3, by omega⟩⟩
          simp only [RT]
          exact ⟨b, lo, m, c, el, fr, rfl, hlt, hb, by rw [hlen]; exact t1, by rw [hlen]; exact t2, hl, fun h => by cases h⟩
        · cases hsh
    | struct fs =>
      obtain ⟨cs, hv, _⟩ := hok
      obtain ⟨ts, t1, t2⟩ := agg cs hv ho
      exact ⟨.agg ts, t1, ts, rfl, t2⟩
    | array len e =>
      obtain ⟨cs, hv, _⟩ := hok
      obtain ⟨ts, t1, t2⟩ := agg cs hv ho
      exact ⟨.agg ts, t1, ts, rfl, t2⟩
    | bool => exact one (fun cs e => by subst e; simp [Cell.okWide, Cell.ok, hu] at hok) ho (fun ts hts => by cases n <;> simp only [Ty, hu] at hts; obtain ⟨b, rfl⟩ := hts; exact ⟨_, rfl⟩)
    | int k => exact one (fun cs e => by subst e; simp [Cell.okWide, Cell.ok, hu] at hok) ho (fun ts hts => by cases n <;> simp only [Ty, hu] at hts; obtain ⟨b, rfl, _⟩ := hts; exact ⟨_, rfl⟩)
    | string => exact one (fun cs e => by subst e; simp [Cell.okWide, Cell.ok, hu] at hok) ho (fun ts hts => by cases n <;> simp only [Ty, hu] at hts; obtain ⟨b, rfl, _⟩ := hts; exact ⟨_, rfl⟩)
    | _ => exfalso; cases n <;> simp [opens, hu] at ho

theorem open_args {n : Nat} : ∀ {tys : List TypeId} {vs : List Value} {ds : List (DataW H)} {ps : List MemPlace}, tys.all (opensA P n) = true → (∀ (j : Nat) t v, tys[j]? = some t → vs[j]? = some v → Value.okWide P w .any base t v) →
    DataW.TrodAll enc P w 0 (fun _ => true) true tys vs ds ps → ∃ ts, RTs w.heap (fun b => b < w.heap.size) ts vs ∧ TyArgs P n tys ts
  | [], [], [], _, _, _, _ => ⟨[], by simp [RTs], rfl⟩
  | t :: tys, v :: vs, d :: ds, ps, ho, hok, ⟨p, q, h1, h2, e⟩ => by
    simp only [List.all_cons, Bool.and_eq_true] at ho
    obtain ⟨x, x1, x2⟩ := open_arg ho.1 (hok 0 t v rfl rfl) h1
    obtain ⟨xs, y1, y2⟩ := open_args ho.2 (fun j t v ht hv => hok (j + 1) t v (by simpa using ht) (by simpa using hv)) h2
    exact ⟨x :: xs, by simp only [RTs]; exact ⟨v, vs, rfl, x1, y1⟩, x, xs, rfl, x2, y2⟩

theorem trodAll_stays (hl : laidOutB P = true) {W W' : World} {sp : Nat → Bool} : ∀ {tys : List TypeId} {vs : List Value} {ds : List (DataW H)} {ps : List MemPlace}, tys.all (fun t => P.readableRec t && decide (t < P.types.size)) = true →
    DataW.TrodAll enc P W 0 (fun _ => true) true tys vs ds ps → (∀ p ∈ ps, W.sameAt W' p) → (∀ p ∈ ps, sp p.block = true) → DataW.TrodAll enc P W' 0 sp true tys vs ds ps
  | [], [], [], _, _, h, _, _ => h
  | t :: tys, v :: vs, d :: ds, ps, ho, ⟨p, q, h1, h2, e⟩, hs, hb => by
    simp only [List.all_cons, Bool.and_eq_true, decide_eq_true_eq] at ho
    refine ⟨p, q, WideElems.Trod_stays hl ho.1.1 ho.1.2 h1 (fun x hx => hs x (by rw [e]; exact List.mem_append_left _ hx)) (fun x hx => hb x (by rw [e]; exact List.mem_append_left _ hx)), ?_, e⟩
    exact trodAll_stays hl ho.2 h2 (fun x hx => hs x (by rw [e]; exact List.mem_append_right _ hx)) (fun x hx => hb x (by rw [e]; exact List.mem_append_right _ hx))
end

theorem post_kept {H : Type} {enc : TypeId × Value → H} {P : Program} {f : Func} {s : ChangeSpec} {apart fresh handsOn again : Bool} {W W' : World} {args : Array Value} {v : Value} {ds gs : List (DataW H)} {before pa pv : List MemPlace}
    (hW : DataW.Whole enc P f.params.toList s.vars apart W args.toList ds gs before)
    (hres : ∀ (b : Nat) (sp : Nat → Bool) (hd : Bool), DataW.TrodAll enc P W' b sp hd f.resultTypes.toList (v.resultList f.resultTypes.size) (s.fn H (ds ++ gs)).results [])
    (hargs : ∀ sp : Nat → Bool, (∀ p ∈ before, sp p.block = true) → DataW.TrodAll enc P W' 0 sp true f.params.toList args.toList (s.fn H (ds ++ gs)).args pa)
    (hvars : ∀ sp : Nat → Bool, (∀ p ∈ before, sp p.block = true) → DataW.TrodVars enc P W' sp s.vars (s.fn H (ds ++ gs)).vars pv)
    (hps : before = pa ++ pv) (hk : W.keptBut W' (· ∈ before)) (hfz : ∀ b off, MemPlace.cell b off ∈ before → W'.frozen? ⟨b, off, none⟩ = W.frozen? ⟨b, off, none⟩)
    (hok : ∀ (j : Nat) (t : TypeId) (r : Value), f.resultTypes[j]? = some t → (v.resultList f.resultTypes.size)[j]? = some r → Value.okWide P W' .any 0 t r) :
    s.post enc P f apart fresh handsOn again W args v W' := by
  have hold : ∀ p ∈ before, (fun b => decide (b < W.heap.size)) p.block = true := fun p hp => by simpa using hW.lt p hp
  refine ⟨ds, gs, before, [], pa, pv, hW, hres _ _ _, hargs _ hold, hvars _ hold, World.keptBut_mono (fun p hp => ⟨hp, ?_⟩) hk, fun _ => ?_⟩
  · rw [hps, List.mem_append] at hp
    exact Or.inr hp
  · obtain ⟨_, _, _, _, _, hz, hn⟩ := hW
    refine ⟨hok, _, _, ([] ++ pa) ++ pv, ⟨[] ++ pa, pv, trodAll_append (hargs _ (fun _ _ => rfl)) (hres _ _ _), hvars _ (fun _ _ => rfl), rfl, ?_, ?_⟩, ?_⟩
    · intro b off hp
      rw [hfz b off (by rw [hps]; simpa using hp)]
      exact hz b off (by rw [hps]; simpa using hp)
    · intro ha
      have := hn ha
      rw [hps] at this
      simpa using this
    · intro p hp _
      rw [hps]
      simpa using hp

/-- A LAW's ROW: of a law that answers true whatever typed trees it is handed. -/
theorem law_lifted {H : Type} {enc : TypeId × Value → H} {C : Checked} {os : Os} {f : FuncId} {fn : Func} {s : ChangeSpec} {bt : TypeId} {n : Nat} {fresh handsOn again : Bool}
    (own : ownKnob C.prog.godebug = none) (started : os.Started) (noInit : C.prog.inits.idxOf? f = none) (hfn : C.prog.funcs[f]? = some fn)
    (witness : ∃ (w : World) (tape : Go.Tape) (i : Input), w.os = os ∧ (w.forCall tape i).Shaped C.prog ∧ i.vars = [] ∧ Input.okWide C.prog (w.forCall tape i) .any w.heap.size f i ∧
      s.pre6 enc C.prog fn [] false (w.forCall tape i).memory i.args ∧ Assume.holds {} C.prog (lone (Frame.enter C.prog f i.args .normal) [] (w.forCall tape i)))
    (hl : laidOutB C.prog = true) (hrt : fn.resultTypes = #[bt]) (hbt : C.prog.underlying bt = some .bool) (hop : fn.params.toList.all (opensA C.prog n) = true)
    (hrd : fn.params.toList.all (fun t => C.prog.readableRec t && decide (t < C.prog.types.size)) = true) (hvars : s.vars = [])
    (hs : ∀ ds : List (DataW H), ds.length = fn.params.toList.length → s.fn H ds = { results := [.lit (.bool true)], args := ds })
    (law : ∀ ts, TyArgs C.prog n fn.params.toList ts → Holds C.prog (fun _ => none) f ts [.t (.lit (.bool true))]) :
    ReturnsInHanded {} C os f .any (s.pre6 enc C.prog fn [] false) (s.post enc C.prog fn false fresh handsOn again) := by
  refine returnsInHanded_of_change own started noInit hfn witness ?_
  intro W base args ds gs before hval hW hcnd _
  have hW' := hW
  obtain ⟨p, q, hA, hV, rfl, hfz, hnd⟩ := hW
  rw [hvars] at hV
  obtain ⟨rfl, rfl⟩ := trodVars_none hV
  have hlen : ∀ {tys : List TypeId} {vs : List Value} {ds : List (DataW H)} {ps : List MemPlace}, DataW.TrodAll enc C.prog W 0 (fun _ => true) true tys vs ds ps → ds.length = tys.length := by
    intro tys
    induction tys with
    | nil => intro vs ds ps h; obtain ⟨_, rfl, _⟩ := trodAll_nil h; rfl
    | cons t tys ih => intro vs ds ps h; obtain ⟨v, vs1, d, ds1, a, b, rfl, rfl, rfl, h1, h2⟩ := trodAll_cons h; simp [ih h2]
  obtain ⟨ts, t1, t2⟩ := open_args (base := base) hop (fun j t v ht hv => hval j t v (by simpa using ht) (by simpa using hv)) hA
  have hcall := law ts t2 W (fun b => b < W.heap.size) args.toList (fun g cells h => by cases h) (fun b hb => hb) t1
  simp only [Array.toArray_toList] at hcall
  refine hcall.mono fun e W' ⟨outs, J, os', he, hbel, _, _, hR, _⟩ => ?_
  simp only [RR] at hR
  obtain ⟨v, rest, rfl, hv, rfl, _⟩ := hR
  simp only [RT] at hv
  obtain ⟨rfl, _⟩ := hv
  subst he
  have hfn' := hs (ds ++ []) (by simpa using hlen hA)
  simp only [List.append_nil] at hW' hfn'
  refine ⟨_, rfl, post_kept (pa := p) (pv := []) (by simpa using hW') (fun b sp hd => ?_) (fun sp hsp => ?_) (fun sp _ => ?_) (by simp) (hbel.frame _) ?_ (ok_one hrt rfl (okWide_bool_mk hbt true))⟩
  · rw [hrt]
    simp only [List.append_nil, hfn', retV]
    exact trodAll_mk1 (shut_bool hbt true)
  · simp only [List.append_nil, hfn']
    have hlt : ∀ x ∈ p, x.block < W.heap.size := fun x hx => hW'.lt x (by simpa using hx)
    exact trodAll_stays hl hrd hA (fun x hx => hbel.same (hlt x hx)) (fun x hx => hsp x (by simpa using hx))
  · simp only [List.append_nil, hfn', hvars]
    rfl
  · intro b off hp
    have hb := hW'.lt (.cell b off) (by simpa using hp)
    exact hbel.frozen (p := ⟨b, off, none⟩) hb
end Go.Va
