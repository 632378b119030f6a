/- From the arguments as data to trees, and a law's row out of its contract. A law's row that lists package variables. Loops whose rows have no known length. -/
import Derived.Test.YtiegfchaepbnbaaGreatDoorP8
import Derived.ProofKit
import Derived.OpenShut
import Derived.Deep.Slices
import Derived.LaidMore
import Derived.LaidLaws
import Derived.JoinedOf
import Derived.Stop.Joined
namespace Go.Va
open Go Go.RowKit Go.ChangeShapes Go.WideShapes

/-! ## Typed trees -/
def fieldsOk (cellsOf : TypeId → Nat) (op : TypeId → Bool) : List Field → Nat → Nat → Bool
  | [], off, total => off == total
  | f :: r, off, total => f.offset == off && op f.type && fieldsOk cellsOf op r (off + cellsOf f.type) total
/-- Data without an address in it. -/
def opens (P : Program) : Nat → TypeId → Bool
  | 0, _ => false
  | n + 1, t => match P.underlying t with
    | some .bool | some (.int _) | some .string => true
    | some (.struct fs) => fieldsOk P.cellsOf (opens P n) fs.toList 0 (P.cellsOf t)
    | some (.array len e) => P.cellsOf t == len * P.cellsOf e && opens P n e
    | _ => false
def TyFs (ty : TypeId → List T → Prop) : List Field → List T → Prop
  | [], ts => ts = []
  | f :: r, ts => ∃ a b, ts = a ++ b ∧ ty f.type a ∧ TyFs ty r b
def TyRep (ty : List T → Prop) : Nat → List T → Prop
  | 0, ts => ts = []
  | n + 1, ts => ∃ a b, ts = a ++ b ∧ ty a ∧ TyRep ty n b
/-- The cells of a value of a type. -/
def Ty (P : Program) : Nat → TypeId → List T → Prop
  | 0, _, _ => False
  | n + 1, t, ts => match P.underlying t with
    | some .bool => ∃ b, ts = [.lit (.bool b)]
    | some (.int k) => ∃ i, ts = [.lit (.int k i)] ∧ (Lit.int k i).wf = true
    | some .string => ∃ s : ByteArray, ts = [.lit (.string s)] ∧ s.size ≤ maxLen
    | some (.struct fs) => TyFs (Ty P n) fs.toList ts
    | some (.array len e) => TyRep (Ty P n e) len ts
    | _ => False
def opensA (P : Program) (n : Nat) (t : TypeId) : Bool :=
  match P.underlying t with
  | some (.slice e) => opens P n e
  | _ => opens P n t
/-- An argument of a type. -/
def TyA (P : Program) (n : Nat) (t : TypeId) (x : T) : Prop :=
  match P.underlying t with
  | some (.slice e) => x = .lit (.slice none 0 0) ∨ ∃ cells len, x = .sl cells len false ∧ TyRep (Ty P n e) len cells ∧ len ≤ maxLen
  | some (.struct _) | some (.array _ _) => ∃ ts, x = .agg ts ∧ Ty P n t ts
  | _ => Ty P n t [x]
def TyArgs (P : Program) (n : Nat) : List TypeId → List T → Prop
  | [], ts => ts = []
  | t :: r, ts => ∃ x xs, ts = x :: xs ∧ TyA P n t x ∧ TyArgs P n r xs

section
variable {H : Type} {enc : TypeId × Value → H} {P : Program} {w : World} {base : Nat} {spare : Nat → Bool} {held : Bool} {h : Array Obj} {I : Nat → Prop}

theorem ones_append {a b : List Value} (ha : ones a) (hb : ones b) : ones (a ++ b) := fun v hv => (List.mem_append.1 hv).elim (ha v) (hb v)

theorem fields_open {m n : Nat} {cs : List Value} (ih : ∀ {t : TypeId} {cs : List Value} {x : DataW H × List MemPlace}, opens P n t = true → DataW.trod enc P w base spare held m t cs = some x → ∃ ts, RTs h I ts cs ∧ ones cs ∧ Ty P n t ts) :
    ∀ (fs : List Field) (off : Nat), (∀ f, f ∈ fs → ∃ x, DataW.trod enc P w base spare held m f.type ((cs.drop f.offset).take (P.cellsOf f.type)) = some x) → fieldsOk P.cellsOf (opens P n) fs off cs.length = true →
      ∃ ts, RTs h I ts (cs.drop off) ∧ ones (cs.drop off) ∧ TyFs (Ty P n) fs ts
  | [], off, hx, hf => by
    simp only [fieldsOk, beq_iff_eq] at hf
    subst hf
    exact ⟨[], by simp [RTs], (by intro v hv; simp at hv), rfl⟩
  | f :: r, off, hx, hf => by
    simp only [fieldsOk, Bool.and_eq_true, beq_iff_eq] at hf
    obtain ⟨⟨h1, h2⟩, h3⟩ := hf
    obtain ⟨x, hx1⟩ := hx f List.mem_cons_self
    obtain ⟨ts, t1, t2, t3⟩ := ih h2 hx1
    obtain ⟨us, u1, u2, u3⟩ := fields_open ih r (off + P.cellsOf f.type) (fun f' hf' => hx f' (List.mem_cons_of_mem _ hf')) h3
    rw [h1] at t1 t2
    have e : cs.drop off = (cs.drop off).take (P.cellsOf f.type) ++ cs.drop (off + P.cellsOf f.type) := by rw [← List.drop_drop, List.take_append_drop]
    rw [e]
    exact ⟨ts ++ us, t1.append u1, ones_append t2 u2, ts, us, rfl, t3, u3⟩

theorem rep_open {m n sz : Nat} {e : TypeId} {cs : List Value} (ih : ∀ {cs : List Value} {x : DataW H × List MemPlace}, DataW.trod enc P w base spare held m e cs = some x → ∃ ts, RTs h I ts cs ∧ ones cs ∧ Ty P n e ts) :
    ∀ (k i : Nat), (∀ j, i ≤ j → j < i + k → ∃ x, DataW.trod enc P w base spare held m e ((cs.drop (j * sz)).take sz) = some x) →
      ∃ ts, RTs h I ts ((cs.drop (i * sz)).take (k * sz)) ∧ ones ((cs.drop (i * sz)).take (k * sz)) ∧ TyRep (Ty P n e) k ts
  | 0, i, hx => ⟨[], by simp [RTs], (by intro v hv; simp at hv), rfl⟩
  | k + 1, i, hx => by
    obtain ⟨x, hx1⟩ := hx i (Nat.le_refl _) (by omega)
    obtain ⟨ts, t1, t2, t3⟩ := ih hx1
    obtain ⟨us, u1, u2, u3⟩ := rep_open ih k (i + 1) (fun j h1 h2 => hx j (by omega) (by omega))
    have e : (cs.drop (i * sz)).take ((k + 1) * sz) = (cs.drop (i * sz)).take sz ++ (cs.drop ((i + 1) * sz)).take (k * sz) := by
      rw [show (k + 1) * sz = sz + k * sz by rw [Nat.succ_mul]; omega, List.take_add, List.drop_drop, show i * sz + sz = (i + 1) * sz by rw [Nat.succ_mul]]
    rw [e]
    exact ⟨ts ++ us, t1.append u1, ones_append t2 u2, ts, us, rfl, t3, u3⟩

theorem open_data : ∀ {n fuel : Nat} {t : TypeId} {cs : List Value} {x : DataW H × List MemPlace}, opens P n t = true → DataW.trod enc P w base spare held fuel t cs = some x → ∃ ts, RTs h I ts cs ∧ ones cs ∧ Ty P n t ts
  | 0, fuel, t, cs, x, ho, ht => by simp [opens] at ho
  | n + 1, fuel, t, cs, x, ho, ht => by
    simp only [opens] at ho
    split at ho
    · rename_i hu
      obtain ⟨b, rfl, _⟩ := DataW.trod_bool hu ht
      exact ⟨[.lit (.bool b)], by simp [RTs, RT, flat], (by intro v hv; simp at hv; subst hv; rfl), by simp only [Ty, hu]; exact ⟨b, rfl⟩⟩
    · rename_i k hu
      obtain ⟨i, rfl, _, hw⟩ := DataW.trod_int hu ht
      exact ⟨[.lit (.int k i)], by simp [RTs, RT, flat], (by intro v hv; simp at hv; subst hv; rfl), by simp only [Ty, hu]; exact ⟨i, rfl, hw⟩⟩
    · rename_i hu
      obtain ⟨s, rfl, _, hs⟩ := DataW.trod_string hu ht
      exact ⟨[.lit (.string s)], by simp [RTs, RT, flat], (by intro v hv; simp at hv; subst hv; rfl), by simp only [Ty, hu]; exact ⟨s, rfl, hs⟩⟩
    · rename_i fs hu
      obtain ⟨xs, m, rfl, _, hl, hlen, hx⟩ := DataW.trod_struct hu ht
      rw [← hl] at ho
      obtain ⟨ts, t1, t2, t3⟩ := fields_open (cs := cs) (n := n) (m := m) (h := h) (I := I) (enc := enc) (w := w) (base := base) (spare := spare) (held := held) (fun h1 h2 => open_data h1 h2) fs.toList 0 (fun f hf => by
        obtain ⟨i, hi⟩ := List.mem_iff_getElem?.1 hf
        have hi' : fs[i]? = some f := by simpa using hi
        have hlt := (Array.getElem?_eq_some_iff.1 hi').1
        have := hx i f hi'
        rw [List.getElem?_eq_getElem (by omega)] at this
        exact ⟨_, this⟩) ho
      simp only [List.drop_zero] at t1 t2
      exact ⟨ts, t1, t2, by simp only [Ty, hu]; exact t3⟩
    · rename_i len e hu
      simp only [Bool.and_eq_true, beq_iff_eq] at ho
      obtain ⟨xs, m, rfl, _, hl, hlen, hx⟩ := DataW.trod_array hu ht
      obtain ⟨ts, t1, t2, t3⟩ := rep_open (cs := cs) (n := n) (m := m) (e := e) (sz := P.cellsOf e) (h := h) (I := I) (enc := enc) (w := w) (base := base) (spare := spare) (held := held) (fun h2 => open_data ho.2 h2) len 0 (fun j _ hj => by
        have := hx j (by omega)
        rw [List.getElem?_eq_getElem (by omega)] at this
        exact ⟨_, this⟩)
      rw [← ho.1, ← hl] at t1 t2
      simp only [Nat.zero_mul, List.drop_zero, List.take_length] at t1 t2
      exact ⟨ts, t1, t2, by simp only [Ty, hu]; exact t3⟩
    · cases ho

theorem take_of_len {α : Type} {l : List α} {n m : Nat} (h : (l.take n).length = m) : l.take m = l.take n := by
  rw [List.length_take] at h
  rcases Nat.le_total n l.length with h1 | h1
  · rw [Nat.min_eq_left h1] at h
    rw [h]
  · rw [Nat.min_eq_right h1] at h
    rw [← h, List.take_length, List.take_of_length_le h1]

theorem cells_eq_one {v : Value} {x : Value} (h : v.cells.toList = [x]) (ha : ∀ cs, v ≠ .agg cs) : v = x := by
  cases v <;> first | (simp [Value.cells] at h; exact h) | exact (ha _ rfl).elim

/-- One argument, opened. -/
theorem open_arg {n : Nat} {t : TypeId} {v : Value} {d : DataW H} {ps : List MemPlace} (ho : opensA P n t = true) (hok : Value.okWide P w .any base t v) (ht : DataW.Trod enc P w 0 (fun _ => true) true t v d ps) :
    ∃ x, RT w.heap (fun b => b < w.heap.size) x v ∧ TyA P n t x := by
  obtain ⟨fuel, ht⟩ := ht
  unfold opensA at ho
  unfold TyA
  cases hu : P.underlying t with
  | none =>
    simp only [hu] at ho
    cases n <;> simp [opens, hu] at ho
  | some dsc =>
    simp only [hu] at ho ⊢
    have agg : ∀ cs, v = .agg cs → opens P n t = true → ∃ ts, RT w.heap (fun b => b < w.heap.size) (.agg ts) v ∧ Ty P n t ts := fun cs hv ho => by
      subst hv
      obtain ⟨ts, t1, _, t3⟩ := open_data (h := w.heap) (I := fun b => b < w.heap.size) ho ht
      exact ⟨ts, by simp only [RT]; exact ⟨cs, rfl, t1⟩, t3⟩
    have one : (∀ cs, v ≠ .agg cs) → opens P n t = true → (∀ ts, Ty P n t ts → ∃ x, ts = [x]) → ∃ x, RT w.heap (fun b => b < w.heap.size) x v ∧ Ty P n t [x] := fun hv ho hs => by
      obtain ⟨ts, t1, _, t3⟩ := open_data (h := w.heap) (I := fun b => b < w.heap.size) ho ht
      obtain ⟨x, rfl⟩ := hs ts t3
      simp only [RTs] at t1
      obtain ⟨u, rest, e1, e2, rfl⟩ := t1
      have := cells_eq_one e1 hv
      subst this
      exact ⟨x, e2, t3⟩
    simp only [Value.okWide, hu] at hok
    cases dsc with
    | slice e =>
      simp only [Cell.okWide, hu, Cell.ok] at hok
      rcases Deep.open_slice hu ht with ⟨hc, _⟩ | ⟨a, len, cap, m, n', D, Pl, hc, _, hl, hm, hmm, _, hx⟩
      · have hv : v = .slice none 0 0 := cells_eq_one hc fun cs e => by subst e; simp [Cell.ok, hu] at hok
        subst hv
        exact ⟨.lit (.slice none 0 0), by simp [RT, flat], .inl rfl⟩
      · have hv : v = .slice (some a) len cap := cells_eq_one hc fun cs e => by subst e; simp [Cell.ok, hu] at hok
        subst hv
        simp only [Cell.ok, hu] at hok
        obtain ⟨_, _, _, hspot, row, cells, hsh, _⟩ := hok
        obtain ⟨b, lo, spot⟩ := a
        simp only at hspot hsh
        subst hspot
        unfold World.shape? at hsh
        split at hsh
        · rename_i c el fr hb
          simp only [if_true] at hmm
          subst hmm
          have hlt : b < w.heap.size := (Array.getElem?_eq_some_iff.1 hb).1
          have hwin : ∀ i, i < len → ∃ x, DataW.trod enc P w 0 (fun _ => true) true n' e ((c.toList.drop (lo + i * P.cellsOf e)).take (P.cellsOf e)) = some x := fun i hi => by
            obtain ⟨cs', h1, h2⟩ := hx i (by omega)
            obtain ⟨_, h3, h4⟩ := World.cells?_some h1
            have : cs' = (c.toList.drop (lo + i * P.cellsOf e)).take (P.cellsOf e) := by
              apply List.ext_getElem?
              intro j
              rcases Nat.lt_or_ge j (P.cellsOf e) with hj | hj
              · rw [← h4 j hj]
                have e1 : ((Addr.mk b lo none).add (i * P.cellsOf e)).add j = ⟨b, lo + i * P.cellsOf e + j, none⟩ := by rw [addr_add, addr_add]
                rw [e1]
                simp only [World.cell?, hb]
                simp [List.getElem?_take, hj]
              · rw [List.getElem?_eq_none (by omega), List.getElem?_eq_none (by rw [List.length_take]; omega)]
            rw [← this]
            exact ⟨_, h2⟩
          obtain ⟨ts, t1, t2, t3⟩ := rep_open (cs := c.toList.drop lo) (n := n) (m := n') (e := e) (sz := P.cellsOf e) (h := w.heap) (I := fun b => b < w.heap.size) (enc := enc) (w := w) (base := 0) (spare := fun _ => true) (held := true)
            (fun h2 => open_data ho h2) len 0 (fun j _ hj => by rw [List.drop_drop]; exact hwin j (by omega))
          simp only [Nat.zero_mul, List.drop_zero] at t1 t2
          have hlen : win c lo ts.length = (c.toList.drop lo).take (len * P.cellsOf e) := take_of_len t1.length
          refine ⟨.sl ts len false, ?_, .inr ⟨ts, len, rfl, t3, by omega⟩⟩
          simp only [RT]
          exact ⟨b, lo, m, c, el, fr, rfl, hlt, hb, by rw [hlen]; exact t1, by rw [hlen]; exact t2, hl, fun h => by cases h⟩
        · cases hsh
    | struct fs =>
      obtain ⟨cs, hv, _⟩ := hok
      obtain ⟨ts, t1, t2⟩ := agg cs hv ho
      exact ⟨.agg ts, t1, ts, rfl, t2⟩
    | array len e =>
      obtain ⟨cs, hv, _⟩ := hok
      obtain ⟨ts, t1, t2⟩ := agg cs hv ho
      exact ⟨.agg ts, t1, ts, rfl, t2⟩
    | bool => exact one (fun cs e => by subst e; simp [Cell.okWide, Cell.ok, hu] at hok) ho (fun ts hts => by cases n <;> simp only [Ty, hu] at hts; obtain ⟨b, rfl⟩ := hts; exact ⟨_, rfl⟩)
    | int k => exact one (fun cs e => by subst e; simp [Cell.okWide, Cell.ok, hu] at hok) ho (fun ts hts => by cases n <;> simp only [Ty, hu] at hts; obtain ⟨b, rfl, _⟩ := hts; exact ⟨_, rfl⟩)
    | string => exact one (fun cs e => by subst e; simp [Cell.okWide, Cell.ok, hu] at hok) ho (fun ts hts => by cases n <;> simp only [Ty, hu] at hts; obtain ⟨b, rfl, _⟩ := hts; exact ⟨_, rfl⟩)
    | _ => exfalso; cases n <;> simp [opens, hu] at ho

theorem open_args {n : Nat} : ∀ {tys : List TypeId} {vs : List Value} {ds : List (DataW H)} {ps : List MemPlace}, tys.all (opensA P n) = true → (∀ (j : Nat) t v, tys[j]? = some t → vs[j]? = some v → Value.okWide P w .any base t v) →
    DataW.TrodAll enc P w 0 (fun _ => true) true tys vs ds ps → ∃ ts, RTs w.heap (fun b => b < w.heap.size) ts vs ∧ TyArgs P n tys ts
  | [], [], [], _, _, _, _ => ⟨[], by simp [RTs], rfl⟩
  | t :: tys, v :: vs, d :: ds, ps, ho, hok, ⟨p, q, h1, h2, e⟩ => by
    simp only [List.all_cons, Bool.and_eq_true] at ho
    obtain ⟨x, x1, x2⟩ := open_arg ho.1 (hok 0 t v rfl rfl) h1
    obtain ⟨xs, y1, y2⟩ := open_args ho.2 (fun j t v ht hv => hok (j + 1) t v (by simpa using ht) (by simpa using hv)) h2
    exact ⟨x :: xs, by simp only [RTs]; exact ⟨v, vs, rfl, x1, y1⟩, x, xs, rfl, x2, y2⟩

theorem trodAll_stays (hl : laidOutB P = true) {W W' : World} {sp : Nat → Bool} : ∀ {tys : List TypeId} {vs : List Value} {ds : List (DataW H)} {ps : List MemPlace}, tys.all (fun t => P.readableRec t && decide (t < P.types.size)) = true →
    DataW.TrodAll enc P W 0 (fun _ => true) true tys vs ds ps → (∀ p ∈ ps, W.sameAt W' p) → (∀ p ∈ ps, sp p.block = true) → DataW.TrodAll enc P W' 0 sp true tys vs ds ps
  | [], [], [], _, _, h, _, _ => h
  | t :: tys, v :: vs, d :: ds, ps, ho, ⟨p, q, h1, h2, e⟩, hs, hb => by
    simp only [List.all_cons, Bool.and_eq_true, decide_eq_true_eq] at ho
    refine ⟨p, q, WideElems.Trod_stays hl ho.1.1 ho.1.2 h1 (fun x hx => hs x (by rw [e]; exact List.mem_append_left _ hx)) (fun x hx => hb x (by rw [e]; exact List.mem_append_left _ hx)), ?_, e⟩
    exact trodAll_stays hl ho.2 h2 (fun x hx => hs x (by rw [e]; exact List.mem_append_right _ hx)) (fun x hx => hb x (by rw [e]; exact List.mem_append_right _ hx))
end

theorem post_kept {H : Type} {enc : TypeId × Value → H} {P : Program} {f : Func} {s : ChangeSpec} {apart fresh handsOn again : Bool} {W W' : World} {args : Array Value} {v : Value} {ds gs : List (DataW H)} {before pa pv : List MemPlace}
    (hW : DataW.Whole enc P f.params.toList s.vars apart W args.toList ds gs before)
    (hres : ∀ (b : Nat) (sp : Nat → Bool) (hd : Bool), DataW.TrodAll enc P W' b sp hd f.resultTypes.toList (v.resultList f.resultTypes.size) (s.fn H (ds ++ gs)).results [])
    (hargs : ∀ sp : Nat → Bool, (∀ p ∈ before, sp p.block = true) → DataW.TrodAll enc P W' 0 sp true f.params.toList args.toList (s.fn H (ds ++ gs)).args pa)
    (hvars : ∀ sp : Nat → Bool, (∀ p ∈ before, sp p.block = true) → DataW.TrodVars enc P W' sp s.vars (s.fn H (ds ++ gs)).vars pv)
    (hps : before = pa ++ pv) (hk : W.keptBut W' (· ∈ before)) (hfz : ∀ b off, MemPlace.cell b off ∈ before → W'.frozen? ⟨b, off, none⟩ = W.frozen? ⟨b, off, none⟩)
    (hok : ∀ (j : Nat) (t : TypeId) (r : Value), f.resultTypes[j]? = some t → (v.resultList f.resultTypes.size)[j]? = some r → Value.okWide P W' .any 0 t r) :
    s.post enc P f apart fresh handsOn again W args v W' := by
  have hold : ∀ p ∈ before, (fun b => decide (b < W.heap.size)) p.block = true := fun p hp => by simpa using hW.lt p hp
  refine ⟨ds, gs, before, [], pa, pv, hW, hres _ _ _, hargs _ hold, hvars _ hold, World.keptBut_mono (fun p hp => ⟨hp, ?_⟩) hk, fun _ => ?_⟩
  · rw [hps, List.mem_append] at hp
    exact Or.inr hp
  · obtain ⟨_, _, _, _, _, hz, hn⟩ := hW
    refine ⟨hok, _, _, ([] ++ pa) ++ pv, ⟨[] ++ pa, pv, trodAll_append (hargs _ (fun _ _ => rfl)) (hres _ _ _), hvars _ (fun _ _ => rfl), rfl, ?_, ?_⟩, ?_⟩
    · intro b off hp
      rw [hfz b off (by rw [hps]; simpa using hp)]
      exact hz b off (by rw [hps]; simpa using hp)
    · intro ha
      have := hn ha
      rw [hps] at this
      simpa using this
    · intro p hp _
      rw [hps]
      simpa using hp

/-- A LAW's ROW: of a law that answers true whatever typed trees it is handed. -/
theorem law_lifted {H : Type} {enc : TypeId × Value → H} {C : Checked} {os : Os} {f : FuncId} {fn : Func} {s : ChangeSpec} {bt : TypeId} {n : Nat} {fresh handsOn again : Bool}
    (own : ownKnob C.prog.godebug = none) (started : os.Started) (noInit : C.prog.inits.idxOf? f = none) (hfn : C.prog.funcs[f]? = some fn)
    (witness : ∃ (w : World) (tape : Go.Tape) (i : Input), w.os = os ∧ (w.forCall tape i).Shaped C.prog ∧ i.vars = [] ∧ Input.okWide C.prog (w.forCall tape i) .any w.heap.size f i ∧
      s.pre6 enc C.prog fn [] false (w.forCall tape i).memory i.args ∧ Assume.holds {} C.prog (lone (Frame.enter C.prog f i.args .normal) [] (w.forCall tape i)))
    (hl : laidOutB C.prog = true) (hrt : fn.resultTypes = #[bt]) (hbt : C.prog.underlying bt = some .bool) (hop : fn.params.toList.all (opensA C.prog n) = true)
    (hrd : fn.params.toList.all (fun t => C.prog.readableRec t && decide (t < C.prog.types.size)) = true) (hvars : s.vars = [])
    (hs : ∀ ds : List (DataW H), ds.length = fn.params.toList.length → s.fn H ds = { results := [.lit (.bool true)], args := ds })
    (law : ∀ ts, TyArgs C.prog n fn.params.toList ts → Holds C.prog (fun _ => none) f ts [.t (.lit (.bool true))]) :
    ReturnsInHanded {} C os f .any (s.pre6 enc C.prog fn [] false) (s.post enc C.prog fn false fresh handsOn again) := by
  refine returnsInHanded_of_change own started noInit hfn witness ?_
  intro W base args ds gs before hval hW hcnd _
  have hW' := hW
  obtain ⟨p, q, hA, hV, rfl, hfz, hnd⟩ := hW
  rw [hvars] at hV
  obtain ⟨rfl, rfl⟩ := trodVars_none hV
  have hlen : ∀ {tys : List TypeId} {vs : List Value} {ds : List (DataW H)} {ps : List MemPlace}, DataW.TrodAll enc C.prog W 0 (fun _ => true) true tys vs ds ps → ds.length = tys.length := by
    intro tys
    induction tys with
    | nil => intro vs ds ps h; obtain ⟨_, rfl, _⟩ := trodAll_nil h; rfl
    | cons t tys ih => intro vs ds ps h; obtain ⟨v, vs1, d, ds1, a, b, rfl, rfl, rfl, h1, h2⟩ := trodAll_cons h; simp [ih h2]
  obtain ⟨ts, t1, t2⟩ := open_args (base := base) hop (fun j t v ht hv => hval j t v (by simpa using ht) (by simpa using hv)) hA
  have hcall := law ts t2 W (fun b => b < W.heap.size) args.toList (fun g cells h => by cases h) (fun b hb => hb) t1
  simp only [Array.toArray_toList] at hcall
  refine hcall.mono fun e W' ⟨outs, J, os', he, hbel, _, _, hR, _⟩ => ?_
  simp only [RR] at hR
  obtain ⟨v, rest, rfl, hv, rfl, _⟩ := hR
  simp only [RT] at hv
  obtain ⟨rfl, _⟩ := hv
  subst he
  have hfn' := hs (ds ++ []) (by simpa using hlen hA)
  simp only [List.append_nil] at hW' hfn'
  refine ⟨_, rfl, post_kept (pa := p) (pv := []) (by simpa using hW') (fun b sp hd => ?_) (fun sp hsp => ?_) (fun sp _ => ?_) (by simp) (hbel.frame _) ?_ (ok_one hrt rfl (okWide_bool_mk hbt true))⟩
  · rw [hrt]
    simp only [List.append_nil, hfn', retV]
    exact trodAll_mk1 (shut_bool hbt true)
  · simp only [List.append_nil, hfn']
    have hlt : ∀ x ∈ p, x.block < W.heap.size := fun x hx => hW'.lt x (by simpa using hx)
    exact trodAll_stays hl hrd hA (fun x hx => hbel.same (hlt x hx)) (fun x hx => hsp x (by simpa using hx))
  · simp only [List.append_nil, hfn', hvars]
    rfl
  · intro b off hp
    have hb := hW'.lt (.cell b off) (by simpa using hp)
    exact hbel.frozen (p := ⟨b, off, none⟩) hb
end Go.Va
namespace Go.Va
open Go Go.RowKit Go.ChangeShapes Go.WideShapes Go.ChangeAt

/-- A LAW's ROW, listed variables known: of a law that answers true whatever typed trees it is handed. -/
theorem law_lifted_laid {H : Type} {enc : TypeId × Value → H} {C : Checked} {os : Os} {f : FuncId} {fn : Func} {s : ChangeSpec} {bt : TypeId} {n : Nat} {fresh handsOn again : Bool} {laid : List (String × DataW Unit)} {G : Nat → Option (List T)}
    (own : ownKnob C.prog.godebug = none) (started : os.Started) (noInit : C.prog.inits.idxOf? f = none) (hfn : C.prog.funcs[f]? = some fn)
    (hG : ∀ W, laidMetH C.prog laid W → ∀ g cells, G g = some cells → RT W.heap (fun b => b < W.heap.size) (.ptr cells 0) (.pointer (some ⟨g, 0, none⟩)))
    (witness : ∃ (w : World) (tape : Go.Tape) (i : Input), w.os = os ∧ (w.forCall tape i).Shaped C.prog ∧ i.vars = [] ∧ Input.okWide C.prog (w.forCall tape i) .any w.heap.size f i ∧
      ((s.pre enc C.prog fn [] false (w.forCall tape i).memory i.args ∧ laidMetH C.prog laid (w.forCall tape i).memory) ∧ sizedMet enc C.prog fn (OpenSpec.ofChange s) false (w.forCall tape i).memory i.args) ∧ Assume.holds {} C.prog (lone (Frame.enter C.prog f i.args .normal) [] (w.forCall tape i)))
    (hl : laidOutB C.prog = true) (hrt : fn.resultTypes = #[bt]) (hbt : C.prog.underlying bt = some .bool) (hop : fn.params.toList.all (opensA C.prog n) = true)
    (hrd : fn.params.toList.all (fun t => C.prog.readableRec t && decide (t < C.prog.types.size)) = true) (hvars : s.vars = [])
    (hs : ∀ ds : List (DataW H), ds.length = fn.params.toList.length → s.fn H ds = { results := [.lit (.bool true)], args := ds })
    (law : ∀ ts, TyArgs C.prog n fn.params.toList ts → Holds C.prog G f ts [.t (.lit (.bool true))]) :
    ReturnsInHanded {} C os f .any (fun w args => (s.pre enc C.prog fn [] false w args ∧ laidMetH C.prog laid w) ∧ sizedMet enc C.prog fn (OpenSpec.ofChange s) false w args) (s.post enc C.prog fn false fresh handsOn again) := by
  refine returnsInHanded_of_change_and (X := fun w _ => laidMetH C.prog laid w) (fun _ _ _ hh h => h.of_heap hh) own started noInit hfn witness ?_
  intro W base args ds gs before hval hW hcnd _ hL _
  have hW' := hW
  obtain ⟨p, q, hA, hV, rfl, hfz, hnd⟩ := hW
  rw [hvars] at hV
  obtain ⟨rfl, rfl⟩ := trodVars_none hV
  have hlen : ∀ {tys : List TypeId} {vs : List Value} {ds : List (DataW H)} {ps : List MemPlace}, DataW.TrodAll enc C.prog W 0 (fun _ => true) true tys vs ds ps → ds.length = tys.length := by
    intro tys
    induction tys with
    | nil => intro vs ds ps h; obtain ⟨_, rfl, _⟩ := trodAll_nil h; rfl
    | cons t tys ih => intro vs ds ps h; obtain ⟨v, vs1, d, ds1, a, b, rfl, rfl, rfl, h1, h2⟩ := trodAll_cons h; simp [ih h2]
  obtain ⟨ts, t1, t2⟩ := open_args (base := base) hop (fun j t v ht hv => hval j t v (by simpa using ht) (by simpa using hv)) hA
  have hcall := law ts t2 W (fun b => b < W.heap.size) args.toList (hG W hL) (fun b hb => hb) t1
  simp only [Array.toArray_toList] at hcall
  refine hcall.mono fun e W' ⟨outs, J, os', he, hbel, _, _, hR, _⟩ => ?_
  simp only [RR] at hR
  obtain ⟨v, rest, rfl, hv, rfl, _⟩ := hR
  simp only [RT] at hv
  obtain ⟨rfl, _⟩ := hv
  subst he
  have hfn' := hs (ds ++ []) (by simpa using hlen hA)
  simp only [List.append_nil] at hW' hfn'
  refine ⟨_, rfl, post_kept (pa := p) (pv := []) (by simpa using hW') (fun b sp hd => ?_) (fun sp hsp => ?_) (fun sp _ => ?_) (by simp) (hbel.frame _) ?_ (ok_one hrt rfl (okWide_bool_mk hbt true))⟩
  · rw [hrt]
    simp only [List.append_nil, hfn', retV]
    exact trodAll_mk1 (shut_bool hbt true)
  · simp only [List.append_nil, hfn']
    have hlt : ∀ x ∈ p, x.block < W.heap.size := fun x hx => hW'.lt x (by simpa using hx)
    exact trodAll_stays hl hrd hA (fun x hx => hbel.same (hlt x hx)) (fun x hx => hsp x (by simpa using hx))
  · simp only [List.append_nil, hfn', hvars]
    rfl
  · intro b off hp
    have hb := hW'.lt (.cell b off) (by simpa using hp)
    exact hbel.frozen (p := ⟨b, off, none⟩) hb

/-- A row that nobody else holds may be held by others. -/
theorem Holds.freeze1 {P : Program} {G : Nat → Option (List T)} {f : FuncId} {args cells : List T} {n sz : Nat} (h : Holds P G f args [.osl cells n sz]) : Holds P G f args [.t (.sl cells n false)] := by
  intro w I vs hg hi hr
  refine (h w I vs hg hi hr).mono ?_
  rintro en w' ⟨outs, J, os, rfl, hbel, hIJ, hJ, hR, hnd⟩
  simp only [RR] at hR
  obtain ⟨r, cap, c, e, rest, os', rfl, rfl, h1, h2, h3, h4, h5, h6, h7, h8, rfl, rfl⟩ := hR
  have hlt : r < w'.heap.size := (Array.getElem?_eq_some_iff.1 h3).1
  refine ⟨_, fun b => J b ∨ b = r, [], rfl, hbel, fun b hb => .inl (hIJ b hb), fun b hb => ?_, ?_, by simp⟩
  · rcases hb with hb | rfl
    · exact hJ b hb
    · exact .inr ⟨h7, hlt⟩
  · simp only [RR, RT]
    refine ⟨_, [], rfl, ⟨r, 0, cap, c, e, (0, 0), rfl, .inr rfl, h3, ?_, h6, h1, fun h => by cases h⟩, rfl, trivial⟩
    exact RTs.mono (ext_sub (fun b hb => .inl hb)) _ _ h5
theorem frzL_of_t {f : C → Option (T × List Nat)} (hf : ∀ x, f (.t x) = some (x, [])) : ∀ ts : List T, frzL f (ts.map .t) = some (ts, [])
  | [] => rfl
  | x :: ts => by simp [frzL, hf, frzL_of_t hf ts]
/-- What is handed back: one row of the call's own. -/
theorem retR_osl {P : Program} {fn : Func} {s : S} {k b n sz : Nat} {ts : List T} (hr : fn.results.toList = [.tmp k]) (he : s.e k = some (.osl b n sz)) (hh : s.h b = some (.cells (ts.map .t) false)) (hl : ts.length = n * sz) : retR P fn s = some [.osl ts n sz] := by
  unfold retR
  simp only [hr, resC, he, toRs, toR, hh, List.length_map]
  rw [if_pos hl.symm, frzL_of_t (fun x => rfl)]
  simp
/-- What is handed back: a struct of one word, a map of the call's own. -/
theorem retR_map {P : Program} {fn : Func} {s : S} {k b m : Nat} {t : TypeId} {d : TypeDesc} {i : TypeInfo} {ks : List Value} {ts : List T} (hr : fn.results.toList = [.cell k t]) (he : s.e k = some (.loc b 0)) (hh : s.h b = some (.cells [.omp m] false)) (hm : s.h m = some (.map ks (ts.map .t) false))
    (hd : P.underlying t = some d) (hi : P.info? t = some i) (ha : isAggB d = true) (hs : i.size = 1) : retR P fn s = some [.t (.agg [.mp ks ts])] := by
  unfold retR
  have hp : partC P t [.omp m] 0 = some (.agg [.omp m]) := by unfold partC; simp [hd, hi, ha, hs]
  simp only [hr, resC, he, hh, hp, Option.map_some, toRs, toR, deep, frz, frzL, hm, frzL_of_t (f := frz s.h 22) (fun x => rfl)]
  simp
end Go.Va
namespace Go.Va
open Go Go.RowKit

/-- What is known may be forgotten, and the blocks be numbered anew. -/
def Weak (G : Nat → Option (List T)) (nt : Nat) (s s' : S) : Prop := ∀ (base : Nat) (w0 : Base) (ρ : Nat → Option Nat) (I : Nat → Prop) (a : Act) (w : World), NoK w0 → SimS G base w0 nt ρ I s a w → ∃ ρ', SimS G base w0 nt ρ' I s' a w
def tidyO (ord opq ks : List Nat) (s : S) : Option S :=
  if ord.Nodup then some ⟨(s.env.filter fun x => ks.contains x.1).map fun x => (x.1, renC ord deep x.2), ord.map fun b => if opq.contains b then s.h b else (s.h b).map (renB ord)⟩ else none
def OpqB (k : Blk) : Prop := ∃ xs fz, k = .cells (List.map C.t xs) fz
theorem map_t_any {ρ ρ' : Nat → Option Nat} {h : Array Obj} {I : Nat → Prop} : ∀ (xs : List T) (vs : List Value), RCs ρ h I (xs.map .t) vs → RCs ρ' h I (xs.map .t) vs
  | [], vs, hr => by simpa only [RCs, List.map_nil] using hr
  | x :: xs, vs, hr => by
    simp only [RCs, RC, List.map_cons] at hr ⊢
    obtain ⟨v, rest, rfl, h1, h2⟩ := hr
    exact ⟨v, rest, rfl, h1, map_t_any xs rest h2⟩
theorem opqB_any {ρ ρ' : Nat → Option Nat} {h : Array Obj} {I : Nat → Prop} {r : Nat} {k : Blk} (hk : OpqB k) (hr : RB ρ h I r k) : RB ρ' h I r k := by
  obtain ⟨xs, fz, rfl⟩ := hk
  simp only [RB] at hr ⊢
  obtain ⟨c, e, h1, h2, h3, h4⟩ := hr
  exact ⟨c, e, h1, h2, map_t_any _ _ h3, h4⟩
/-- .. a map whose values are trees. -/
def OpqM (k : Blk) : Prop := ∃ ks xs fz, k = .map ks (List.map C.t xs) fz
theorem opqM_any {ρ ρ' : Nat → Option Nat} {h : Array Obj} {I : Nat → Prop} {r : Nat} {k : Blk} (hk : OpqB k ∨ OpqM k) (hr : RB ρ h I r k) : RB ρ' h I r k := by
  rcases hk with hk | ⟨ks, xs, fz, rfl⟩
  · exact opqB_any hk hr
  · simp only [RB] at hr ⊢
    obtain ⟨es, clk, l, h1, hl, h2, h3⟩ := hr
    exact ⟨es, clk, l, h1, hl, h2, map_t_any _ _ h3⟩
theorem tidyO_weak {G : Nat → Option (List T)} {nt : Nat} {s s' : S} {ord opq ks : List Nat} (h : tidyO ord opq ks s = some s') (ho : ∀ b, b ∈ opq → ∀ k, s.h b = some k → OpqB k ∨ OpqM k) : Weak G nt s s' := by
  intro base w0 ρ I a w hK hs
  unfold tidyO at h
  split at h
  case isFalse => cases h
  rename_i hn
  cases h
  obtain ⟨⟨hm, hd, ht, he⟩, hnone⟩ := hs
  let f : Nat → Blk → Blk := fun b k => if opq.contains b then k else renB ord k
  have hget : ∀ b k, (S.mk ((s.env.filter fun x => ks.contains x.1).map fun x => (x.1, renC ord deep x.2)) (ord.map fun b => if opq.contains b then s.h b else (s.h b).map (renB ord))).h b = some k →
      ∃ c k0, ord[b]? = some c ∧ s.h c = some k0 ∧ k = f c k0 := fun b k hk => by
    simp only [S.h, List.getElem?_map] at hk
    cases hc : ord[b]? with
    | none => simp [hc] at hk
    | some c =>
      simp only [hc, Option.map_some, Option.join_some] at hk
      change (if opq.contains c then s.h c else (s.h c).map (renB ord)) = some k at hk
      cases h0 : s.h c with
      | none => simp [h0] at hk
      | some k0 =>
        refine ⟨c, k0, rfl, h0, ?_⟩
        simp only [h0, Option.map_some] at hk
        simp only [f]
        split at hk <;> rename_i hq
        · rw [if_pos hq]; exact (Option.some.inj hk).symm
        · rw [if_neg hq]; exact (Option.some.inj hk).symm
  have hf : ∀ c k0, isFz (f c k0) = isFz k0 := fun c k0 => by
    simp only [f]
    split
    · rfl
    · exact renB_fz ord k0
  refine ⟨reρ ord ρ, ⟨⟨hm.below, hm.ilt, hm.glob, fun b k hk => ?_, fun b b' k k' r h1 h2 h3 h4 => ?_, fun b r hr => ?_, hm.io, fun b r h => by rw [hK] at h; cases h⟩, hd, ht, fun k c hc => ?_⟩, fun b hb => ?_⟩
  · obtain ⟨c, k0, g1, g2, rfl⟩ := hget b k hk
    obtain ⟨r, t1, t2, t3, t4, t5⟩ := hm.blk c k0 g2
    refine ⟨r, by unfold reρ; rw [g1]; exact t1, t2, ?_, by rw [hf]; exact t4, by rw [hf]; exact t5⟩
    simp only [f]
    split
    · rename_i hq
      exact opqM_any (ho c (by simpa using hq) k0 g2) t3
    · exact renB_sound ord t3
  · obtain ⟨c, k0, g1, g2, _⟩ := hget b k h1
    obtain ⟨c', k0', g1', g2', _⟩ := hget b' k' h2
    unfold reρ at h3 h4
    rw [g1] at h3
    rw [g1'] at h4
    have := hm.inj c c' k0 k0' r g2 g2' h3 h4
    subst this
    exact nodup_get hn g1 g1'
  · unfold reρ at hr
    obtain ⟨c, _, h2⟩ := Option.bind_eq_some_iff.1 hr
    exact hm.rlt c r h2
  · obtain ⟨c0, g1, rfl⟩ := look_map (renC ord deep) _ k c hc
    exact renC_sound ord deep c0 _ (he k c0 (look_filter _ _ _ _ g1))
  · unfold reρ
    rw [List.getElem?_eq_none (by simpa using hb)]
    rfl
def tidiedO (ord opq ks : List Nat) (o : Option (Ex × S × Tape × List Prop)) : Option (Ex × S × Tape × List Prop × List (Option Blk)) :=
  match o with
  | some (x, s, tp, ps) => match tidyO ord opq ks s with
    | some s' => some (x, s', tp, ps, opq.map s.h)
    | none => none
  | none => none
theorem tidiedO_some' {G : Nat → Option (List T)} {nt : Nat} {ord opq ks : List Nat} {o : Option (Ex × S × Tape × List Prop)} {x : Ex} {s' : S} {tp : Tape} {ps : List Prop} {bs : List (Option Blk)} (h : tidiedO ord opq ks o = some (x, s', tp, ps, bs)) (hb : ∀ k, some k ∈ bs → OpqB k ∨ OpqM k) :
    ∃ s, o = some (x, s, tp, ps) ∧ Weak G nt s s' := by
  unfold tidiedO at h
  split at h
  · rename_i x0 s tp0 ps0
    split at h
    · rename_i s1 ht
      simp only [Option.some.injEq, Prod.mk.injEq] at h
      obtain ⟨rfl, rfl, rfl, rfl, rfl⟩ := h
      exact ⟨_, rfl, tidyO_weak ht fun b hb1 k hk => hb k (List.mem_map.2 ⟨b, hb1, hk⟩)⟩
    · cases h
  · cases h
theorem tidiedO_some {G : Nat → Option (List T)} {nt : Nat} {ord opq ks : List Nat} {o : Option (Ex × S × Tape × List Prop)} {x : Ex} {s' : S} {tp : Tape} {ps : List Prop} {bs : List (Option Blk)} (h : tidiedO ord opq ks o = some (x, s', tp, ps, bs)) (hb : ∀ k, some k ∈ bs → OpqB k) :
    ∃ s, o = some (x, s, tp, ps) ∧ Weak G nt s s' :=
  tidiedO_some' h fun k hk => .inl (hb k hk)
theorem ExecS.weak {P : Program} {G : Nat → Option (List T)} {nt : Nat} {c : Code} {s s1 s' : S} {x : Ex} (hw : Weak G nt s s1) (h : ExecS P G nt c s1 x s') : ExecS P G nt c s x s' := by
  intro base w0 ρ I a w Q hb hs hQ
  obtain ⟨ρ', hs'⟩ := hw base w0 ρ I a w hb.2 hs
  exact h base w0 ρ' I a w Q hb hs' hQ
/-- What is known behind a run may be forgotten. -/
theorem ExecS.post {P : Program} {G : Nat → Option (List T)} {nt : Nat} {c : Code} {s s1 s' : S} {x : Ex} (h : ExecS P G nt c s x s1) (hw : Weak G nt s1 s') : ExecS P G nt c s x s' := by
  intro base w0 ρ I a w Q hb hs hQ
  refine h base w0 ρ I a w Q hb hs fun ρ' I' a' w' hs' => ?_
  obtain ⟨ρ'', hs''⟩ := hw base w0 ρ' I' a' w' hb.2 hs'
  exact hQ ρ'' I' a' w' hs''
theorem tidy_weak {G : Nat → Option (List T)} {nt : Nat} {s s' : S} {ks : List Nat} (h : tidy ks s = some s') : Weak G nt s s' := fun _ _ _ _ _ _ hK hs => tidy_sound hK hs h
/-- The rounds of a loop. -/
inductive RoundsW (P : Program) (G : Nat → Option (List T)) (nt : Nat) (b : Code) : S → Ex → S → Prop
  | out {s s' : S} {z : Ex} (hz : z ≠ .normal) (h : ExecS P G nt b s z s') : RoundsW P G nt b s z s'
  | round {s s1 s2 s' : S} {z : Ex} (h : ExecS P G nt b s .normal s1) (hw : Weak G nt s1 s2) (r : RoundsW P G nt b s2 z s') : RoundsW P G nt b s z s'
theorem RoundsW.count {P : Program} {G : Nat → Option (List T)} {nt : Nat} {b : Code} {s s' : S} {z : Ex} (h : RoundsW P G nt b s z s') : ∃ n, ∀ (base : Nat) (w0 : Base) (ρ : Nat → Option Nat) (I : Nat → Prop) (a : Act) (w : World) (Q : Exit → Act → World → Prop), BaseOk base w0 → SimS G base w0 nt ρ I s a w →
    (∀ ρ' I' a' w', SimS G base w0 nt ρ' I' s' a' w' → Q (exitOf z) a' w') → Code.rounds P b Q n a w := by
  induction h with
  | @out s s' z hz h =>
    refine ⟨1, fun base w0 ρ I a w Q hb hs hq => ?_⟩
    rw [rounds_succ]
    refine h base w0 ρ I a w _ hb hs fun ρ' I' a' w' hs' => ?_
    have := hq ρ' I' a' w' hs'
    cases z with
    | normal => exact (hz rfl).elim
    | exit id => exact this
    | ret => exact this
  | @round s s1 s2 s' z h ht hr ih =>
    obtain ⟨n, hn⟩ := ih
    refine ⟨n + 1, fun base w0 ρ I a w Q hb hs hq => ?_⟩
    rw [rounds_succ]
    refine h base w0 ρ I a w _ hb hs fun ρ' I' a' w' hs' => ?_
    obtain ⟨ρ'', hs''⟩ := ht base w0 ρ' I' a' w' hb.2 hs'
    exact hn base w0 ρ'' I' a' w' Q hb hs'' hq
theorem RoundsW.loop {P : Program} {G : Nat → Option (List T)} {nt : Nat} {b : Code} {s s' : S} {z : Ex} (h : RoundsW P G nt b s z s') : ExecS P G nt (.loop b) s z s' := by
  obtain ⟨n, hn⟩ := h.count
  exact fun base w0 ρ I a w Q hb hs hq => wp_loop_rounds n (hn base w0 ρ I a w Q hb hs hq)
end Go.Va
