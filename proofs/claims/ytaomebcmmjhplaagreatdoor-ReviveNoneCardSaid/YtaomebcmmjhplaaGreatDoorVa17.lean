/- The interpreter led by a tape: where a Bool, a value or a call's results are not to be reckoned, the tape says them, and what is to be shown for it is written down. -/
import Derived.Test.YtaomebcmmjhplaaGreatDoorVa16
namespace Go.Va
open Go Go.RowKit

/-- What a tape may say: a Bool that a branch or a guard looks at; what an operation comes to; what a call hands back;
'app': the row that is appended to is of no known length; 'res': what an operation comes to that looks at a row of no known length, or compares. -/
inductive D where
  | b (d : Bool)
  | eff (e : Eff)
  | call (rs : List R)
  | app
  | res (c : C)
  | st (cs : List C)
  | ld (c : C)
  | mk (k : Nat) (cs : List C)
  | ap
  | lk (r : Option Nat)
  | up (r : Option Nat)

/-- Where the tape is looked at: the function and the slot. -/
abbrev Tape := List ((Nat × Nat) × D)
def tickB (f : Nat) (k : Option Nat) : Tape → Option Bool × Tape
  | ((g, j), .b d) :: r => match k with
    | some k => if g = f ∧ j = k then (some d, r) else (none, ((g, j), .b d) :: r)
    | none => (none, ((g, j), .b d) :: r)
  | tp => (none, tp)
def tickO (f : Nat) (k : Option Nat) : Tape → Option D × Tape
  | ((g, j), .b d) :: r => (none, ((g, j), .b d) :: r)
  | ((g, j), d) :: r => match k with
    | some k => if g = f ∧ j = k then (some d, r) else (none, ((g, j), d) :: r)
    | none => match d with
      | .st cs => if g = f then (some (.st cs), r) else (none, ((g, j), .st cs) :: r)
      | .up q => if g = f then (some (.up q), r) else (none, ((g, j), .up q) :: r)
      | d => (none, ((g, j), d) :: r)
  | [] => (none, [])
def slotOf : Operand → Option Nat
  | .tmp k => some k
  | _ => none

section
variable (P : Program) (G : Nat → Option (List T))

def calleeV (fn : Fn) (all capt : List C) : Option (FuncId × List C) :=
  match fn with
  | .func f => some (f, all ++ capt)
  | .method name => match all with
    | .t (.ifc t x) :: rest => match methodF P t name with
      | some f => some (f, .t x :: rest)
      | none => none
    | _ => none
  | _ => none
def callee (o : Oper) (e : Nat → Option C) : Option (FuncId × List C) :=
  match o.op with
  | .call c => match c.callee with
    | .builtin _ => none
    | .invoke r name => match ev G e r, evs G e c.args.toList with
      | some rv, some args => calleeV P (.method name) (rv :: args) []
      | _, _ => none
    | .value f => match ev G e f, evs G e c.args.toList with
      | some (.fn fn first capt), some args => calleeV P fn (first ++ args) capt
      | some (.t (.fn fn first capt)), some args => calleeV P fn (first.map .t ++ args) (capt.map .t)
      | _, _ => none
  | _ => none

def nobody : FuncId → List T → Option (List R) := fun _ _ => none

def tsOf : List C → Option (List T)
  | [] => some []
  | .t x :: r => (tsOf r).map (x :: ·)
  | _ => none
def appS (o : Oper) (e : Nat → Option C) (H : Nat → Option Blk) (id : Nat) : Option (Eff × List Prop) :=
  match o.op with
  | .call c => match c.callee with
    | .builtin .append => match evs G e c.args.toList, c.argTypes.toList with
      | some [.t (.sl ts n clip), x], [t1, t2] => if t1 = t2 then
          match P.underlying t1 with
          | some (.slice elem) => match P.info? elem, zeroL P elem with
            | some i, some z => if z.length = i.size then
                match srcL H x with
                | some (src, k, fp) => match tsOf src with
                  | some us => if src.length = k * i.size ∧ 0 < i.size ∧ k ≠ 0 then
                      some (⟨.t (.sl (ts ++ us) (n + k) false), [(id, some (.cells (ts.map .t ++ src) false)), (id, some (.cells (ts.map .t ++ src) true))], fp ++ [id]⟩,
                        [clip = true, roomB (n + k) i.bytes = true, ts.length = n * i.size])
                    else none
                  | none => none
                | none => none
              else none
            | _, _ => none
          | _ => none
        else none
      | _, _ => none
    | _ => none
  | _ => none

/-- What a comparison comes to. -/
def BinIs (P : Program) (op : BinOp) (t : TypeId) (x y : Operand) (v1 v2 v : Value) : Prop := pr P (do eqGuard op t x y v1 v2; binOp op t v1 v2) = some v
def resS (o : Oper) (e : Nat → Option C) (c : C) : Option (List Prop) :=
  match o.op with
  | .indexAddr t x i => match ev G e x, (ev G e i).bind intL with
    | some d, some n => some [indexAddrC P t d n = some ⟨c, [], []⟩]
    | _, _ => none
  | .load ty a => match ev G e a with
    | some (.t (.ptr ts off)) => some [partC P ty (ts.map .t) off = some c]
    | _ => none
  | .slice ty x lo hi mx => match P.underlying ty, ev G e x with
    | some (.slice elem), some (.t (.sl ts n clip)) => match optInt G e lo, optInt G e hi, optInt G e mx with
      | some a, some b, some m => some [sliceC P (fun _ => none) elem (.t (.sl ts n clip)) a b m = some ⟨c, [], []⟩]
      | _, _, _ => none
    | _, _ => none
  | .pick x a b => match ev G e x with
    | some (.t (.lit (.bool t))) => some [(if t then ev G e a else ev G e b) = some c]
    | _ => none
  | .binOp op t x y _ => match c, ev G e x, ev G e y with
    | .t (.lit v), some c1, some c2 => match flatV c1, flatV c2, P.underlying t with
      | some v1, some v2, some d => if flat v ∧ ((eqOp op).isSome && nilFor d y && notNil d c1) = false then some [BinIs P op t x y v1 v2 v] else none
      | _, _, _ => none
    | _, _, _ => none
  | _ => none

/-- The rows of a map. -/
def rowsOf (H : Nat → Option Blk) : C → Option (List Value × List C × List Nat)
  | .t (.mp ks vs) => some (ks, vs.map .t, [])
  | .omp b => match H b with
    | some (.map ks vs _) => some (ks, vs, [b])
    | _ => none
  | _ => none
/-- Stores, loads and rows at places that can't be reckoned. -/
def genS (o : Oper) (e : Nat → Option C) (H : Nat → Option Blk) (id : Nat) : D → Option (Eff × List Prop)
  | .st cs' => match o.op with
    | .store ty a x => match ev G e a, (ev G e x).bind cellsC, P.info? ty with
      | some (.loc b off), some xs, some i => match H b with
        | some (.cells cs false) => if xs.length = i.size ∧ xs.all oneC then some (⟨.tup [], [(b, some (.cells cs' false))], [b]⟩, [off + xs.length ≤ cs.length, splice cs off xs = cs']) else none
        | _ => none
      | _, _, _ => none
    | _ => none
  | .ld c => match o.op with
    | .load ty a => match ev G e a with
      | some (.loc b off) => match H b with
        | some (.cells cs _) => some (⟨c, [], [b]⟩, [partC P ty cs off = some c])
        | _ => none
      | _ => none
    | _ => none
  | .mk k cs => match o.op with
    | .makeSlice ty l c => match P.underlying ty, (ev G e l).bind intL, (ev G e c).bind intL with
      | some (.slice elem), some ln, some cp => match P.info? elem, zeroL P elem with
        | some i, some z => some (⟨.osl id k i.size, [(id, some (.cells cs false))], []⟩, [ln = k ∧ cp = k ∧ roomB k i.bytes = true ∧ z.length = i.size, (List.replicate k z).flatten = cs])
        | _, _ => none
      | _, _, _ => none
    | _ => none
  | .ap => match o.op with
    | .call c => match c.callee with
      | .builtin .append => match evs G e c.args.toList, c.argTypes.toList with
        | some [.osl b n sz, x], [t1, t2] => if t1 = t2 then
            match P.underlying t1 with
            | some (.slice elem) => match P.info? elem, zeroL P elem with
              | some i, some z => if z.length = i.size then
                  match srcL H x, H b with
                  | some (src, k, fp), some (.cells cs false) => if src.length = k * i.size ∧ 0 < i.size ∧ k ≠ 0 ∧ sz = i.size then
                      some (⟨.osl id (n + k) i.size, [(b, none), (id, some (.cells (cs ++ src) false))], b :: fp⟩, [cs.length = n * i.size, roomB (n + k) i.bytes = true])
                    else none
                  | _, _ => none
                else none
              | _, _ => none
            | _ => none
          else none
        | _, _ => none
      | _ => none
    | _ => none
  | .lk r => match o.op with
    | .lookup t m k ok => match P.underlying t, ev G e m, ev G e k with
      | some (.map key elem), some mm, some (.t (.lit kv)) => match P.underlying key with
        | some kd => if simpleKey kd then
            match rowsOf H mm with
            | some (ks, vs, fp) => match r with
              | some i => match vs[i]? with
                | some x => some (⟨if ok then .tup [x, goB true] else x, [], fp⟩, [findK kd kv ks = some (some i)])
                | none => none
              | none => match zeroC P elem with
                | some z => some (⟨if ok then .tup [z, goB false] else z, [], fp⟩, [findK kd kv ks = some none])
                | none => none
            | none => none
          else none
        | none => none
      | _, _, _ => none
    | _ => none
  | .up r => match o.op with
    | .mapUpdate t m k x => match P.underlying t, ev G e m, ev G e k, ev G e x with
      | some (.map key elem), some (.omp b), some (.t (.lit kv)), some c => match P.underlying key, H b with
        | some kd, some (.map ks vs false) => if simpleKey kd then
            match r with
            | some i => some (⟨.tup [], [(b, some (.map ks (vs.set i c) false))], [b]⟩, [findK kd kv ks = some (some i), vs.length = ks.length])
            | none => some (⟨.tup [], [(b, some (.map (ks ++ [kv]) (vs ++ [c]) false))], [b]⟩, [findK kd kv ks = some none])
          else none
        | _, _ => none
      | _, _, _, _ => none
    | _ => none
  | _ => none

def opX (rn : FuncId → List T → Tape → Option (List R × Tape × List Prop)) (fid : Nat) (o : Oper) (e : Nat → Option C) (H : Nat → Option Blk) (id : Nat) (tp : Tape) : Option (Eff × Tape × List Prop) :=
  match tickO fid o.dst tp with
  | (some (.eff eff), tp') => some (eff, tp', [opc P G nobody o e H id = some eff])
  | (some (.b _), _) => none
  | (some (.st cs), tp') => genS P G o e H id (.st cs) |>.map fun (eff, ps) => (eff, tp', ps)
  | (some (.ld c), tp') => genS P G o e H id (.ld c) |>.map fun (eff, ps) => (eff, tp', ps)
  | (some (.mk k cs), tp') => genS P G o e H id (.mk k cs) |>.map fun (eff, ps) => (eff, tp', ps)
  | (some (.lk r), tp') => genS P G o e H id (.lk r) |>.map fun (eff, ps) => (eff, tp', ps)
  | (some (.up r), tp') => genS P G o e H id (.up r) |>.map fun (eff, ps) => (eff, tp', ps)
  | (some .ap, tp') => genS P G o e H id .ap |>.map fun (eff, ps) => (eff, tp', ps)
  | (some .app, tp') => match appS P G o e H id with
    | some (eff, ps) => some (eff, tp', ps)
    | none => none
  | (some (.res c), tp') => match resS P G o e c with
    | some ps => some (⟨c, [], []⟩, tp', ps)
    | none => none
  | (some (.call rs), tp') => match callee P G o e with
    | some (f, cs) => match frzL (frz H deep) cs with
      | some (ts, _) => match opc P G (fun _ _ => some rs) o e H id with
        | some eff => some (eff, tp', [Holds P G f ts rs])
        | none => none
      | none => none
    | none => none
  | (none, tp') => match callee P G o e with
    | some (f, cs) => match frzL (frz H deep) cs with
      | some (ts, _) => match rn f ts tp' with
        | some (rs, tp'', ps) => match opc P G (fun _ _ => some rs) o e H id with
          | some eff => some (eff, tp'', ps)
          | none => none
        | none => none
      | none => none
    | none => match opc P G nobody o e H id with
      | some eff => some (eff, tp', [])
      | none => none

def wantX (fid : Nat) (ops : Array Oper) (e : Nat → Option C) (o : Oper) (tp : Tape) : Option (Bool × Tape × List Prop) :=
  match o.guard with
  | none => some (true, tp, [])
  | some (j, want) => match yieldC ops e j with
    | none => none
    | some none => some (false, tp, [])
    | some (some b) => match tickB fid ((ops[j]?).bind (·.dst)) tp with
      | (some d, tp') => some (d == want, tp', [b = d])
      | (none, tp') => some (b == want, tp', [])

def stepX (rn : FuncId → List T → Tape → Option (List R × Tape × List Prop)) (fid nt : Nat) (ops : Array Oper) (o : Oper) (id : Nat) (s : S) (tp : Tape) : Option (S × List Nat × List Nat × Tape × List Prop) :=
  match wantX fid ops s.e o tp with
  | some (true, tp1, ps) => match opX P G rn fid o s.e s.h id tp1 with
    | some (eff, tp2, qs) => match putE nt s.env o.dst eff.val with
      | some env => some (⟨env, setH s.heap eff.sets⟩, eff.sets.map (·.1), eff.fp, tp2, ps ++ qs)
      | none => none
    | none => none
  | some (false, tp1, ps) => match putE nt s.env o.dst (.tup []) with
    | some env => some (⟨env, s.heap⟩, [], [], tp1, ps)
    | none => none
  | none => none
def runOX (rn : FuncId → List T → Tape → Option (List R × Tape × List Prop)) (fid nt : Nat) (ops : Array Oper) : List Oper → Nat → S → Tape → Option (S × List (List Nat × List Nat) × Tape × List Prop)
  | [], _, s, tp => some (s, [], tp, [])
  | o :: r, id, s, tp => match stepX P G rn fid nt ops o id s tp with
    | some (s', a, b, tp', ps) => match runOX rn fid nt ops r (id + nalloc o) s' tp' with
      | some (s'', l, tp'', qs) => some (s'', (a, b) :: l, tp'', ps ++ qs)
      | none => none
    | none => none
def regionX (rn : FuncId → List T → Tape → Option (List R × Tape × List Prop)) (fid nt : Nat) (ops : Array Oper) (draw : Bool) (s : S) (tp : Tape) : Option (S × Tape × List Prop) :=
  match runOX P G rn fid nt ops ops.toList s.heap.length ⟨s.env, s.heap ++ List.replicate (total ops.toList) none⟩ tp with
  | some (s', l, tp', ps) => if !draw || (drawOk ops && freeAll (masks ops.toList []) l 0) then some (s', tp', ps) else none
  | none => none

def iterX (f : S → Tape → Option (Ex × S × Tape × List Prop)) (ks : List Nat) : Nat → S → Tape → Option (Ex × S × Tape × List Prop)
  | 0, _, _ => none
  | m + 1, s, tp => match f s tp with
    | some (.normal, s', tp', ps) => match tidy ks s' with
      | some s'' => match iterX f ks m s'' tp' with
        | some (x, s3, tp'', qs) => some (x, s3, tp'', ps ++ qs)
        | none => none
      | none => none
    | r => r

def execX (rn : FuncId → List T → Tape → Option (List R × Tape × List Prop)) (fid nt n : Nat) : Code → S → Tape → Option (Ex × S × Tape × List Prop)
  | .skip, s, tp => some (.normal, s, tp, [])
  | .label _, s, tp => some (.normal, s, tp, [])
  | .region _ ops draw, s, tp => match regionX P G rn fid nt ops draw s tp with
    | some (s', tp', ps) => some (.normal, s', tp', ps)
    | none => none
  | .seq a b, s, tp => match execX rn fid nt n a s tp with
    | some (.normal, s', tp', ps) => match execX rn fid nt n b s' tp' with
      | some (x, s'', tp'', qs) => some (x, s'', tp'', ps ++ qs)
      | none => none
    | r => r
  | .cond c x y, s, tp => match ev G s.e c with
    | some (.t (.lit (.bool b))) => match tickB fid (slotOf c) tp with
      | (some d, tp') => match (if d then execX rn fid nt n x s tp' else execX rn fid nt n y s tp') with
        | some (z, s', tp'', ps) => some (z, s', tp'', (b = d) :: ps)
        | none => none
      | (none, tp') => if b then execX rn fid nt n x s tp' else execX rn fid nt n y s tp'
    | _ => none
  | .block id b, s, tp => match execX rn fid nt n b s tp with
    | some (.exit j, s', tp', ps) => if j = id then some (.normal, s', tp', ps) else some (.exit j, s', tp', ps)
    | r => r
  | .loop b, s, tp => iterX (execX rn fid nt n b) (s.env.map (·.1)) n s tp
  | .exit id, s, tp => some (.exit id, s, tp, [])
  | .ret, s, tp => some (.ret, s, tp, [])
  | _, _, _ => none

def runX (intr : FuncId → List T → Option (List R)) : Nat → FuncId → List T → Tape → Option (List R × Tape × List Prop)
  | 0, _, _, _ => none
  | n + 1, f, args, tp => match intr f args with
    | some r => some (r, tp, [])
    | none => match P.funcs[f]? with
      | some fn => match fn.body with
        | some c => if args.length ≤ fn.ntmps then
            match execX P G (runX intr n) f fn.ntmps n c ⟨initE args 0, []⟩ tp with
            | some (.normal, s, tp', ps) => match retR P fn s with
              | some rs => some (rs, tp', ps)
              | none => none
            | some (.ret, s, tp', ps) => match retR P fn s with
              | some rs => some (rs, tp', ps)
              | none => none
            | _ => none
          else none
        | none => none
      | none => none
end

def All (ps : List Prop) : Prop := ∀ p, p ∈ ps → p
theorem All.append {ps qs : List Prop} (h : All (ps ++ qs)) : All ps ∧ All qs := ⟨fun p hp => h p (List.mem_append.2 (.inl hp)), fun p hp => h p (List.mem_append.2 (.inr hp))⟩
theorem All.nil : All [] := fun p hp => by cases hp
theorem All.cons {p : Prop} {ps : List Prop} (h : p) (hs : All ps) : All (p :: ps) := fun q hq => (List.mem_cons.1 hq).elim (fun e => e ▸ h) (hs q)

section
variable {P : Program} {G : Nat → Option (List T)}

/-- Of body 'c', what a state comes to. -/
def ExecS (P : Program) (G : Nat → Option (List T)) (nt : Nat) (c : Code) (s : S) (x : Ex) (s' : S) : Prop :=
  ∀ (base : Nat) (w0 : Base) (ρ : Nat → Option Nat) (I : Nat → Prop) (a : Act) (w : World) (Q : Exit → Act → World → Prop), base ≤ w0.w.heap.size → SimS G base w0 nt ρ I s a w →
    (∀ ρ' I' a' w', SimS G base w0 nt ρ' I' s' a' w' → Q (exitOf x) a' w') → c.wp P Q a w

def SndX (P : Program) (G : Nat → Option (List T)) (rn : FuncId → List T → Tape → Option (List R × Tape × List Prop)) : Prop := ∀ f ts tp rs tp' ps, rn f ts tp = some (rs, tp', ps) → All ps → Holds P G f ts rs

open Classical in
noncomputable def rcOf (f : FuncId) (ts : List T) (rs : List R) : FuncId → List T → Option (List R) := fun f' ts' => if f' = f ∧ ts' = ts then some rs else none
theorem rcOf_snd {f : FuncId} {ts : List T} {rs : List R} (h : Holds P G f ts rs) : Snd P G (rcOf f ts rs) := fun f' args rs' hr => by
  unfold rcOf at hr
  split at hr
  · rename_i he
    obtain ⟨rfl, rfl⟩ := he
    cases hr
    exact h
  · cases hr
theorem snd_none : Snd P G nobody := fun f args rs h => by simp [nobody] at h

theorem callF_rcOf {H : Nat → Option Blk} {id : Nat} {f : FuncId} {cs : List C} {ts : List T} {ms : List Nat} {rs : List R} (hf : frzL (frz H deep) cs = some (ts, ms)) : callF P (rcOf f ts rs) H id f cs = callF P (fun _ _ => some rs) H id f cs := by
  unfold callF
  simp [hf, rcOf]
theorem callV_rcOf {H : Nat → Option Blk} {id : Nat} {fn : Fn} {all capt : List C} {f : FuncId} {cs : List C} {ts : List T} {ms : List Nat} {rs : List R} (hc : calleeV P fn all capt = some (f, cs)) (hf : frzL (frz H deep) cs = some (ts, ms)) :
    callV P (rcOf f ts rs) H id fn all capt = callV P (fun _ _ => some rs) H id fn all capt := by
  unfold calleeV at hc
  unfold callV
  cases fn with
  | func g =>
    simp only [Option.some.injEq, Prod.mk.injEq] at hc
    obtain ⟨rfl, rfl⟩ := hc
    exact callF_rcOf hf
  | method name =>
    simp only at hc ⊢
    split at hc
    · rename_i t x rest
      simp only at hc ⊢
      split at hc
      · rename_i g hg
        simp only [Option.some.injEq, Prod.mk.injEq] at hc
        obtain ⟨rfl, rfl⟩ := hc
        rw [hg]
        exact callF_rcOf hf
      · cases hc
    · cases hc
  | _ => simp at hc
theorem opc_rcOf {o : Oper} {e : Nat → Option C} {H : Nat → Option Blk} {id : Nat} {f : FuncId} {cs : List C} {ts : List T} {ms : List Nat} {rs : List R} (hc : callee P G o e = some (f, cs)) (hf : frzL (frz H deep) cs = some (ts, ms)) :
    opc P G (rcOf f ts rs) o e H id = opc P G (fun _ _ => some rs) o e H id := by
  unfold callee at hc
  unfold opc
  split at hc
  · rename_i c ho
    simp only [ho]
    split at hc
    · cases hc
    · rename_i r name hcal
      simp only [hcal]
      split at hc
      · rename_i rv args h1 h2
        simp only [h1, h2]
        exact callV_rcOf hc hf
      · cases hc
    · rename_i g hcal
      simp only [hcal]
      split at hc
      · rename_i fn first capt args h1 h2
        simp only [h1, h2]
        exact callV_rcOf hc hf
      · rename_i fn first capt args h1 h2
        simp only [h1, h2]
        exact callV_rcOf hc hf
      · cases hc
  · cases hc

theorem frzL_t {H : Nat → Option Blk} {m : Nat} : ∀ (l : List T), frzL (frz H (m + 1)) (l.map .t) = some (l, [])
  | [] => rfl
  | x :: r => by
    simp only [List.map_cons, frzL, frzL_t r]
    simp [frz]
theorem tsOf_map : ∀ {l : List C} {us : List T}, tsOf l = some us → l = us.map .t
  | [], us, h => by simp only [tsOf, Option.some.injEq] at h; subst h; rfl
  | .t x :: r, us, h => by
    simp only [tsOf] at h
    cases hr : tsOf r with
    | none => simp [hr] at h
    | some l => simp only [hr, Option.map_some, Option.some.injEq] at h; subst h; rw [tsOf_map hr]; rfl
  | .bad :: r, us, h | .loc _ _ :: r, us, h | .osl _ _ _ :: r, us, h | .omp _ :: r, us, h | .agg _ :: r, us, h | .tup _ :: r, us, h | .fn _ _ _ :: r, us, h => by simp [tsOf] at h

theorem appS_sound {o : Oper} {e : Nat → Option C} {H : Nat → Option Blk} {id : Nat} {eff : Eff} {ps : List Prop} (h : appS P G o e H id = some (eff, ps)) (hp : All ps) : ∃ eff0, opc P G nobody o e H id = some eff0 ∧ Frozen H eff0 eff := by
  unfold appS at h
  split at h
  case h_2 => cases h
  rename_i c ho
  split at h
  case h_2 => cases h
  rename_i hcal
  split at h
  case h_2 => cases h
  rename_i ts n clip x t1 t2 hargs hats
  split at h
  case isFalse => cases h
  rename_i ht
  split at h
  case h_2 => cases h
  rename_i elem hu
  split at h
  case h_2 => cases h
  rename_i i z hi hz
  split at h
  case isFalse => cases h
  rename_i hzl
  split at h
  case h_2 => cases h
  rename_i src k fp hsrc
  split at h
  case h_2 => cases h
  rename_i us hus
  split at h
  case isFalse => cases h
  rename_i hk
  simp only [Option.some.injEq, Prod.mk.injEq] at h
  obtain ⟨rfl, rfl⟩ := h
  have h1 : clip = true := hp _ (by simp)
  have h2 : roomB (n + k) i.bytes = true := hp (roomB (n + k) i.bytes = true) (by simp)
  have h3 : ts.length = n * i.size := hp (ts.length = n * i.size) (by simp)
  subst h1
  refine ⟨⟨.osl id (n + k) i.size, [(id, some (.cells (ts.map .t ++ src) false))], fp⟩, ?_, .inr ⟨.sl (ts ++ us) (n + k) false, [id], ?_, ?_⟩⟩
  · unfold opc
    simp only [ho, hcal, hargs, builtinC, hats, ht, hu, hi, hz, hzl, if_true]
    subst ht
    simp only [hu, hi, hz, hzl, if_true, appendC, hsrc]
    rw [if_pos ⟨hk.1, hk.2.1⟩, if_neg hk.2.2]
    simp [h2, h3]
  · have hsu := tsOf_map hus
    have hlen : ((n + k) * i.size) = (ts.map C.t ++ src).length := by simp [h3, hk.1, Nat.add_mul]
    simp only [frz, deep, updH, if_true]
    rw [if_pos (by omega), List.take_of_length_le (by omega), hsu, ← List.map_append, frzL_t]
    rfl
  · simp only [marks, updH, if_true, markB, List.singleton_append]

theorem pr_bind {α β : Type} {P : Program} : ∀ {s : Sem α} {f : α → Sem β} {a : α}, pr P s = some a → pr P (s >>= f) = pr P (f a)
  | .pure b, f, a, h => by simp only [pr, Option.some.injEq] at h; subst h; rfl
  | .program k, f, a, h => by simp only [pr] at h; show pr P (k P >>= f) = _; exact pr_bind h
  | .mark m k, f, a, h => by simp only [pr] at h; show pr P (k >>= f) = _; exact pr_bind h
  | .choose q k, f, a, h => by
    simp only [pr] at h
    split at h
    · rename_i hq
      show pr P (.choose q fun n => k n >>= f) = _
      simp only [pr, hq, if_true]
      exact pr_bind h
    · cases h
  | .load .., f, a, h => by simp [pr] at h
  | .store .., f, a, h => by simp [pr] at h
  | .new .., f, a, h => by simp [pr] at h
  | .shape .., f, a, h => by simp [pr] at h
  | .freeze .., f, a, h => by simp [pr] at h
  | .frozen .., f, a, h => by simp [pr] at h
  | .getObj .., f, a, h => by simp [pr] at h
  | .setObj .., f, a, h => by simp [pr] at h
  | .sys .., f, a, h => by simp [pr] at h
  | .halt .., f, a, h => by simp [pr] at h

theorem resS_sound {o : Oper} {e : Nat → Option C} {H : Nat → Option Blk} {id : Nat} {c : C} {ps : List Prop} (h : resS P G o e c = some ps) (hp : All ps) : opc P G nobody o e H id = some ⟨c, [], []⟩ := by
  unfold resS at h
  split at h
  · rename_i t x i ho
    split at h
    · rename_i d n h1 h2
      cases h
      unfold opc
      simp only [ho, h1, h2]
      exact hp _ List.mem_cons_self
    · cases h
  · rename_i ty a ho
    split at h
    · rename_i ts off h1
      cases h
      have := hp _ List.mem_cons_self
      unfold opc
      simp only [ho, h1, this, Option.map_some]
    · cases h
  · rename_i ty x lo hi mx ho
    split at h
    · rename_i elem ts n clip h1 h2
      split at h
      · rename_i a b m h3 h4 h5
        cases h
        have := hp _ List.mem_cons_self
        unfold opc
        simp only [ho, h1, h2, h3, h4, h5]
        exact this
      · cases h
    · cases h
  · rename_i x a b ho
    split at h
    · rename_i t h1
      cases h
      have := hp _ List.mem_cons_self
      unfold opc
      simp only [ho, h1]
      cases t
      · simp only [Bool.false_eq_true, if_false] at this ⊢
        rw [this]
        rfl
      · simp only [if_true] at this ⊢
        rw [this]
        rfl
    · cases h
  · rename_i op t x y u ho
    split at h
    · rename_i v c1 c2 h1 h2
      split at h
      · rename_i v1 v2 d h3 h4 h5
        split at h
        · rename_i hf
          cases h
          have hb : BinIs P op t x y v1 v2 v := hp _ List.mem_cons_self
          have hfl : flatOp P G e o = some ⟨.t (.lit v), [], []⟩ := by
            unfold flatOp
            have he : evs G e o.op.operands.toList = some [c1, c2] := by simp [ho, Op.operands, evs, h1, h2]
            rw [he]
            simp only [List.all_cons, h3, h4, Option.isSome_some, List.all_nil, Bool.and_self, if_true]
            have hx : ((ev G e x).bind flatV).getD undef = v1 := by simp [h1, h3]
            have hy : ((ev G e y).bind flatV).getD undef = v2 := by simp [h2, h4]
            have : pr P (execOp (fun x => ((ev G e x).bind flatV).getD undef) o) = some (.value v) := by
              unfold execOp
              simp only [ho, hx, hy]
              rw [pr_bind hb]
              rfl
            rw [this]
            have hov : ofV v = some (.t (.lit v)) := by
              have := hf.1
              cases v <;> simp_all [ofV, flat]
            simp [hov]
          unfold opc
          simp only [ho, h5, h1]
          split
          · rename_i r d' c' e1 e2 e3
            cases e2
            cases e3
            have := hf.2
            simp only [e1, Option.isSome_some, Bool.true_and] at this
            rw [this]
            exact hfl
          · exact hfl
        · cases h
      · cases h
    · cases h
  · cases h

theorem genS_sound {o : Oper} {e : Nat → Option C} {H : Nat → Option Blk} {id : Nat} {d : D} {eff : Eff} {ps : List Prop} (h : genS P G o e H id d = some (eff, ps)) (hp : All ps) : opc P G nobody o e H id = some eff := by
  unfold genS at h
  split at h
  · split at h
    · rename_i ty a x ho
      split at h
      · rename_i b off xs i ha hx hi
        split at h
        · rename_i cs hH
          split at h
          · rename_i hc
            simp only [Option.some.injEq, Prod.mk.injEq] at h
            obtain ⟨rfl, rfl⟩ := h
            have h1 := hp _ List.mem_cons_self
            have h2 := hp _ (List.mem_cons_of_mem _ List.mem_cons_self)
            unfold opc
            simp only [ho, ha, hx, hi, hH]
            rw [if_pos ⟨hc.1, h1, hc.2⟩, h2]
          · cases h
        · cases h
      · cases h
    · cases h
  · split at h
    · rename_i ty a ho
      split at h
      · rename_i b off ha
        split at h
        · rename_i cs fz hH
          simp only [Option.some.injEq, Prod.mk.injEq] at h
          obtain ⟨rfl, rfl⟩ := h
          have h1 := hp _ List.mem_cons_self
          unfold opc
          simp only [ho, ha, hH, h1, Option.map_some]
        · cases h
      · cases h
    · cases h
  · split at h
    · rename_i ty l c ho
      split at h
      · rename_i elem ln cp hu hl hc
        split at h
        · rename_i i z hi hz
          simp only [Option.some.injEq, Prod.mk.injEq] at h
          obtain ⟨rfl, rfl⟩ := h
          obtain ⟨rfl, rfl, h3, h4⟩ := hp _ List.mem_cons_self
          have h2 := hp _ (List.mem_cons_of_mem _ List.mem_cons_self)
          unfold opc
          simp only [ho, hu, hl, hc, hi, hz]
          rw [if_pos ⟨by omega, by omega, by simpa using h3, h4⟩]
          simp [h2]
        · cases h
      · cases h
    · cases h
  · split at h
    case h_2 => cases h
    rename_i c ho
    split at h
    case h_2 => cases h
    rename_i hcal
    split at h
    case h_2 => cases h
    rename_i b n sz x t1 t2 hargs hats
    split at h
    case isFalse => cases h
    rename_i ht
    split at h
    case h_2 => cases h
    rename_i elem hu
    split at h
    case h_2 => cases h
    rename_i i z hi hz
    split at h
    case isFalse => cases h
    rename_i hzl
    split at h
    case h_2 => cases h
    rename_i src k fp cs hsrc hH
    split at h
    case isFalse => cases h
    rename_i hk
    simp only [Option.some.injEq, Prod.mk.injEq] at h
    obtain ⟨rfl, rfl⟩ := h
    have h1 : cs.length = n * i.size := hp _ (by simp)
    have h2 : roomB (n + k) i.bytes = true := hp (roomB (n + k) i.bytes = true) (by simp)
    subst ht
    unfold opc
    simp only [ho, hcal, hargs, builtinC, hats, hu, hi, hz, hzl, if_true, appendC, hsrc]
    rw [if_pos ⟨hk.1, hk.2.1⟩, if_neg hk.2.2.1]
    simp only [hH]
    rw [if_pos ⟨hk.2.2.2, h1, h2⟩]
  · rename_i r
    split at h
    case h_2 => cases h
    rename_i t m k ok ho
    split at h
    case h_2 => cases h
    rename_i key elem mm kv hu hm hk
    split at h
    case h_2 => cases h
    rename_i kd hkd
    split at h
    case isFalse => cases h
    rename_i hsk
    split at h
    case h_2 => cases h
    rename_i ks vs fp hrow
    have hfound : ∀ q : Option Nat, findK kd kv ks = some q → (∀ i, q = some i → ∃ x, vs[i]? = some x) → foundC H kd kv mm = some (q.bind fun i => vs[i]?, fp) := by
      intro q hq hx
      unfold rowsOf at hrow
      split at hrow
      · rename_i ks0 vs0
        simp only [Option.some.injEq, Prod.mk.injEq] at hrow
        obtain ⟨rfl, rfl, rfl⟩ := hrow
        unfold foundC
        cases q with
        | none => simp [hq]
        | some i =>
          obtain ⟨x, hx⟩ := hx i rfl
          rw [List.getElem?_map] at hx
          cases h0 : vs0[i]? with
          | none => simp [h0] at hx
          | some y => simp [hq, h0]
      · rename_i b
        split at hrow
        · rename_i ks0 vs0 fz hH
          simp only [Option.some.injEq, Prod.mk.injEq] at hrow
          obtain ⟨rfl, rfl, rfl⟩ := hrow
          unfold foundC
          cases q with
          | none => simp [hH, hq]
          | some i =>
            obtain ⟨x, hx⟩ := hx i rfl
            simp [hH, hq, hx]
        · cases hrow
      · cases hrow
    unfold opc
    simp only [ho, hm, hk, lookupC, hu, hkd, hsk, if_true]
    split at h
    · rename_i i
      split at h
      · rename_i x hx
        simp only [Option.some.injEq, Prod.mk.injEq] at h
        obtain ⟨rfl, rfl⟩ := h
        rw [hfound (some i) (hp _ List.mem_cons_self) (fun i' hi' => by cases hi'; exact ⟨x, hx⟩)]
        simp [hx]
      · cases h
    · split at h
      · rename_i z hz
        simp only [Option.some.injEq, Prod.mk.injEq] at h
        obtain ⟨rfl, rfl⟩ := h
        rw [hfound none (hp _ List.mem_cons_self) (fun i' hi' => by cases hi')]
        simp [hz]
      · cases h
  · rename_i r
    split at h
    case h_2 => cases h
    rename_i t m k x ho
    split at h
    case h_2 => cases h
    rename_i key elem b kv c hu hm hk hx
    split at h
    case h_2 => cases h
    rename_i kd ks vs hkd hH
    split at h
    case isFalse => cases h
    rename_i hsk
    unfold opc
    simp only [ho, hm, hk, hx, updateC, hu, hkd, hsk, if_true, hH]
    split at h
    · rename_i i
      simp only [Option.some.injEq, Prod.mk.injEq] at h
      obtain ⟨rfl, rfl⟩ := h
      have h1 : findK kd kv ks = some (some i) := hp _ (by simp)
      have h2 : vs.length = ks.length := hp (vs.length = ks.length) (by simp)
      simp [h1, h2]
    · simp only [Option.some.injEq, Prod.mk.injEq] at h
      obtain ⟨rfl, rfl⟩ := h
      have h1 : findK kd kv ks = some none := hp _ (by simp)
      simp [h1]
  · cases h

theorem opX_sound {rn : FuncId → List T → Tape → Option (List R × Tape × List Prop)} (hrn : SndX P G rn) {fid : Nat} {o : Oper} {e : Nat → Option C} {H : Nat → Option Blk} {id : Nat} {tp tp' : Tape} {eff : Eff} {ps : List Prop}
    (h : opX P G rn fid o e H id tp = some (eff, tp', ps)) (hp : All ps) : ∃ rc eff0, Snd P G rc ∧ opc P G rc o e H id = some eff0 ∧ Frozen H eff0 eff := by
  unfold opX at h
  split at h
  · simp only [Option.some.injEq, Prod.mk.injEq] at h
    obtain ⟨rfl, rfl, rfl⟩ := h
    exact ⟨nobody, _, snd_none, hp _ List.mem_cons_self, .inl rfl⟩
  · cases h
  iterate 6
    · rename_i hgen
      obtain ⟨⟨eff', qs⟩, hg, he⟩ := Option.map_eq_some_iff.1 h
      simp only [Prod.mk.injEq] at he
      obtain ⟨rfl, rfl, rfl⟩ := he
      exact ⟨nobody, _, snd_none, genS_sound hg hp, .inl rfl⟩
  · split at h
    · rename_i eff' qs hap
      simp only [Option.some.injEq, Prod.mk.injEq] at h
      obtain ⟨rfl, rfl, rfl⟩ := h
      obtain ⟨eff0, h1, h2⟩ := appS_sound hap hp
      exact ⟨nobody, eff0, snd_none, h1, h2⟩
    · cases h
  · split at h
    · rename_i qs hr
      simp only [Option.some.injEq, Prod.mk.injEq] at h
      obtain ⟨rfl, rfl, rfl⟩ := h
      exact ⟨nobody, _, snd_none, resS_sound hr hp, .inl rfl⟩
    · cases h
  · split at h
    · rename_i f cs hc
      split at h
      · rename_i ts ms hf
        split at h
        · rename_i eff' ho
          simp only [Option.some.injEq, Prod.mk.injEq] at h
          obtain ⟨rfl, rfl, rfl⟩ := h
          exact ⟨rcOf f ts _, _, rcOf_snd (hp _ List.mem_cons_self), by rw [opc_rcOf hc hf]; exact ho, .inl rfl⟩
        · cases h
      · cases h
    · cases h
  · split at h
    · rename_i f cs hc
      split at h
      · rename_i ts ms hf
        split at h
        · rename_i rs tp2 qs hr
          split at h
          · rename_i eff' ho
            simp only [Option.some.injEq, Prod.mk.injEq] at h
            obtain ⟨rfl, rfl, rfl⟩ := h
            exact ⟨rcOf f ts _, _, rcOf_snd (hrn _ _ _ _ _ _ hr hp), by rw [opc_rcOf hc hf]; exact ho, .inl rfl⟩
          · cases h
        · cases h
      · cases h
    · split at h
      · rename_i eff' ho
        simp only [Option.some.injEq, Prod.mk.injEq] at h
        obtain ⟨rfl, rfl, rfl⟩ := h
        exact ⟨nobody, _, snd_none, ho, .inl rfl⟩
      · cases h

theorem wantX_sound {fid : Nat} {ops : Array Oper} {e : Nat → Option C} {o : Oper} {tp tp' : Tape} {b : Bool} {ps : List Prop} (h : wantX fid ops e o tp = some (b, tp', ps)) (hp : All ps) : wantC ops e o = some b := by
  unfold wantX at h
  unfold wantC
  split at h
  · simp only [Option.some.injEq, Prod.mk.injEq] at h
    obtain ⟨rfl, _⟩ := h
    simp [*]
  · rename_i j want hg
    simp only [hg]
    split at h
    · cases h
    · rename_i hy
      simp only [Option.some.injEq, Prod.mk.injEq] at h
      obtain ⟨rfl, _⟩ := h
      simp [hy]
    · rename_i b' hy
      simp only [hy, Option.map_some]
      split at h
      · rename_i d tp2 _
        simp only [Option.some.injEq, Prod.mk.injEq] at h
        obtain ⟨rfl, rfl, rfl⟩ := h
        have hbd : b' = d := hp _ (by simp)
        subst hbd
        cases b' <;> cases want <;> rfl
      · simp only [Option.some.injEq, Prod.mk.injEq] at h
        obtain ⟨rfl, rfl, rfl⟩ := h
        cases b' <;> cases want <;> rfl

theorem stepX_spec {rn : FuncId → List T → Tape → Option (List R × Tape × List Prop)} (hrn : SndX P G rn) {fid nt : Nat} {ops : Array Oper} {o : Oper} {id : Nat} {s s' : S} {x y : List Nat} {tp tp' : Tape} {ps : List Prop}
    (h : stepX P G rn fid nt ops o id s tp = some (s', x, y, tp', ps)) (hp : All ps) :
    ∃ eff, Does P G nt ops o id s.e s.h eff ∧ s'.e = updE s.e o.dst eff.val ∧ s'.h = updH s.h eff.sets ∧ x = eff.sets.map (·.1) ∧ y = eff.fp ∧ s.heap.length ≤ s'.heap.length := by
  unfold stepX at h
  split at h
  · rename_i tp1 qs hw
    split at h
    · rename_i eff tp2 rs hop
      split at h
      · rename_i env hpe
        simp only [Option.some.injEq, Prod.mk.injEq] at h
        obtain ⟨rfl, rfl, rfl, rfl, rfl⟩ := h
        obtain ⟨p1, p2⟩ := hp.append
        obtain ⟨h1, h2⟩ := putE_spec hpe
        exact ⟨eff, ⟨h2, .inl ⟨wantX_sound hw p1, opX_sound hrn hop p2⟩⟩, h1, setH_get _ _, rfl, rfl, setH_length _ _⟩
      · cases h
    · cases h
  · rename_i tp1 qs hw
    split at h
    · rename_i env hpe
      simp only [Option.some.injEq, Prod.mk.injEq] at h
      obtain ⟨rfl, rfl, rfl, rfl, rfl⟩ := h
      obtain ⟨h1, h2⟩ := putE_spec hpe
      exact ⟨⟨.tup [], [], []⟩, ⟨h2, .inr ⟨wantX_sound hw hp, rfl⟩⟩, h1, rfl, rfl, rfl, Nat.le_refl _⟩
    · cases h
  · cases h

theorem runOX_RunR {rn : FuncId → List T → Tape → Option (List R × Tape × List Prop)} (hrn : SndX P G rn) {fid nt : Nat} {ops : Array Oper} : ∀ (l : List Oper) (id : Nat) (s s' : S) (tr : List (List Nat × List Nat)) (tp tp' : Tape) (ps : List Prop),
    runOX P G rn fid nt ops l id s tp = some (s', tr, tp', ps) → All ps → RunR P G nt ops l id s s' tr
  | [], id, s, s', tr, tp, tp', ps, h, hp => by
    simp only [runOX, Option.some.injEq, Prod.mk.injEq] at h
    obtain ⟨rfl, rfl, _⟩ := h
    exact .nil _ _
  | o :: l, id, s, s', tr, tp, tp', ps, h, hp => by
    simp only [runOX] at h
    split at h
    · rename_i s1 x y tp1 qs hst
      split at h
      · rename_i s2 tr' tp2 rs hrun
        simp only [Option.some.injEq, Prod.mk.injEq] at h
        obtain ⟨rfl, rfl, rfl, rfl⟩ := h
        obtain ⟨p1, p2⟩ := hp.append
        obtain ⟨eff, hdo, h1, h2, rfl, rfl, hlen⟩ := stepX_spec hrn hst p1
        exact .cons hdo h1 h2 hlen (runOX_RunR hrn l _ s1 s2 tr' _ _ _ hrun p2)
      · cases h
    · cases h

theorem regionX_RegionR {rn : FuncId → List T → Tape → Option (List R × Tape × List Prop)} (hrn : SndX P G rn) {fid nt : Nat} {ops : Array Oper} {draw : Bool} {s s' : S} {tp tp' : Tape} {ps : List Prop}
    (h : regionX P G rn fid nt ops draw s tp = some (s', tp', ps)) (hp : All ps) : RegionR P G nt ops draw s s' := by
  unfold regionX at h
  split at h
  · rename_i s1 tr tp1 qs hrun
    split at h
    · rename_i hc
      simp only [Option.some.injEq, Prod.mk.injEq] at h
      obtain ⟨rfl, rfl, rfl⟩ := h
      exact ⟨tr, runOX_RunR hrn _ _ _ _ _ _ _ _ hrun hp, hc⟩
    · cases h
  · cases h

/-! ## Bodies: the rules -/
variable {nt : Nat}
theorem ExecS.skip (s : S) : ExecS P G nt .skip s .normal s := fun _ _ _ _ _ _ _ _ hs hq => wp_skip (hq _ _ _ _ hs)
theorem ExecS.label (l : Nat) (s : S) : ExecS P G nt (.label l) s .normal s := fun _ _ _ _ _ _ _ _ hs hq => wp_label (hq _ _ _ _ hs)
theorem ExecS.exit (id : Nat) (s : S) : ExecS P G nt (.exit id) s (.exit id) s := fun _ _ _ _ _ _ _ _ hs hq => wp_exit (hq _ _ _ _ hs)
theorem ExecS.ret (s : S) : ExecS P G nt .ret s .ret s := fun _ _ _ _ _ _ _ _ hs hq => wp_ret (hq _ _ _ _ hs)
theorem ExecS.region (hm : P.follows .mixedOrders = true) {id : Nat} {ops : Array Oper} {draw : Bool} {s s' : S} (h : RegionR P G nt ops draw s s') : ExecS P G nt (.region id ops draw) s .normal s' :=
  fun _ _ _ _ _ _ _ hb hs hq => region_sound hm hb hs h hq
theorem ExecS.seq {x y : Code} {s s1 s' : S} {z : Ex} (h1 : ExecS P G nt x s .normal s1) (h2 : ExecS P G nt y s1 z s') : ExecS P G nt (.seq x y) s z s' :=
  fun base w0 ρ I a w Q hb hs hq => wp_seq (h1 base w0 ρ I a w _ hb hs fun ρ' I' a' w' hs' => h2 base w0 ρ' I' a' w' Q hb hs' hq)
theorem ExecS.seqOut {x y : Code} {s s' : S} {z : Ex} (hz : z ≠ .normal) (h1 : ExecS P G nt x s z s') : ExecS P G nt (.seq x y) s z s' :=
  fun base w0 ρ I a w Q hb hs hq => wp_seq (h1 base w0 ρ I a w _ hb hs fun ρ' I' a' w' hs' => by
    have := hq ρ' I' a' w' hs'
    cases z with
    | normal => exact (hz rfl).elim
    | exit id => exact this
    | ret => exact this)
theorem ExecS.cond {c : Operand} {x y : Code} {s s' : S} {z : Ex} {b : Bool} (hc : ev G s.e c = some (.t (.lit (.bool b)))) (h : ExecS P G nt (if b then x else y) s z s') : ExecS P G nt (.cond c x y) s z s' :=
  fun base w0 ρ I a w Q hb hs hq => by
    have hv := ev_sound hs.1 hc
    simp only [RC, RT] at hv
    exact wp_cond (t := b) hv.1 (h base w0 ρ I a w Q hb hs hq)
theorem ExecS.blockIn {id : Nat} {b : Code} {s s' : S} (h : ExecS P G nt b s (.exit id) s') : ExecS P G nt (.block id b) s .normal s' :=
  fun base w0 ρ I a w Q hb hs hq => wp_block (h base w0 ρ I a w _ hb hs fun ρ' I' a' w' hs' => by
    show (if id = id then Q .normal a' w' else Q (.exit id) a' w')
    rw [if_pos rfl]
    exact hq ρ' I' a' w' hs')
theorem ExecS.block {id : Nat} {b : Code} {s s' : S} {z : Ex} (hz : z ≠ .exit id) (h : ExecS P G nt b s z s') : ExecS P G nt (.block id b) s z s' :=
  fun base w0 ρ I a w Q hb hs hq => wp_block (h base w0 ρ I a w _ hb hs fun ρ' I' a' w' hs' => by
    have := hq ρ' I' a' w' hs'
    cases z with
    | normal => exact this
    | exit j =>
      show (if j = id then Q .normal a' w' else Q (.exit j) a' w')
      rw [if_neg fun e => hz (by rw [e])]
      exact this
    | ret => exact this)

/-- Rounds of a body, numbered anew behind each. -/
inductive Rounds (P : Program) (G : Nat → Option (List T)) (nt : Nat) (b : Code) (ks : List Nat) : S → Ex → S → Prop
  | out {s s' : S} {z : Ex} (hz : z ≠ .normal) (h : ExecS P G nt b s z s') : Rounds P G nt b ks s z s'
  | round {s s1 s2 s' : S} {z : Ex} (h : ExecS P G nt b s .normal s1) (ht : tidy ks s1 = some s2) (hr : Rounds P G nt b ks s2 z s') : Rounds P G nt b ks s z s'
theorem Rounds.count {b : Code} {ks : List Nat} {s s' : S} {z : Ex} (h : Rounds P G nt b ks s z s') : ∃ n, ∀ (base : Nat) (w0 : Base) (ρ : Nat → Option Nat) (I : Nat → Prop) (a : Act) (w : World) (Q : Exit → Act → World → Prop), base ≤ w0.w.heap.size → SimS G base w0 nt ρ I s a w →
    (∀ ρ' I' a' w', SimS G base w0 nt ρ' I' s' a' w' → Q (exitOf z) a' w') → Code.rounds P b Q n a w := by
  induction h with
  | @out s s' z hz h =>
    refine ⟨1, fun base w0 ρ I a w Q hb hs hq => ?_⟩
    rw [rounds_succ]
    refine h base w0 ρ I a w _ hb hs fun ρ' I' a' w' hs' => ?_
    have := hq ρ' I' a' w' hs'
    cases z with
    | normal => exact (hz rfl).elim
    | exit id => exact this
    | ret => exact this
  | @round s s1 s2 s' z h ht hr ih =>
    obtain ⟨n, hn⟩ := ih
    refine ⟨n + 1, fun base w0 ρ I a w Q hb hs hq => ?_⟩
    rw [rounds_succ]
    refine h base w0 ρ I a w _ hb hs fun ρ' I' a' w' hs' => ?_
    obtain ⟨ρ'', hs''⟩ := tidy_sound hs' ht
    exact hn base w0 ρ'' I' a' w' Q hb hs'' hq
theorem Rounds.loop {b : Code} {ks : List Nat} {s s' : S} {z : Ex} (h : Rounds P G nt b ks s z s') : ExecS P G nt (.loop b) s z s' := by
  obtain ⟨n, hn⟩ := h.count
  exact fun base w0 ρ I a w Q hb hs hq => wp_loop_rounds n (hn base w0 ρ I a w Q hb hs hq)

/-! ## What the tape leads to -/
theorem iterX_sound {f : S → Tape → Option (Ex × S × Tape × List Prop)} {c : Code} {ks : List Nat} (hf : ∀ s tp x s' tp' ps, f s tp = some (x, s', tp', ps) → All ps → ExecS P G nt c s x s') :
    ∀ (m : Nat) (s : S) (tp : Tape) (x : Ex) (s' : S) (tp' : Tape) (ps : List Prop), iterX f ks m s tp = some (x, s', tp', ps) → All ps → Rounds P G nt c ks s x s'
  | 0, s, tp, x, s', tp', ps, h, hp => by simp [iterX] at h
  | m + 1, s, tp, x, s', tp', ps, h, hp => by
    simp only [iterX] at h
    split at h
    · rename_i s1 tp1 qs h1
      split at h
      · rename_i s2 h2
        split at h
        · rename_i y s3 tp2 rs h3
          simp only [Option.some.injEq, Prod.mk.injEq] at h
          obtain ⟨rfl, rfl, rfl, rfl⟩ := h
          obtain ⟨p1, p2⟩ := hp.append
          exact .round (hf _ _ _ _ _ _ h1 p1) h2 (iterX_sound hf m s2 _ _ _ _ _ h3 p2)
        · cases h
      · cases h
    · rename_i hne
      refine .out ?_ (hf _ _ _ _ _ _ h hp)
      rintro rfl
      exact hne _ _ _ h

theorem execX_sound (hm : P.follows .mixedOrders = true) {rn : FuncId → List T → Tape → Option (List R × Tape × List Prop)} (hrn : SndX P G rn) (fid n : Nat) :
    ∀ (c : Code) (s : S) (tp : Tape) (x : Ex) (s' : S) (tp' : Tape) (ps : List Prop), execX P G rn fid nt n c s tp = some (x, s', tp', ps) → All ps → ExecS P G nt c s x s' := by
  intro c
  induction c with
  | skip =>
    intro s tp x s' tp' ps h hp
    simp only [execX, Option.some.injEq, Prod.mk.injEq] at h
    obtain ⟨rfl, rfl, _⟩ := h
    exact .skip _
  | label l =>
    intro s tp x s' tp' ps h hp
    simp only [execX, Option.some.injEq, Prod.mk.injEq] at h
    obtain ⟨rfl, rfl, _⟩ := h
    exact .label _ _
  | region id ops draw =>
    intro s tp x s' tp' ps h hp
    simp only [execX] at h
    split at h
    · rename_i s1 tp1 qs hr
      simp only [Option.some.injEq, Prod.mk.injEq] at h
      obtain ⟨rfl, rfl, rfl, rfl⟩ := h
      exact .region hm (regionX_RegionR hrn hr hp)
    · cases h
  | seq x y ihx ihy =>
    intro s tp z s' tp' ps h hp
    simp only [execX] at h
    split at h
    · rename_i s1 tp1 qs h1
      split at h
      · rename_i z' s2 tp2 rs h2
        simp only [Option.some.injEq, Prod.mk.injEq] at h
        obtain ⟨rfl, rfl, rfl, rfl⟩ := h
        obtain ⟨p1, p2⟩ := hp.append
        exact .seq (ihx _ _ _ _ _ _ h1 p1) (ihy _ _ _ _ _ _ h2 p2)
      · cases h
    · rename_i hne
      refine .seqOut ?_ (ihx _ _ _ _ _ _ h hp)
      rintro rfl
      exact hne _ _ _ h
  | cond c x y ihx ihy =>
    intro s tp z s' tp' ps h hp
    simp only [execX] at h
    split at h
    · rename_i b hc
      split at h
      · rename_i d tp1 _
        split at h
        · rename_i z' s2 tp2 qs h2
          simp only [Option.some.injEq, Prod.mk.injEq] at h
          obtain ⟨rfl, rfl, rfl, rfl⟩ := h
          have hbd : b = d := hp _ List.mem_cons_self
          have hp' : All qs := fun p hq => hp p (List.mem_cons_of_mem _ hq)
          subst hbd
          refine .cond hc ?_
          cases b with
          | true => exact ihx _ _ _ _ _ _ h2 hp'
          | false => exact ihy _ _ _ _ _ _ h2 hp'
        · cases h
      · refine .cond hc ?_
        cases b with
        | true => exact ihx _ _ _ _ _ _ h hp
        | false => exact ihy _ _ _ _ _ _ h hp
    · cases h
  | block id b ih =>
    intro s tp z s' tp' ps h hp
    simp only [execX] at h
    split at h
    · rename_i j s1 tp1 qs h1
      split at h <;> cases h
      · rename_i hj
        subst hj
        exact .blockIn (ih _ _ _ _ _ _ h1 hp)
      · rename_i hj
        exact .block (fun e => by cases e; exact hj rfl) (ih _ _ _ _ _ _ h1 hp)
    · rename_i hne
      refine .block ?_ (ih _ _ _ _ _ _ h hp)
      rintro rfl
      exact hne _ _ _ _ h
  | loop b ih =>
    intro s tp z s' tp' ps h hp
    simp only [execX] at h
    exact (iterX_sound (fun s tp x s' tp' ps h hp => ih s tp x s' tp' ps h hp) n s tp z s' tp' ps h hp).loop
  | exit id =>
    intro s tp x s' tp' ps h hp
    simp only [execX, Option.some.injEq, Prod.mk.injEq] at h
    obtain ⟨rfl, rfl, _⟩ := h
    exact .exit _ _
  | ret =>
    intro s tp x s' tp' ps h hp
    simp only [execX, Option.some.injEq, Prod.mk.injEq] at h
    obtain ⟨rfl, rfl, _⟩ := h
    exact .ret _
  | _ => intro s tp x s' tp' ps h; simp only [execX] at h; cases h

/-- A call, by its body. -/
theorem holds_of_ExecS {f : FuncId} {fn : Func} {c : Code} {args : List T} {x : Ex} {s' : S} {rs : List R} (hfn : P.funcs[f]? = some fn) (hc : fn.body = some c) (hlen : args.length ≤ fn.ntmps) (h : ExecS P G fn.ntmps c ⟨initE args 0, []⟩ x s')
    (hx : x = .normal ∨ x = .ret) (hr : retR P fn s' = some rs) : Holds P G f args rs := by
  intro w I vs hg hlt hargs
  refine calls_of_wp hfn hc ?_
  have hvl := hargs.length
  have hst : SimS G w.heap.size ⟨w, I⟩ fn.ntmps (fun _ => none) I ⟨initE args 0, []⟩ { tmps := vs.toArray ++ Array.replicate (fn.ntmps - vs.toArray.size) undef, defers := [] } w := by
    refine ⟨⟨⟨Below.refl _ _, hlt, hg, (fun b k hk => by simp [S.h] at hk), (fun b b' k k' r h1 => by simp [S.h] at h1), (fun b r hr => by cases hr), fun b hb => hb, fun b hb => .inl hb⟩, rfl, ?_, fun k c hk => ?_⟩, fun _ _ => rfl⟩
    · simp [hvl]; omega
    · obtain ⟨t, _, h2, rfl⟩ := initE_look args 0 k c hk
      rw [Nat.sub_zero] at h2
      obtain ⟨v, v1, v2⟩ := hargs.get h2
      have hk' := (List.getElem?_eq_some_iff.1 v1).1
      have : (vs.toArray ++ Array.replicate (fn.ntmps - vs.toArray.size) undef).getD k undef = v := by
        simp only [Array.getD_eq_getD_getElem?]
        rw [Array.getElem?_append_left (by simpa using hk')]
        simp [v1]
      simp only [RC]
      rw [this]
      exact v2
  refine h w.heap.size ⟨w, I⟩ _ _ _ _ _ (Nat.le_refl _) hst fun ρ' I' a' w' hs' => ?_
  have fin : a'.defers = [] ∧ ∃ v, (results fn a'.tmps).run P w' = .ok v w' ∧ ∃ outs J os, Ending.returned v = .returned (retV outs) ∧ Below w.heap.size w w' ∧ (∀ b, I b → J b) ∧ (∀ b, J b → I b ∨ (w.heap.size ≤ b ∧ b < w'.heap.size)) ∧
      RR w'.heap J w.heap.size rs outs os ∧ os.Nodup := by
    obtain ⟨outs, os, K, k1, k2, k3, k4, k5⟩ := retR_sound (w0 := ⟨w, I⟩) rfl hr hs'
    exact ⟨hs'.1.defers, _, k1, outs, K, os, rfl, hs'.1.mem.below, k2, k3, k4, k5⟩
  rcases hx with rfl | rfl
  · exact fin
  · exact fin

theorem runX_sound (hm : P.follows .mixedOrders = true) {intr : FuncId → List T → Option (List R)} (hi : Snd P G intr) :
    ∀ (n : Nat), SndX P G (runX P G intr n)
  | 0, f, ts, tp, rs, tp', ps, h, hp => by simp [runX] at h
  | n + 1, f, ts, tp, rs, tp', ps, h, hp => by
    simp only [runX] at h
    split at h
    · rename_i r hr
      simp only [Option.some.injEq, Prod.mk.injEq] at h
      obtain ⟨rfl, _⟩ := h
      exact hi f ts _ hr
    · split at h
      case h_2 => cases h
      rename_i fn hfn
      split at h
      case h_2 => cases h
      rename_i c hc
      split at h
      case isFalse => cases h
      rename_i hlen
      split at h
      · rename_i s1 tp1 qs hex
        split at h
        · rename_i rs' hret
          simp only [Option.some.injEq, Prod.mk.injEq] at h
          obtain ⟨rfl, rfl, rfl⟩ := h
          exact holds_of_ExecS hfn hc hlen (execX_sound hm (runX_sound hm hi n) f n _ _ _ _ _ _ _ hex hp) (.inl rfl) hret
        · cases h
      · rename_i s1 tp1 qs hex
        split at h
        · rename_i rs' hret
          simp only [Option.some.injEq, Prod.mk.injEq] at h
          obtain ⟨rfl, rfl, rfl⟩ := h
          exact holds_of_ExecS hfn hc hlen (execX_sound hm (runX_sound hm hi n) f n _ _ _ _ _ _ _ hex hp) (.inr rfl) hret
        · cases h
      · cases h

/-! ## A body in pieces -/
theorem ExecS.tidy {c : Code} {s s1 s' : S} {x : Ex} {ks : List Nat} (ht : Va.tidy ks s = some s1) (h : ExecS P G nt c s1 x s') : ExecS P G nt c s x s' :=
  fun base w0 ρ I a w Q hb hs hq => by
    obtain ⟨ρ', hs'⟩ := tidy_sound hs ht
    exact h base w0 ρ' I a w Q hb hs' hq

/-- The first pieces of a row of pieces, and what is left of it. -/
def preX (P : Program) (G : Nat → Option (List T)) (rn : FuncId → List T → Tape → Option (List R × Tape × List Prop)) (fid nt n : Nat) : Nat → Code → S → Tape → Option (S × Tape × List Prop)
  | 0, _, s, tp => some (s, tp, [])
  | k + 1, .seq a b, s, tp => match execX P G rn fid nt n a s tp with
    | some (.normal, s', tp', ps) => match preX P G rn fid nt n k b s' tp' with
      | some (s'', tp'', qs) => some (s'', tp'', ps ++ qs)
      | none => none
    | _ => none
  | _, _, _, _ => none
def restC : Nat → Code → Code
  | 0, c => c
  | k + 1, .seq _ b => restC k b
  | _, c => c
theorem preX_sound (hm : P.follows .mixedOrders = true) {rn : FuncId → List T → Tape → Option (List R × Tape × List Prop)} (hrn : SndX P G rn) {fid n : Nat} :
    ∀ {k : Nat} {c : Code} {s s1 s' : S} {z : Ex} {tp tp' : Tape} {ps : List Prop}, preX P G rn fid nt n k c s tp = some (s1, tp', ps) → All ps → ExecS P G nt (restC k c) s1 z s' → ExecS P G nt c s z s'
  | 0, c, s, s1, s', z, tp, tp', ps, h, hp, hr => by
    simp only [preX, Option.some.injEq, Prod.mk.injEq] at h
    obtain ⟨rfl, _⟩ := h
    exact hr
  | k + 1, c, s, s1, s', z, tp, tp', ps, h, hp, hr => by
    cases c with
    | seq a b =>
      simp only [preX] at h
      split at h
      · rename_i s2 tp2 qs h1
        split at h
        · rename_i s3 tp3 rs h2
          simp only [Option.some.injEq, Prod.mk.injEq] at h
          obtain ⟨rfl, rfl, rfl⟩ := h
          obtain ⟨p1, p2⟩ := hp.append
          exact .seq (execX_sound hm hrn fid n _ _ _ _ _ _ _ h1 p1) (preX_sound hm hrn h2 p2 hr)
        · cases h
      · cases h
    | _ => simp [preX] at h
end
end Go.Va
