/- Each operation of the interpreter is what the model does: indices, slices, maps, assertions, builtins. -/
import Derived.Test.YtaomebcmmjhplaaGreatDoorVa6
namespace Go.Va
open Go Go.RowKit

section
variable {P : Program} {G : Nat → Option (List T)} {base nt : Nat} {w0 : Base} {w : World} {ρ : Nat → Option Nat} {I : Nat → Prop} {e : Nat → Option C} {H : Nat → Option Blk} {a : Act}

theorem ptr_of_sl {ts : List T} {n : Nat} {clip : Bool} {v : Value} {h : Array Obj} (hv : RT h I (.sl ts n clip) v) :
    ∃ b lo cap, v = .slice (some ⟨b, lo, none⟩) n cap ∧ ∀ off, RT h I (.ptr ts off) (.pointer (some ⟨b, lo + off, none⟩)) := by
  simp only [RT] at hv
  obtain ⟨b, lo, cap, c, el, fr, rfl, h1, h2, h3, h4, h5⟩ := hv
  exact ⟨b, lo, cap, rfl, fun off => by simp only [RT]; exact ⟨b, lo, c, el, fr, rfl, h1, h2, h3, h4⟩⟩

theorem indexAddr_sound (hs : Sim G base w0 nt ρ I e H a w) {o : Oper} {t : TypeId} {x i : Operand} (ho : o.op = .indexAddr t x i) {eff : Eff} (lo hi : Nat) {c : C} {ix : Int}
    (hx : ev G e x = some c) (hi' : (ev G e i).bind intL = some ix) (h : indexAddrC P t c ix = some eff) : Res P o a w fun v w' => Step G base w0 ρ I H w lo hi eff v ρ I w' := by
  obtain ⟨y, hy1, hy2⟩ := Option.bind_eq_some_iff.1 hi'
  obtain ⟨k, e1⟩ := intL_sound hy2 (ev_sound hs hy1)
  have hv := ev_sound hs hx
  unfold indexAddrC at h
  split at h
  · rename_i elem hu
    split at h
    · rename_i ie ts n clip hie
      split at h
      · rename_i hb
        cases h
        simp only [RC] at hv
        obtain ⟨b, l, cap, hv, hp⟩ := ptr_of_sl hv
        refine .inl ⟨.pointer (some ⟨b, l + ix.toNat * ie.size, none⟩), w, ?_, Step.still hs.mem (by simp only [RC]; exact hp _)⟩
        simp [execOp, ho, hv, e1, Instr.indexAt, asIntOf, run_underlying hu, hb.1, hb.2, run_sizeOf' hie, addr_add]
      · cases h
    · rename_i ie b n sz hie
      split at h
      · rename_i hb
        cases h
        simp only [RC] at hv
        obtain ⟨r, cap, c0, e0, fr0, hr, hv, _⟩ := hv
        refine .inl ⟨.pointer (some ⟨r, ix.toNat * ie.size, none⟩), w, ?_, Step.still hs.mem (by simp only [RC]; exact ⟨r, hr, rfl⟩)⟩
        simp [execOp, ho, hv, e1, Instr.indexAt, asIntOf, run_underlying hu, hb.1, hb.2, run_sizeOf' hie, addr_add]
      · cases h
    · cases h
  · rename_i len elem hu
    split at h
    · rename_i ie ts off hie
      split at h
      · rename_i hb
        cases h
        simp only [RC, RT] at hv
        obtain ⟨b, l, c, el, fr, hv, h2⟩ := hv
        refine .inl ⟨.pointer (some ⟨b, l + (off + ix.toNat * ie.size), none⟩), w, ?_, Step.still hs.mem (by simp only [RC, RT]; exact ⟨b, l, c, el, fr, rfl, h2⟩)⟩
        simp [execOp, ho, hv, e1, Instr.indexAt, asIntOf, run_underlying hu, hb.1, hb.2, run_sizeOf' hie, addr_add, Instr.sureAddr, Nat.add_assoc]
      · cases h
    · rename_i ie b off hie
      split at h
      · rename_i hb
        cases h
        simp only [RC] at hv
        obtain ⟨r, hr, hv⟩ := hv
        refine .inl ⟨.pointer (some ⟨r, off + ix.toNat * ie.size, none⟩), w, ?_, Step.still hs.mem (by simp only [RC]; exact ⟨r, hr, rfl⟩)⟩
        simp [execOp, ho, hv, e1, Instr.indexAt, asIntOf, run_underlying hu, hb.1, hb.2, run_sizeOf' hie, addr_add, Instr.sureAddr]
      · cases h
    · cases h
  · cases h

theorem index_sound (hs : Sim G base w0 nt ρ I e H a w) {o : Oper} {t : TypeId} {x i : Operand} (ho : o.op = .index t x i) {eff : Eff} (lo hi : Nat) {len : Nat} {elem : TypeId} (hu : P.underlying t = some (.array len elem))
    (h : (match ev G e x, (ev G e i).bind intL, P.info? elem with
      | some (.agg cs), some n, some k => if 0 ≤ n ∧ n < len then (partC P elem cs (n.toNat * k.size)).map fun c => (⟨c, [], []⟩ : Eff) else none
      | some (.t (.agg ts)), some n, some k => if 0 ≤ n ∧ n < len then (partC P elem (ts.map .t) (n.toNat * k.size)).map fun c => ⟨c, [], []⟩ else none
      | _, _, _ => none) = some eff) : Res P o a w fun v w' => Step G base w0 ρ I H w lo hi eff v ρ I w' := by
  split at h
  · rename_i cs n k hx hi' hk
    split at h
    · rename_i hb
      obtain ⟨y, hy1, hy2⟩ := Option.bind_eq_some_iff.1 hi'
      obtain ⟨kk, e1⟩ := intL_sound hy2 (ev_sound hs hy1)
      cases hp : partC P elem cs (n.toNat * k.size) with
      | none => simp [hp] at h
      | some c =>
        simp only [hp, Option.map_some, Option.some.injEq] at h
        subst h
        have hv := ev_sound hs hx
        simp only [RC] at hv
        obtain ⟨vs, hv, h1⟩ := hv
        obtain ⟨u, h2, h3⟩ := part_part hp h1
        refine .inl ⟨u, w, ?_, Step.still hs.mem h3⟩
        simp [execOp, ho, hv, e1, Instr.index, asIntOf, run_underlying hu, hb.1, hb.2, run_sizeOf' hk, h2]
    · cases h
  · rename_i ts n k hx hi' hk
    split at h
    · rename_i hb
      obtain ⟨y, hy1, hy2⟩ := Option.bind_eq_some_iff.1 hi'
      obtain ⟨kk, e1⟩ := intL_sound hy2 (ev_sound hs hy1)
      cases hp : partC P elem (ts.map .t) (n.toNat * k.size) with
      | none => simp [hp] at h
      | some c =>
        simp only [hp, Option.map_some, Option.some.injEq] at h
        subst h
        have hv := ev_sound hs hx
        simp only [RC, RT] at hv
        obtain ⟨vs, hv, h1⟩ := hv
        obtain ⟨u, h2, h3⟩ := part_part (ρ := ρ) hp (RCs.of_RTs h1)
        refine .inl ⟨u, w, ?_, Step.still hs.mem h3⟩
        simp [execOp, ho, hv, e1, Instr.index, asIntOf, run_underlying hu, hb.1, hb.2, run_sizeOf' hk, h2]
    · cases h
  · cases h

theorem typeAssert_sound (hs : Sim G base w0 nt ρ I e H a w) {o : Oper} {x : Operand} {xt asserted : TypeId} {ok : Bool} (ho : o.op = .typeAssert x xt asserted ok) {eff : Eff} (lo hi : Nat)
    (h : (match P.underlying asserted, ev G e x with
    | some (.interface _), _ => none
    | some _, some (.t (.ifc t y)) => if t = asserted then some (⟨if ok then .tup [.t y, goB true] else .t y, [], []⟩ : Eff)
        else if ok then (zeroC P asserted).map fun z => ⟨.tup [z, goB false], [], []⟩ else none
    | some _, some (.t (.lit .nilIface)) => if ok then (zeroC P asserted).map fun z => ⟨.tup [z, goB false], [], []⟩ else none
    | _, _ => none) = some eff) : Res P o a w fun v w' => Step G base w0 ρ I H w lo hi eff v ρ I w' := by
  have hB : ∀ b, RC ρ w.heap I (goB b) (.bool b) := fun b => RC_lit rfl
  split at h
  · cases h
  · rename_i d t y hni hu hx
    have hv := ev_sound hs hx
    simp only [RC, RT] at hv
    obtain ⟨u, hv, h1⟩ := hv
    split at h
    · rename_i ht
      cases h
      subst ht
      cases ok with
      | true =>
        refine .inl ⟨.tuple #[u, .bool true], w, ?_, Step.still hs.mem (by simp only [if_true, RC]; exact ⟨_, rfl, by simp only [RCs, RC]; exact ⟨u, _, rfl, h1, _, _, rfl, hB true, rfl⟩⟩)⟩
        simp only [execOp, ho, hv, Instr.typeAssert, Sem.run_bind, run_underlying hu, Result.andThen_ok]
        cases d <;> first | (exact (hni _ rfl).elim) | simp
      | false =>
        refine .inl ⟨u, w, ?_, Step.still hs.mem (by simpa [RC] using h1)⟩
        simp only [execOp, ho, hv, Instr.typeAssert, Sem.run_bind, run_underlying hu, Result.andThen_ok]
        cases d <;> first | (exact (hni _ rfl).elim) | simp
    · rename_i ht
      cases ok with
      | false => simp at h
      | true =>
        simp only [if_true] at h
        cases hz : zeroC P asserted with
        | none => simp [hz] at h
        | some z =>
          simp only [hz, Option.map_some, Option.some.injEq] at h
          subst h
          obtain ⟨i, zv, g1, g2, g3⟩ := zeroC_sound (ρ := ρ) (w := w) (I := I) hz
          refine .inl ⟨.tuple #[zv, .bool false], w, ?_, Step.still hs.mem (by simp only [RC]; exact ⟨_, rfl, by simp only [RCs]; exact ⟨zv, _, rfl, g3, _, _, rfl, hB false, rfl⟩⟩)⟩
          simp only [execOp, ho, hv, Instr.typeAssert, Sem.run_bind, run_underlying hu, Result.andThen_ok]
          cases d <;> first | (exact (hni _ rfl).elim) | simp [ht, run_zeroValue' g1 g2]
  · rename_i d hni hu hx
    have hv := ev_sound hs hx
    simp only [RC, RT] at hv
    cases ok with
    | false => simp at h
    | true =>
      simp only [if_true] at h
      cases hz : zeroC P asserted with
      | none => simp [hz] at h
      | some z =>
        simp only [hz, Option.map_some, Option.some.injEq] at h
        subst h
        obtain ⟨i, zv, g1, g2, g3⟩ := zeroC_sound (ρ := ρ) (w := w) (I := I) hz
        refine .inl ⟨.tuple #[zv, .bool false], w, ?_, Step.still hs.mem (by simp only [RC]; exact ⟨_, rfl, by simp only [RCs]; exact ⟨zv, _, rfl, g3, _, _, rfl, hB false, rfl⟩⟩)⟩
        simp only [execOp, ho, hv.1, Instr.typeAssert, Sem.run_bind, run_underlying hu, Result.andThen_ok]
        cases d <;> first | (exact (hni _ rfl).elim) | simp [run_zeroValue' g1 g2]
  · cases h

/-! ### '== nil' -/
def there : TypeDesc → Value → Prop
  | .slice _, .slice (some _) _ _ => True
  | .map _ _, .map (some _) => True
  | .interface _, .iface _ _ => True
  | .func _ _ _, .func _ _ _ => True
  | .pointer _, .pointer (some _) => True
  | _, _ => False

theorem there_of {d : TypeDesc} {c : C} {v : Value} (hn : notNil d c = true) (hv : RC ρ w.heap I c v) : there d v := by
  unfold notNil at hn
  split at hn
  all_goals first
    | (cases hn; done)
    | (simp only [RC, RT] at hv; obtain ⟨b, lo, cap, c, e, fr, rfl, _⟩ := hv; trivial)
    | (simp only [RC, RT] at hv; obtain ⟨b, lo, c, e, fr, rfl, _⟩ := hv; trivial)
    | (simp only [RC, RT] at hv; obtain ⟨b, c, e, rfl, _⟩ := hv; trivial)
    | (simp only [RC, RT] at hv; obtain ⟨b, c, e, l, rfl, _⟩ := hv; trivial)
    | (simp only [RC, RT] at hv; obtain ⟨r, cap, c, e, fr, _, rfl, _⟩ := hv; trivial)
    | (simp only [RC, RT] at hv; obtain ⟨r, _, rfl⟩ := hv; trivial)
    | (simp only [RC, RT] at hv; obtain ⟨u, rfl, _⟩ := hv; trivial)
    | (simp only [RC, RT] at hv; obtain ⟨u, t, rfl, _⟩ := hv; trivial)

theorem equalIn_there {d : TypeDesc} {t : TypeId} {y : Operand} {v : Value} (hu : P.underlying t = some d) (hy : nilFor d y = true) (hv : there d v) (n : Nat) :
    (Op.equalIn (n + 1) t v (a.eval y)).run P w = .ok false w ∧ (∀ k b, v ≠ .int k b) ∧ (∀ k b, v ≠ .float k b) ∧ (∀ k b c, v ≠ .complex k b c) ∧ (∀ s, v ≠ .string s) ∧ v ≠ .nilIface ∧ (∀ c, v ≠ .agg c) := by
  unfold nilFor at hy
  split at hy
  all_goals first | (cases hy; done) | skip
  all_goals (cases v <;> simp only [there] at hv)
  · rename_i x l c
    cases x with
    | none => exact hv.elim
    | some x => refine ⟨?_, by simp, by simp, by simp, by simp, by simp, by simp⟩; simp only [Act.eval, Op.equalIn, Sem.run_bind, run_underlying hu, Result.andThen_ok, Sem.run_pure]
  · rename_i x
    cases x with
    | none => exact hv.elim
    | some x => refine ⟨?_, by simp, by simp, by simp, by simp, by simp, by simp⟩; simp only [Act.eval, Op.equalIn, Sem.run_bind, run_underlying hu, Result.andThen_ok, Sem.run_pure]
  · refine ⟨?_, by simp, by simp, by simp, by simp, by simp, by simp⟩; simp only [Act.eval, Op.equalIn, Sem.run_bind, run_underlying hu, Result.andThen_ok, Sem.run_pure]
  · refine ⟨?_, by simp, by simp, by simp, by simp, by simp, by simp⟩; simp only [Act.eval, Op.equalIn, Sem.run_bind, run_underlying hu, Result.andThen_ok, Sem.run_pure]
  · rename_i x
    cases x with
    | none => exact hv.elim
    | some x => refine ⟨?_, by simp, by simp, by simp, by simp, by simp, by simp⟩; simp only [Act.eval, Op.equalIn, Sem.run_bind, run_underlying hu, Result.andThen_ok, Sem.run_pure]

theorem run_eqNil {op : BinOp} {r : Bool} {d : TypeDesc} {t : TypeId} {x y : Operand} {v : Value} (hop : eqOp op = some r) (hu : P.underlying t = some d) (hy : nilFor d y = true) (hv : there d v) :
    (eqGuard op t x y v (a.eval y)).run P w = .ok () w ∧ (binOp op t v (a.eval y)).run P w = .ok (.bool r) w := by
  obtain ⟨g, n1, n2, n3, n4, n5, n6⟩ := equalIn_there (P := P) (a := a) (w := w) hu hy hv 9999
  have g' : (Op.equal t v (a.eval y)).run P w = .ok false w := g
  have hs : op = .eql ∧ r = false ∨ op = .neq ∧ r = true := by cases op <;> simp [eqOp] at hop <;> simp [hop]
  generalize a.eval y = z at g'
  constructor
  · rcases hs with ⟨rfl, rfl⟩ | ⟨rfl, rfl⟩ <;> (unfold eqGuard; cases v <;> first | (exact (n5 rfl).elim) | (exact (n6 _ rfl).elim) | simp)
  · rcases hs with ⟨rfl, rfl⟩ | ⟨rfl, rfl⟩ <;> (cases v <;> first
      | (exact (n1 _ _ rfl).elim) | (exact (n2 _ _ rfl).elim) | (exact (n3 _ _ _ rfl).elim) | (exact (n4 _ rfl).elim) | (simp only [binOp, Sem.run_bind, g', Result.andThen_ok, Sem.run_pure] <;> rfl))

theorem binOp_sound (hs : Sim G base w0 nt ρ I e H a w) {o : Oper} {op : BinOp} {t yt : TypeId} {x y : Operand} (ho : o.op = .binOp op t x y yt) {eff : Eff} (lo hi : Nat)
    (h : (match eqOp op, P.underlying t, ev G e x with
    | some r, some d, some c => if nilFor d y && notNil d c then some (⟨goB r, [], []⟩ : Eff) else flatOp P G e o
    | _, _, _ => flatOp P G e o) = some eff) : Res P o a w fun v w' => Step G base w0 ρ I H w lo hi eff v ρ I w' := by
  have hfl : flatOp P G e o = some eff → Res P o a w fun v w' => Step G base w0 ρ I H w lo hi eff v ρ I w' := flatOp_sound hs lo hi (by simp [ho])
  split at h
  · rename_i r d c hop hu hx
    split at h
    · rename_i hc
      simp only [Bool.and_eq_true] at hc
      cases h
      obtain ⟨g1, g2⟩ := run_eqNil (a := a) (w := w) (x := x) hop hu hc.1 (there_of hc.2 (ev_sound hs hx))
      refine .inl ⟨.bool r, w, ?_, Step.still hs.mem (RC_lit rfl)⟩
      simp only [execOp, ho, Sem.run_bind, g1, g2, Result.andThen_ok, Sem.run_pure]
    · exact hfl h
  · exact hfl h

/-! ### Slices of slices -/
theorem optInt_sound (hs : Sim G base w0 nt ρ I e H a w) {x : Option Operand} {r : Option Int} (h : optInt G e x = some r) : (x = none ∧ r = none) ∨ ∃ y n k, x = some y ∧ r = some n ∧ a.eval y = .int k n := by
  cases x with
  | none => simp only [optInt, Option.some.injEq] at h; exact .inl ⟨rfl, h.symm⟩
  | some y =>
    simp only [optInt] at h
    split at h
    · rename_i n hn
      cases h
      obtain ⟨c, h1, h2⟩ := Option.bind_eq_some_iff.1 hn
      obtain ⟨k, hk⟩ := intL_sound h2 (ev_sound hs h1)
      exact .inr ⟨y, n, k, rfl, rfl, hk⟩
    · cases h

theorem run_sliceBound {v : Value} {k : IntKind} {n : Int} (hv : v = .int k n) {y : Nat} (h0 : 0 ≤ n) (h1 : n ≤ y) (code : BoundsCode) : (Instr.sliceBound v y code).run P w = .ok n.toNat w := by
  subst hv
  simp [Instr.sliceBound, asIntOf, h0, h1]

theorem run_bounds (hs : Sim G base w0 nt ρ I e H a w) {lo hi mx : Option Operand} {l' h' m' : Option Int} (h1 : optInt G e lo = some l') (h2 : optInt G e hi = some h') (h3 : optInt G e mx = some m')
    {n cap : Nat} (hcap : n ≤ cap) {l h : Nat} {m : Option Nat} (hb : bounds3 n l' h' m' = some (l, h, m)) :
    (Instr.sliceBounds true n cap (lo.map a.eval) (hi.map a.eval) (mx.map a.eval)).run P w = .ok (l, h, m.getD cap) w ∧ l ≤ h ∧ h ≤ n ∧ (∀ k, m = some k → h ≤ k ∧ k ≤ n) := by
  unfold bounds3 at hb
  rcases optInt_sound hs h3 with ⟨rfl, rfl⟩ | ⟨ym, nm, km, rfl, rfl, em⟩
  · simp only at hb
    split at hb
    · rename_i hc
      cases hb
      refine ⟨?_, by omega, by omega, fun k hk => by cases hk⟩
      rcases optInt_sound hs h2 with ⟨rfl, rfl⟩ | ⟨yh, nh, kh, rfl, rfl, eh⟩ <;> rcases optInt_sound hs h1 with ⟨rfl, rfl⟩ | ⟨yl, nl, kl, rfl, rfl, el⟩ <;> simp only [Option.getD_some, Option.getD_none] at hc ⊢
      · simp [Instr.sliceBounds]
      · simp [Instr.sliceBounds, run_sliceBound el hc.1 hc.2.1]
      · simp [Instr.sliceBounds, run_sliceBound (y := cap) eh (by omega) (by omega)]
      · have h5 : nl ≤ (nh.toNat : Int) := by omega
        simp [Instr.sliceBounds, run_sliceBound (y := cap) eh (by omega) (by omega), run_sliceBound (y := nh.toNat) el hc.1 h5]
    · cases hb
  · simp only at hb
    split at hb
    · rename_i hc
      cases hb
      refine ⟨?_, by omega, by omega, fun k hk => by cases hk; omega⟩
      rcases optInt_sound hs h2 with ⟨rfl, rfl⟩ | ⟨yh, nh, kh, rfl, rfl, eh⟩
      · simp at hc
      · rcases optInt_sound hs h1 with ⟨rfl, rfl⟩ | ⟨yl, nl, kl, rfl, rfl, el⟩ <;> simp only [Option.getD_some, Option.getD_none] at hc ⊢
        · simp [Instr.sliceBounds, run_sliceBound (y := cap) em (by omega) (by omega), run_sliceBound (y := nm.toNat) eh (by omega) (by omega)]
        · simp [Instr.sliceBounds, run_sliceBound (y := cap) em (by omega) (by omega), run_sliceBound (y := nm.toNat) eh (by omega) (by omega), run_sliceBound (y := nh.toNat) el (by omega) (by omega)]
    · cases hb

theorem sub_sl {h : Array Obj} {ts : List T} {n : Nat} {clip : Bool} {b lo cap sz l hh : Nat} {m : Option Nat} (hv : RT h I (.sl ts n clip) (.slice (some ⟨b, lo, none⟩) n cap))
    (h1 : l ≤ hh) (h2 : hh ≤ n) (h3 : ∀ k, m = some k → hh ≤ k ∧ k ≤ n) :
    RT h I (.sl ((ts.drop (l * sz)).take ((hh - l) * sz)) (hh - l) (clipOf m hh n clip))
      (.slice (if m.getD cap = l then some ⟨b, lo, none⟩ else some ⟨b, lo + l * sz, none⟩) (hh - l) (m.getD cap - l)) := by
  simp only [RT] at hv ⊢
  obtain ⟨b', lo', cap', c, el, fr, he, g1, g2, g3, g4, g5, g6⟩ := hv
  simp only [Value.slice.injEq, Option.some.injEq, Addr.mk.injEq, and_true] at he
  obtain ⟨⟨rfl, rfl⟩, _, rfl⟩ := he
  have hm : hh ≤ m.getD cap := by
    cases m with
    | none => simp; omega
    | some k => have := h3 k rfl; simp; omega
  have hlen := g3.length
  have g7 := (g3.drop (l * sz)).take ((hh - l) * sz)
  have hl7 := g7.length
  have hsub : ones ((List.drop (l * sz) (win c lo ts.length)).take ((hh - l) * sz)) := ones_sub g4 fun v hv => List.mem_of_mem_drop (List.mem_of_mem_take hv)
  have hclip : (clipOf m hh n clip) = true → m.getD cap - l = hh - l := by
    cases m with
    | none => simp [clipOf]; intro a b; have := g6 a; omega
    | some k => simp [clipOf]; omega
  by_cases e0 : m.getD cap = l
  · have : hh = l := by omega
    subst this
    rw [if_pos e0]
    refine ⟨b, lo, _, c, el, fr, rfl, g1, g2, ?_, ?_, by omega, hclip⟩
    · simp [RTs, win]
    · intro v hv; simp [win] at hv
  · rw [if_neg e0]
    have hw : win c (lo + l * sz) ((ts.drop (l * sz)).take ((hh - l) * sz)).length = ((win c lo ts.length).drop (l * sz)).take ((hh - l) * sz) := by
      apply List.ext_getElem?
      intro j
      simp only [win, List.getElem?_take, List.getElem?_drop, List.length_take, List.length_drop]
      by_cases hj : j < (hh - l) * sz
      · by_cases hj2 : l * sz + j < ts.length
        · have h8 : j < min ((hh - l) * sz) (ts.length - l * sz) := by omega
          simp [hj, hj2, h8, Nat.add_assoc]
        · have h8 : ¬ j < min ((hh - l) * sz) (ts.length - l * sz) := by omega
          simp [hj, hj2, h8]
      · have h8 : ¬ j < min ((hh - l) * sz) (ts.length - l * sz) := by omega
        simp [hj, h8]
    refine ⟨b, lo + l * sz, _, c, el, fr, rfl, g1, g2, by rw [hw]; exact g7, by rw [hw]; exact hsub, by omega, hclip⟩

theorem slice_sound (hs : Sim G base w0 nt ρ I e H a w) {o : Oper} {ty elem : TypeId} {x : Operand} {lo hi mx : Option Operand} (ho : o.op = .slice ty x lo hi mx) {eff : Eff} (low high : Nat) {c : C} {l' h' m' : Option Int}
    (hu : P.underlying ty = some (.slice elem)) (hx : ev G e x = some c) (h1 : optInt G e lo = some l') (h2 : optInt G e hi = some h') (h3 : optInt G e mx = some m')
    (h : sliceC P H elem c l' h' m' = some eff) : Res P o a w fun v w' => ∃ ρ' I', Step G base w0 ρ I H w low high eff v ρ' I' w' := by
  have hv := ev_sound hs hx
  have main : ∀ {n cap sz l hh b lo' : Nat} {m : Option Nat} {i : TypeInfo}, P.info? elem = some i → a.eval x = .slice (some ⟨b, lo', none⟩) n cap → n ≤ cap → bounds3 n l' h' m' = some (l, hh, m) →
      (execOp a.eval o).run P w = .ok (.value (.slice (if m.getD cap = l then some ⟨b, lo', none⟩ else some ⟨b, lo' + l * i.size, none⟩) (hh - l) (m.getD cap - l))) w := by
    intro n cap sz l hh b lo' m i hi hav hcap hb
    obtain ⟨hr, _⟩ := run_bounds (P := P) hs h1 h2 h3 hcap hb
    simp only [execOp, ho, Instr.sliceAt, Sem.run_bind, run_underlying hu, Result.andThen_ok, Instr.slice, hav, hr, run_sizeOf' hi, Sem.run_pure]
    split <;> simp [addr_add]
  unfold sliceC at h
  split at h
  · cases h
  · rename_i i hi'
    split at h
    · split at h
      · rename_i q hq
        cases h
        simp only [RC, RT] at hv
        obtain ⟨l, hh, m⟩ := q
        obtain ⟨hr, g1, g2, g3⟩ := run_bounds (P := P) hs h1 h2 h3 (Nat.le_refl 0) hq
        refine .inl ⟨.slice none 0 0, w, ?_, ρ, I, Step.still hs.mem (RC_lit rfl)⟩
        have hm : m.getD 0 = 0 := by
          cases m with
          | none => rfl
          | some k => have := g3 k rfl; simp; omega
        have hl : l = 0 := by omega
        have hh0 : hh = 0 := by omega
        simp only [execOp, ho, Instr.sliceAt, Sem.run_bind, run_underlying hu, Result.andThen_ok, Instr.slice, hv.1, hr, run_sizeOf' hi', Sem.run_pure, hm, hl, hh0]
        rfl
      · cases h
    · rename_i ts n clip
      split at h
      · rename_i l hh m hb
        cases h
        simp only [RC] at hv
        have hv0 := hv
        simp only [RT] at hv
        obtain ⟨b, lo', cap, c, el, fr, hav, _, _, _, _, hcap, _⟩ := hv
        obtain ⟨_, g1, g2, g3⟩ := run_bounds (P := P) hs h1 h2 h3 hcap hb
        refine .inl ⟨_, w, main (sz := 0) hi' hav hcap hb, ρ, I, Step.still hs.mem ?_⟩
        simp only [RC]
        rw [hav] at hv0
        exact sub_sl hv0 g1 g2 g3
      · cases h
    · rename_i b n sz
      split at h
      · rename_i cs fz l hh m hb hq
        split at h
        · rename_i hc
          split at h
          · rename_i ts ms hf
            cases h
            have hz : frz H (deep + 1) (.osl b n sz) = some (.sl ts n false, b :: ms) := by
              simp only [frz, hb, if_pos hc.2, hf, Option.map_some]
            obtain ⟨d1, d2⟩ := frz_sound hs.mem _ _ _ _ hz
            have hv1 := d2 _ hv
            simp only [RC] at hv
            obtain ⟨r, cap, c0, e0, fr0, hr, hav, hcap, _⟩ := hv
            obtain ⟨_, g1, g2, g3⟩ := run_bounds (P := P) hs h1 h2 h3 hcap hq
            refine .inl ⟨_, w, main (sz := 0) hi' hav hcap hq, ρ, _, step_frz hs.mem d1 ?_⟩
            simp only [RC]
            rw [hav] at hv1
            exact sub_sl hv1 g1 g2 g3
          · cases h
        · cases h
      · cases h
    · cases h

theorem arrSlice_sound (hs : Sim G base w0 nt ρ I e H a w) {o : Oper} {ty elem : TypeId} {n b : Nat} {x : Operand} {lo hi mx : Option Operand} (ho : o.op = .slice ty x lo hi mx) {eff : Eff} (low high : Nat)
    (hu : P.underlying ty = some (.array n elem)) (hx : ev G e x = some (.loc b 0)) (h : arrSliceC P H n elem b lo hi mx = some eff) : Res P o a w fun v w' => Step G base w0 ρ I H w low high eff v ρ I w' := by
  have hv := ev_sound hs hx
  unfold arrSliceC at h
  split at h
  case h_2 => cases h
  rename_i i cs fz hi' hb
  split at h
  case isFalse => cases h
  rename_i hle
  cases h
  simp only [RC] at hv
  obtain ⟨r, hr, hav⟩ := hv
  obtain ⟨c, el, g1, g2, _, _⟩ := blk_cells hs.mem hb hr
  refine .inl ⟨.slice (some ⟨r, 0, none⟩) n n, w, ?_, Step.still hs.mem ?_⟩
  · simp only [execOp, ho, Instr.sliceAt, Sem.run_bind, run_underlying hu, Result.andThen_ok, hav, Instr.sureAddr, Instr.sliceBounds, run_sizeOf' hi', Sem.run_pure, Option.map_none]
    simp [addr_add]
  · simp only [RC]
    exact ⟨r, n, c, el, (0, 0), hr, rfl, Nat.le_refl _, g1, by omega⟩

theorem arrPtr_sound (hs : Sim G base w0 nt ρ I e H a w) {o : Oper} {arr : TypeId} {x : Operand} (ho : o.op = .sliceToArrayPointer arr x) {eff : Eff} (low high : Nat)
    (h : (match P.underlying arr, ev G e x with
    | some (.array n _), some (.t (.sl ts k _)) => if n ≤ k then some (⟨.t (.ptr ts 0), [], []⟩ : Eff) else none
    | _, _ => none) = some eff) : Res P o a w fun v w' => Step G base w0 ρ I H w low high eff v ρ I w' := by
  split at h
  · rename_i n el ts k cl hu hx
    split at h
    case isFalse => cases h
    rename_i hle
    cases h
    have hv := ev_sound hs hx
    simp only [RC, RT] at hv
    obtain ⟨b, lo, cap, c, e', fr, hav, g1, g2, g3, g4, _⟩ := hv
    refine .inl ⟨.pointer (some ⟨b, lo, none⟩), w, ?_, Step.still hs.mem ?_⟩
    · simp only [execOp, ho, Instr.arrayAt, Sem.run_bind, run_underlying hu, Result.andThen_ok, hav, Sem.run_pure]
      rw [if_neg (by omega)]
      simp
    · simp only [RC, RT]
      exact ⟨b, lo, c, e', fr, rfl, g1, g2, g3, g4⟩
  · cases h
end
end Go.Va
