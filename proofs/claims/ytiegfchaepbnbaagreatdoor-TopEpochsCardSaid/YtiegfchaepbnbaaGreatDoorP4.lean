/- Each operation of the interpreter is what the model does: indices, slices, maps, assertions, builtins. Each operation of the interpreter is what the model does: maps, len, append, copy. -/
import Derived.Test.YtiegfchaepbnbaaGreatDoorP3
namespace Go.Va
open Go Go.RowKit

section
variable {P : Program} {G : Nat → Option (List T)} {base nt : Nat} {w0 : Base} {w : World} {ρ : Nat → Option Nat} {I : Nat → Prop} {e : Nat → Option C} {H : Nat → Option Blk} {a : Act}

theorem ptr_of_sl {ts : List T} {n : Nat} {clip : Bool} {v : Value} {h : Array Obj} (hv : RT h I (.sl ts n clip) v) :
    ∃ b lo cap, v = .slice (some ⟨b, lo, none⟩) n cap ∧ ∀ off, RT h I (.ptr ts off) (.pointer (some ⟨b, lo + off, none⟩)) := by
  simp only [RT] at hv
  obtain ⟨b, lo, cap, c, el, fr, rfl, h1, h2, h3, h4, h5⟩ := hv
  exact ⟨b, lo, cap, rfl, fun off => by simp only [RT]; exact ⟨b, lo, c, el, fr, rfl, h1, h2, h3, h4⟩⟩

theorem indexAddr_sound (hs : Sim G base w0 nt ρ I e H a w) {o : Oper} {t : TypeId} {x i : Operand} (ho : o.op = .indexAddr t x i) {eff : Eff} (lo hi : Nat) {c : C} {ix : Int}
    (hx : ev G e x = some c) (hi' : (ev G e i).bind intL = some ix) (h : indexAddrC P t c ix = some eff) : Res P o a w fun v w' => Step G base w0 ρ I H w lo hi eff v ρ I w' := by
  obtain ⟨y, hy1, hy2⟩ := Option.bind_eq_some_iff.1 hi'
  obtain ⟨k, e1⟩ := intL_sound hy2 (ev_sound hs hy1)
  have hv := ev_sound hs hx
  unfold indexAddrC at h
  split at h
  · rename_i elem hu
    split at h
    · rename_i ie ts n clip hie
      split at h
      · rename_i hb
        cases h
        simp only [RC] at hv
        obtain ⟨b, l, cap, hv, hp⟩ := ptr_of_sl hv
        refine .inl ⟨.pointer (some ⟨b, l + ix.toNat * ie.size, none⟩), w, ?_, Step.still hs.mem (by simp only [RC]; exact hp _)⟩
        simp [execOp, ho, hv, e1, Instr.indexAt, asIntOf, run_underlying hu, hb.1, hb.2, run_sizeOf' hie, addr_add]
      · cases h
    · rename_i ie b n sz hie
      split at h
      · rename_i hb
        cases h
        simp only [RC] at hv
        obtain ⟨r, cap, c0, e0, fr0, hr, hv, _⟩ := hv
        refine .inl ⟨.pointer (some ⟨r, ix.toNat * ie.size, none⟩), w, ?_, Step.still hs.mem (by simp only [RC]; exact ⟨r, hr, rfl⟩)⟩
        simp [execOp, ho, hv, e1, Instr.indexAt, asIntOf, run_underlying hu, hb.1, hb.2, run_sizeOf' hie, addr_add]
      · cases h
    · cases h
  · rename_i len elem hu
    split at h
    · rename_i ie ts off hie
      split at h
      · rename_i hb
        cases h
        simp only [RC, RT] at hv
        obtain ⟨b, l, c, el, fr, hv, h2⟩ := hv
        refine .inl ⟨.pointer (some ⟨b, l + (off + ix.toNat * ie.size), none⟩), w, ?_, Step.still hs.mem (by simp only [RC, RT]; exact ⟨b, l, c, el, fr, rfl, h2⟩)⟩
        simp [execOp, ho, hv, e1, Instr.indexAt, asIntOf, run_underlying hu, hb.1, hb.2, run_sizeOf' hie, addr_add, Instr.sureAddr, Nat.add_assoc]
      · cases h
    · rename_i ie b off hie
      split at h
      · rename_i hb
        cases h
        simp only [RC] at hv
        obtain ⟨r, hr, hv⟩ := hv
        refine .inl ⟨.pointer (some ⟨r, off + ix.toNat * ie.size, none⟩), w, ?_, Step.still hs.mem (by simp only [RC]; exact ⟨r, hr, rfl⟩)⟩
        simp [execOp, ho, hv, e1, Instr.indexAt, asIntOf, run_underlying hu, hb.1, hb.2, run_sizeOf' hie, addr_add, Instr.sureAddr]
      · cases h
    · cases h
  · cases h

theorem index_sound (hs : Sim G base w0 nt ρ I e H a w) {o : Oper} {t : TypeId} {x i : Operand} (ho : o.op = .index t x i) {eff : Eff} (lo hi : Nat) {len : Nat} {elem : TypeId} (hu : P.underlying t = some (.array len elem))
    (h : (match ev G e x, (ev G e i).bind intL, P.info? elem with
      | some (.agg cs), some n, some k => if 0 ≤ n ∧ n < len then (partC P elem cs (n.toNat * k.size)).map fun c => (⟨c, [], []⟩ : Eff) else none
      | some (.t (.agg ts)), some n, some k => if 0 ≤ n ∧ n < len then (partC P elem (ts.map .t) (n.toNat * k.size)).map fun c => ⟨c, [], []⟩ else none
      | _, _, _ => none) = some eff) : Res P o a w fun v w' => Step G base w0 ρ I H w lo hi eff v ρ I w' := by
  split at h
  · rename_i cs n k hx hi' hk
    split at h
    · rename_i hb
      obtain ⟨y, hy1, hy2⟩ := Option.bind_eq_some_iff.1 hi'
      obtain ⟨kk, e1⟩ := intL_sound hy2 (ev_sound hs hy1)
      cases hp : partC P elem cs (n.toNat * k.size) with
      | none => simp [hp] at h
      | some c =>
        simp only [hp, Option.map_some, Option.some.injEq] at h
        subst h
        have hv := ev_sound hs hx
        simp only [RC] at hv
        obtain ⟨vs, hv, h1⟩ := hv
        obtain ⟨u, h2, h3⟩ := part_part hp h1
        refine .inl ⟨u, w, ?_, Step.still hs.mem h3⟩
        simp [execOp, ho, hv, e1, Instr.index, asIntOf, run_underlying hu, hb.1, hb.2, run_sizeOf' hk, h2]
    · cases h
  · rename_i ts n k hx hi' hk
    split at h
    · rename_i hb
      obtain ⟨y, hy1, hy2⟩ := Option.bind_eq_some_iff.1 hi'
      obtain ⟨kk, e1⟩ := intL_sound hy2 (ev_sound hs hy1)
      cases hp : partC P elem (ts.map .t) (n.toNat * k.size) with
      | none => simp [hp] at h
      | some c =>
        simp only [hp, Option.map_some, Option.some.injEq] at h
        subst h
        have hv := ev_sound hs hx
        simp only [RC, RT] at hv
        obtain ⟨vs, hv, h1⟩ := hv
        obtain ⟨u, h2, h3⟩ := part_part (ρ := ρ) hp (RCs.of_RTs h1)
        refine .inl ⟨u, w, ?_, Step.still hs.mem h3⟩
        simp [execOp, ho, hv, e1, Instr.index, asIntOf, run_underlying hu, hb.1, hb.2, run_sizeOf' hk, h2]
    · cases h
  · cases h

theorem typeAssert_sound (hs : Sim G base w0 nt ρ I e H a w) {o : Oper} {x : Operand} {xt asserted : TypeId} {ok : Bool} (ho : o.op = .typeAssert x xt asserted ok) {eff : Eff} (lo hi : Nat)
    (h : (match P.underlying asserted, ev G e x with
    | some (.interface _), _ => none
    | some _, some (.t (.ifc t y)) => if t = asserted then some (⟨if ok then .tup [.t y, goB true] else .t y, [], []⟩ : Eff)
        else if ok then (zeroC P asserted).map fun z => ⟨.tup [z, goB false], [], []⟩ else none
    | some _, some (.t (.lit .nilIface)) => if ok then (zeroC P asserted).map fun z => ⟨.tup [z, goB false], [], []⟩ else none
    | _, _ => none) = some eff) : Res P o a w fun v w' => Step G base w0 ρ I H w lo hi eff v ρ I w' := by
  have hB : ∀ b, RC ρ w.heap I (goB b) (.bool b) := fun b => RC_lit rfl
  split at h
  · cases h
  · rename_i d t y hni hu hx
    have hv := ev_sound hs hx
    simp only [RC, RT] at hv
    obtain ⟨u, hv, h1⟩ := hv
    split at h
    · rename_i ht
      cases h
      subst ht
      cases ok with
      | true =>
        refine .inl ⟨.tuple #[u, .bool true], w, ?_, Step.still hs.mem (by simp only [if_true, RC]; exact ⟨_, rfl, by simp only [RCs, RC]; exact ⟨u, _, rfl, h1, _, _, rfl, hB true, rfl⟩⟩)⟩
        simp only [execOp, ho, hv, Instr.typeAssert, Sem.run_bind, run_underlying hu, Result.andThen_ok]
        cases d <;> first | (exact (hni _ rfl).elim) | simp
      | false =>
        refine .inl ⟨u, w, ?_, Step.still hs.mem (by simpa [RC] using h1)⟩
        simp only [execOp, ho, hv, Instr.typeAssert, Sem.run_bind, run_underlying hu, Result.andThen_ok]
        cases d <;> first | (exact (hni _ rfl).elim) | simp
    · rename_i ht
      cases ok with
      | false => simp at h
      | true =>
        simp only [if_true] at h
        cases hz : zeroC P asserted with
        | none => simp [hz] at h
        | some z =>
          simp only [hz, Option.map_some, Option.some.injEq] at h
          subst h
          obtain ⟨i, zv, g1, g2, g3⟩ := zeroC_sound (ρ := ρ) (w := w) (I := I) hz
          refine .inl ⟨.tuple #[zv, .bool false], w, ?_, Step.still hs.mem (by simp only [RC]; exact ⟨_, rfl, by simp only [RCs]; exact ⟨zv, _, rfl, g3, _, _, rfl, hB false, rfl⟩⟩)⟩
          simp only [execOp, ho, hv, Instr.typeAssert, Sem.run_bind, run_underlying hu, Result.andThen_ok]
          cases d <;> first | (exact (hni _ rfl).elim) | simp [ht, run_zeroValue' g1 g2]
  · rename_i d hni hu hx
    have hv := ev_sound hs hx
    simp only [RC, RT] at hv
    cases ok with
    | false => simp at h
    | true =>
      simp only [if_true] at h
      cases hz : zeroC P asserted with
      | none => simp [hz] at h
      | some z =>
        simp only [hz, Option.map_some, Option.some.injEq] at h
        subst h
        obtain ⟨i, zv, g1, g2, g3⟩ := zeroC_sound (ρ := ρ) (w := w) (I := I) hz
        refine .inl ⟨.tuple #[zv, .bool false], w, ?_, Step.still hs.mem (by simp only [RC]; exact ⟨_, rfl, by simp only [RCs]; exact ⟨zv, _, rfl, g3, _, _, rfl, hB false, rfl⟩⟩)⟩
        simp only [execOp, ho, hv.1, Instr.typeAssert, Sem.run_bind, run_underlying hu, Result.andThen_ok]
        cases d <;> first | (exact (hni _ rfl).elim) | simp [run_zeroValue' g1 g2]
  · cases h

/-! ### '== nil' -/
def there : TypeDesc → Value → Prop
  | .slice _, .slice (some _) _ _ => True
  | .map _ _, .map (some _) => True
  | .interface _, .iface _ _ => True
  | .func _ _ _, .func _ _ _ => True
  | .pointer _, .pointer (some _) => True
  | _, _ => False

theorem there_of {d : TypeDesc} {c : C} {v : Value} (hn : notNil d c = true) (hv : RC ρ w.heap I c v) : there d v := by
  unfold notNil at hn
  split at hn
  all_goals first
    | (cases hn; done)
    | (simp only [RC, RT] at hv; obtain ⟨b, lo, cap, c, e, fr, rfl, _⟩ := hv; trivial)
    | (simp only [RC, RT] at hv; obtain ⟨b, lo, c, e, fr, rfl, _⟩ := hv; trivial)
    | (simp only [RC, RT] at hv; obtain ⟨b, c, e, rfl, _⟩ := hv; trivial)
    | (simp only [RC, RT] at hv; obtain ⟨b, c, e, l, rfl, _⟩ := hv; trivial)
    | (simp only [RC, RT] at hv; obtain ⟨r, cap, c, e, fr, _, rfl, _⟩ := hv; trivial)
    | (simp only [RC, RT] at hv; obtain ⟨r, _, rfl⟩ := hv; trivial)
    | (simp only [RC, RT] at hv; obtain ⟨u, rfl, _⟩ := hv; trivial)
    | (simp only [RC, RT] at hv; obtain ⟨u, t, rfl, _⟩ := hv; trivial)

theorem equalIn_there {d : TypeDesc} {t : TypeId} {y : Operand} {v : Value} (hu : P.underlying t = some d) (hy : nilFor d y = true) (hv : there d v) (n : Nat) :
    (Op.equalIn (n + 1) t v (a.eval y)).run P w = .ok false w ∧ (∀ k b, v ≠ .int k b) ∧ (∀ k b, v ≠ .float k b) ∧ (∀ k b c, v ≠ .complex k b c) ∧ (∀ s, v ≠ .string s) ∧ v ≠ .nilIface ∧ (∀ c, v ≠ .agg c) := by
  unfold nilFor at hy
  split at hy
  all_goals first | (cases hy; done) | skip
  all_goals (cases v <;> simp only [there] at hv)
  · rename_i x l c
    cases x with
    | none => exact hv.elim
    | some x => refine ⟨?_, by simp, by simp, by simp, by simp, by simp, by simp⟩; simp only [Act.eval, Op.equalIn, Sem.run_bind, run_underlying hu, Result.andThen_ok, Sem.run_pure]
  · rename_i x
    cases x with
    | none => exact hv.elim
    | some x => refine ⟨?_, by simp, by simp, by simp, by simp, by simp, by simp⟩; simp only [Act.eval, Op.equalIn, Sem.run_bind, run_underlying hu, Result.andThen_ok, Sem.run_pure]
  · refine ⟨?_, by simp, by simp, by simp, by simp, by simp, by simp⟩; simp only [Act.eval, Op.equalIn, Sem.run_bind, run_underlying hu, Result.andThen_ok, Sem.run_pure]
  · refine ⟨?_, by simp, by simp, by simp, by simp, by simp, by simp⟩; simp only [Act.eval, Op.equalIn, Sem.run_bind, run_underlying hu, Result.andThen_ok, Sem.run_pure]
  · rename_i x
    cases x with
    | none => exact hv.elim
    | some x => refine ⟨?_, by simp, by simp, by simp, by simp, by simp, by simp⟩; simp only [Act.eval, Op.equalIn, Sem.run_bind, run_underlying hu, Result.andThen_ok, Sem.run_pure]

theorem run_eqNil {op : BinOp} {r : Bool} {d : TypeDesc} {t : TypeId} {x y : Operand} {v : Value} (hop : eqOp op = some r) (hu : P.underlying t = some d) (hy : nilFor d y = true) (hv : there d v) :
    (eqGuard op t x y v (a.eval y)).run P w = .ok () w ∧ (binOp op t v (a.eval y)).run P w = .ok (.bool r) w := by
  obtain ⟨g, n1, n2, n3, n4, n5, n6⟩ := equalIn_there (P := P) (a := a) (w := w) hu hy hv 9999
  have g' : (Op.equal t v (a.eval y)).run P w = .ok false w := g
  have hs : op = .eql ∧ r = false ∨ op = .neq ∧ r = true := by cases op <;> simp [eqOp] at hop <;> simp [hop]
  generalize a.eval y = z at g'
  constructor
  · rcases hs with ⟨rfl, rfl⟩ | ⟨rfl, rfl⟩ <;> (unfold eqGuard; cases v <;> first | (exact (n5 rfl).elim) | (exact (n6 _ rfl).elim) | simp)
  · rcases hs with ⟨rfl, rfl⟩ | ⟨rfl, rfl⟩ <;> (cases v <;> first
      | (exact (n1 _ _ rfl).elim) | (exact (n2 _ _ rfl).elim) | (exact (n3 _ _ _ rfl).elim) | (exact (n4 _ rfl).elim) | (simp only [binOp, Sem.run_bind, g', Result.andThen_ok, Sem.run_pure] <;> rfl))

theorem binOp_sound (hs : Sim G base w0 nt ρ I e H a w) {o : Oper} {op : BinOp} {t yt : TypeId} {x y : Operand} (ho : o.op = .binOp op t x y yt) {eff : Eff} (lo hi : Nat)
    (h : (match eqOp op, P.underlying t, ev G e x with
    | some r, some d, some c => if nilFor d y && notNil d c then some (⟨goB r, [], []⟩ : Eff) else flatOp P G e o
    | _, _, _ => flatOp P G e o) = some eff) : Res P o a w fun v w' => Step G base w0 ρ I H w lo hi eff v ρ I w' := by
  have hfl : flatOp P G e o = some eff → Res P o a w fun v w' => Step G base w0 ρ I H w lo hi eff v ρ I w' := flatOp_sound hs lo hi (by simp [ho])
  split at h
  · rename_i r d c hop hu hx
    split at h
    · rename_i hc
      simp only [Bool.and_eq_true] at hc
      cases h
      obtain ⟨g1, g2⟩ := run_eqNil (a := a) (w := w) (x := x) hop hu hc.1 (there_of hc.2 (ev_sound hs hx))
      refine .inl ⟨.bool r, w, ?_, Step.still hs.mem (RC_lit rfl)⟩
      simp only [execOp, ho, Sem.run_bind, g1, g2, Result.andThen_ok, Sem.run_pure]
    · exact hfl h
  · exact hfl h

/-! ### Slices of slices -/
theorem optInt_sound (hs : Sim G base w0 nt ρ I e H a w) {x : Option Operand} {r : Option Int} (h : optInt G e x = some r) : (x = none ∧ r = none) ∨ ∃ y n k, x = some y ∧ r = some n ∧ a.eval y = .int k n := by
  cases x with
  | none => simp only [optInt, Option.some.injEq] at h; exact .inl ⟨rfl, h.symm⟩
  | some y =>
    simp only [optInt] at h
    split at h
    · rename_i n hn
      cases h
      obtain ⟨c, h1, h2⟩ := Option.bind_eq_some_iff.1 hn
      obtain ⟨k, hk⟩ := intL_sound h2 (ev_sound hs h1)
      exact .inr ⟨y, n, k, rfl, rfl, hk⟩
    · cases h

theorem run_sliceBound {v : Value} {k : IntKind} {n : Int} (hv : v = .int k n) {y : Nat} (h0 : 0 ≤ n) (h1 : n ≤ y) (code : BoundsCode) : (Instr.sliceBound v y code).run P w = .ok n.toNat w := by
  subst hv
  simp [Instr.sliceBound, asIntOf, h0, h1]

theorem run_bounds (hs : Sim G base w0 nt ρ I e H a w) {lo hi mx : Option Operand} {l' h' m' : Option Int} (h1 : optInt G e lo = some l') (h2 : optInt G e hi = some h') (h3 : optInt G e mx = some m')
    {n cap : Nat} (hcap : n ≤ cap) {l h : Nat} {m : Option Nat} (hb : bounds3 n l' h' m' = some (l, h, m)) :
    (Instr.sliceBounds true n cap (lo.map a.eval) (hi.map a.eval) (mx.map a.eval)).run P w = .ok (l, h, m.getD cap) w ∧ l ≤ h ∧ h ≤ n ∧ (∀ k, m = some k → h ≤ k ∧ k ≤ n) := by
  unfold bounds3 at hb
  rcases optInt_sound hs h3 with ⟨rfl, rfl⟩ | ⟨ym, nm, km, rfl, rfl, em⟩
  · simp only at hb
    split at hb
    · rename_i hc
      cases hb
      refine ⟨?_, by omega, by omega, fun k hk => by cases hk⟩
      rcases optInt_sound hs h2 with ⟨rfl, rfl⟩ | ⟨yh, nh, kh, rfl, rfl, eh⟩ <;> rcases optInt_sound hs h1 with ⟨rfl, rfl⟩ | ⟨yl, nl, kl, rfl, rfl, el⟩ <;> simp only [Option.getD_some, Option.getD_none] at hc ⊢
      · simp [Instr.sliceBounds]
      · simp [Instr.sliceBounds, run_sliceBound el hc.1 hc.2.1]
      · simp [Instr.sliceBounds, run_sliceBound (y := cap) eh (by omega) (by omega)]
      · have h5 : nl ≤ (nh.toNat : Int) := by omega
        simp [Instr.sliceBounds, run_sliceBound (y := cap) eh (by omega) (by omega), run_sliceBound (y := nh.toNat) el hc.1 h5]
    · cases hb
  · simp only at hb
    split at hb
    · rename_i hc
      cases hb
      refine ⟨?_, by omega, by omega, fun k hk => by cases hk; omega⟩
      rcases optInt_sound hs h2 with ⟨rfl, rfl⟩ | ⟨yh, nh, kh, rfl, rfl, eh⟩
      · simp at hc
      · rcases optInt_sound hs h1 with ⟨rfl, rfl⟩ | ⟨yl, nl, kl, rfl, rfl, el⟩ <;> simp only [Option.getD_some, Option.getD_none] at hc ⊢
        · simp [Instr.sliceBounds, run_sliceBound (y := cap) em (by omega) (by omega), run_sliceBound (y := nm.toNat) eh (by omega) (by omega)]
        · simp [Instr.sliceBounds, run_sliceBound (y := cap) em (by omega) (by omega), run_sliceBound (y := nm.toNat) eh (by omega) (by omega), run_sliceBound (y := nh.toNat) el (by omega) (by omega)]
    · cases hb

theorem sub_sl {h : Array Obj} {ts : List T} {n : Nat} {clip : Bool} {b lo cap sz l hh : Nat} {m : Option Nat} (hv : RT h I (.sl ts n clip) (.slice (some ⟨b, lo, none⟩) n cap))
    (h1 : l ≤ hh) (h2 : hh ≤ n) (h3 : ∀ k, m = some k → hh ≤ k ∧ k ≤ n) :
    RT h I (.sl ((ts.drop (l * sz)).take ((hh - l) * sz)) (hh - l) (clipOf m hh n clip))
      (.slice (if m.getD cap = l then some ⟨b, lo, none⟩ else some ⟨b, lo + l * sz, none⟩) (hh - l) (m.getD cap - l)) := by
  simp only [RT] at hv ⊢
  obtain ⟨b', lo', cap', c, el, fr, he, g1, g2, g3, g4, g5, g6⟩ := hv
  simp only [Value.slice.injEq, Option.some.injEq, Addr.mk.injEq, and_true] at he
  obtain ⟨⟨rfl, rfl⟩, _, rfl⟩ := he
  have hm : hh ≤ m.getD cap := by
    cases m with
    | none => simp; omega
    | some k => have := h3 k rfl; simp; omega
  have hlen := g3.length
  have g7 := (g3.drop (l * sz)).take ((hh - l) * sz)
  have hl7 := g7.length
  have hsub : ones ((List.drop (l * sz) (win c lo ts.length)).take ((hh - l) * sz)) := ones_sub g4 fun v hv => List.mem_of_mem_drop (List.mem_of_mem_take hv)
  have hclip : (clipOf m hh n clip) = true → m.getD cap - l = hh - l := by
    cases m with
    | none => simp [clipOf]; intro a b; have := g6 a; omega
    | some k => simp [clipOf]; omega
  by_cases e0 : m.getD cap = l
  · have : hh = l := by omega
    subst this
    rw [if_pos e0]
    refine ⟨b, lo, _, c, el, fr, rfl, g1, g2, ?_, ?_, by omega, hclip⟩
    · simp [RTs, win]
    · intro v hv; simp [win] at hv
  · rw [if_neg e0]
    have hw : win c (lo + l * sz) ((ts.drop (l * sz)).take ((hh - l) * sz)).length = ((win c lo ts.length).drop (l * sz)).take ((hh - l) * sz) := by
      apply List.ext_getElem?
      intro j
      simp only [win, List.getElem?_take, List.getElem?_drop, List.length_take, List.length_drop]
      by_cases hj : j < (hh - l) * sz
      · by_cases hj2 : l * sz + j < ts.length
        · have h8 : j < min ((hh - l) * sz) (ts.length - l * sz) := by omega
          simp [hj, hj2, h8, Nat.add_assoc]
        · have h8 : ¬ j < min ((hh - l) * sz) (ts.length - l * sz) := by omega
          simp [hj, hj2, h8]
      · have h8 : ¬ j < min ((hh - l) * sz) (ts.length - l * sz) := by omega
        simp [hj, h8]
    refine ⟨b, lo + l * sz, _, c, el, fr, rfl, g1, g2, by rw [hw]; exact g7, by rw [hw]; exact hsub, by omega, hclip⟩

theorem slice_sound (hs : Sim G base w0 nt ρ I e H a w) {o : Oper} {ty elem : TypeId} {x : Operand} {lo hi mx : Option Operand} (ho : o.op = .slice ty x lo hi mx) {eff : Eff} (low high : Nat) {c : C} {l' h' m' : Option Int}
    (hu : P.underlying ty = some (.slice elem)) (hx : ev G e x = some c) (h1 : optInt G e lo = some l') (h2 : optInt G e hi = some h') (h3 : optInt G e mx = some m')
    (h : sliceC P H elem c l' h' m' = some eff) : Res P o a w fun v w' => ∃ ρ' I', Step G base w0 ρ I H w low high eff v ρ' I' w' := by
  have hv := ev_sound hs hx
  have main : ∀ {n cap sz l hh b lo' : Nat} {m : Option Nat} {i : TypeInfo}, P.info? elem = some i → a.eval x = .slice (some ⟨b, lo', none⟩) n cap → n ≤ cap → bounds3 n l' h' m' = some (l, hh, m) →
      (execOp a.eval o).run P w = .ok (.value (.slice (if m.getD cap = l then some ⟨b, lo', none⟩ else some ⟨b, lo' + l * i.size, none⟩) (hh - l) (m.getD cap - l))) w := by
    intro n cap sz l hh b lo' m i hi hav hcap hb
    obtain ⟨hr, _⟩ := run_bounds (P := P) hs h1 h2 h3 hcap hb
    simp only [execOp, ho, Instr.sliceAt, Sem.run_bind, run_underlying hu, Result.andThen_ok, Instr.slice, hav, hr, run_sizeOf' hi, Sem.run_pure]
    split <;> simp [addr_add]
  unfold sliceC at h
  split at h
  · cases h
  · rename_i i hi'
    split at h
    · split at h
      · rename_i q hq
        cases h
        simp only [RC, RT] at hv
        obtain ⟨l, hh, m⟩ := q
        obtain ⟨hr, g1, g2, g3⟩ := run_bounds (P := P) hs h1 h2 h3 (Nat.le_refl 0) hq
        refine .inl ⟨.slice none 0 0, w, ?_, ρ, I, Step.still hs.mem (RC_lit rfl)⟩
        have hm : m.getD 0 = 0 := by
          cases m with
          | none => rfl
          | some k => have := g3 k rfl; simp; omega
        have hl : l = 0 := by omega
        have hh0 : hh = 0 := by omega
        simp only [execOp, ho, Instr.sliceAt, Sem.run_bind, run_underlying hu, Result.andThen_ok, Instr.slice, hv.1, hr, run_sizeOf' hi', Sem.run_pure, hm, hl, hh0]
        rfl
      · cases h
    · rename_i ts n clip
      split at h
      · rename_i l hh m hb
        cases h
        simp only [RC] at hv
        have hv0 := hv
        simp only [RT] at hv
        obtain ⟨b, lo', cap, c, el, fr, hav, _, _, _, _, hcap, _⟩ := hv
        obtain ⟨_, g1, g2, g3⟩ := run_bounds (P := P) hs h1 h2 h3 hcap hb
        refine .inl ⟨_, w, main (sz := 0) hi' hav hcap hb, ρ, I, Step.still hs.mem ?_⟩
        simp only [RC]
        rw [hav] at hv0
        exact sub_sl hv0 g1 g2 g3
      · cases h
    · rename_i b n sz
      split at h
      · rename_i cs fz l hh m hb hq
        split at h
        · rename_i hc
          split at h
          · rename_i ts ms hf
            cases h
            have hz : frz H (deep + 1) (.osl b n sz) = some (.sl ts n false, b :: ms) := by
              simp only [frz, hb, if_pos hc.2, hf, Option.map_some]
            obtain ⟨d1, d2⟩ := frz_sound hs.mem _ _ _ _ hz
            have hv1 := d2 _ hv
            simp only [RC] at hv
            obtain ⟨r, cap, c0, e0, fr0, hr, hav, hcap, _⟩ := hv
            obtain ⟨_, g1, g2, g3⟩ := run_bounds (P := P) hs h1 h2 h3 hcap hq
            refine .inl ⟨_, w, main (sz := 0) hi' hav hcap hq, ρ, _, step_frz hs.mem d1 ?_⟩
            simp only [RC]
            rw [hav] at hv1
            exact sub_sl hv1 g1 g2 g3
          · cases h
        · cases h
      · cases h
    · cases h

theorem arrSlice_sound (hs : Sim G base w0 nt ρ I e H a w) {o : Oper} {ty elem : TypeId} {n b : Nat} {x : Operand} {lo hi mx : Option Operand} (ho : o.op = .slice ty x lo hi mx) {eff : Eff} (low high : Nat)
    (hu : P.underlying ty = some (.array n elem)) (hx : ev G e x = some (.loc b 0)) (h : arrSliceC P H n elem b lo hi mx = some eff) : Res P o a w fun v w' => Step G base w0 ρ I H w low high eff v ρ I w' := by
  have hv := ev_sound hs hx
  unfold arrSliceC at h
  split at h
  case h_2 => cases h
  rename_i i cs fz hi' hb
  split at h
  case isFalse => cases h
  rename_i hle
  cases h
  simp only [RC] at hv
  obtain ⟨r, hr, hav⟩ := hv
  obtain ⟨c, el, g1, g2, _, _⟩ := blk_cells hs.mem hb hr
  refine .inl ⟨.slice (some ⟨r, 0, none⟩) n n, w, ?_, Step.still hs.mem ?_⟩
  · simp only [execOp, ho, Instr.sliceAt, Sem.run_bind, run_underlying hu, Result.andThen_ok, hav, Instr.sureAddr, Instr.sliceBounds, run_sizeOf' hi', Sem.run_pure, Option.map_none]
    simp [addr_add]
  · simp only [RC]
    exact ⟨r, n, c, el, (0, 0), hr, rfl, Nat.le_refl _, g1, by omega⟩

theorem arrPtr_sound (hs : Sim G base w0 nt ρ I e H a w) {o : Oper} {arr : TypeId} {x : Operand} (ho : o.op = .sliceToArrayPointer arr x) {eff : Eff} (low high : Nat)
    (h : (match P.underlying arr, ev G e x with
    | some (.array n _), some (.t (.sl ts k _)) => if n ≤ k then some (⟨.t (.ptr ts 0), [], []⟩ : Eff) else none
    | _, _ => none) = some eff) : Res P o a w fun v w' => Step G base w0 ρ I H w low high eff v ρ I w' := by
  split at h
  · rename_i n el ts k cl hu hx
    split at h
    case isFalse => cases h
    rename_i hle
    cases h
    have hv := ev_sound hs hx
    simp only [RC, RT] at hv
    obtain ⟨b, lo, cap, c, e', fr, hav, g1, g2, g3, g4, _⟩ := hv
    refine .inl ⟨.pointer (some ⟨b, lo, none⟩), w, ?_, Step.still hs.mem ?_⟩
    · simp only [execOp, ho, Instr.arrayAt, Sem.run_bind, run_underlying hu, Result.andThen_ok, hav, Sem.run_pure]
      rw [if_neg (by omega)]
      simp
    · simp only [RC, RT]
      exact ⟨b, lo, c, e', fr, rfl, g1, g2, g3, g4⟩
  · cases h
end
end Go.Va
namespace Go.Va
open Go Go.RowKit

section
variable {P : Program} {G : Nat → Option (List T)} {base nt : Nat} {w0 : Base} {w : World} {ρ : Nat → Option Nat} {I : Nat → Prop} {e : Nat → Option C} {H : Nat → Option Blk} {a : Act}

/-! ### Maps -/
theorem findIx_spec {d : TypeDesc} {k : Value} : ∀ (ks : List Value) (i : Nat) (es : List MapEntry), es.map (·.key) = ks → ∀ r, findIx d k ks i = some r →
    (r = none ∧ Instr.findNow d k es i = some none) ∨ ∃ j en, r = some (i + j) ∧ es[j]? = some en ∧ Instr.findNow d k es i = some (some (i + j, en.val)) ∧ Instr.sameNow d k en.key = some true
  | [], i, es, he, r, h => by
    simp only [findIx, Option.some.injEq] at h
    have : es = [] := by simpa using he
    subst this
    exact .inl ⟨h.symm, rfl⟩
  | x :: ks, i, es, he, r, h => by
    cases es with
    | nil => simp at he
    | cons en es =>
      simp only [List.map_cons, List.cons.injEq] at he
      obtain ⟨rfl, he⟩ := he
      simp only [findIx] at h
      cases hq : Instr.sameNow d k en.key with
      | none => simp [hq] at h
      | some q =>
        cases q with
        | true =>
          simp only [hq, Option.some.injEq] at h
          exact .inr ⟨0, en, h.symm, by simp, by simp [Instr.findNow, hq], hq⟩
        | false =>
          simp only [hq] at h
          rcases findIx_spec ks (i + 1) es he r h with ⟨h1, h2⟩ | ⟨j, en', h1, h2, h3, h4⟩
          · exact .inl ⟨h1, by simp [Instr.findNow, hq, h2]⟩
          · exact .inr ⟨j + 1, en', by rw [h1]; congr 1; omega, by simpa using h2, by simp only [Instr.findNow, hq, h3]; congr 3; omega, h4⟩

theorem same_eq {d : TypeDesc} {x y : Value} (h : Instr.sameNow d x y = some true) : x = y := by
  unfold Instr.sameNow at h
  split at h
  · split at h
    · rename_i k a k' b hk
      subst hk
      simp at h
      subst h
      rfl
    · cases h
  · rename_i a b
    simp only [Option.some.injEq] at h
    have e := (MapKept.bytes_beq a b).1 h
    subst e
    rfl
  · simp only [Option.some.injEq, beq_iff_eq] at h
    subst h
    rfl
  · cases h
/-- Looked for in a row of entries, all of which can be compared. -/
theorem findNow_row {d : TypeDesc} {k : Value} : ∀ (m : List MapEntry) (i : Nat), (∀ e, e ∈ m → (Instr.sameNow d k e.key).isSome = true) →
    (∃ j en, m[j]? = some en ∧ Instr.sameNow d k en.key = some true ∧ Instr.findNow d k m i = some (some (i + j, en.val))) ∨ ((∀ e, e ∈ m → Instr.sameNow d k e.key = some false) ∧ Instr.findNow d k m i = some none)
  | [], i, h => .inr ⟨(fun e he => by cases he), rfl⟩
  | en :: m, i, h => by
    cases hq : Instr.sameNow d k en.key with
    | none => have := h en List.mem_cons_self; simp [hq] at this
    | some q =>
      cases q with
      | true => exact .inl ⟨0, en, by simp, hq, by simp [Instr.findNow, hq]⟩
      | false =>
        rcases findNow_row m (i + 1) (fun e he => h e (List.mem_cons_of_mem _ he)) with ⟨j, en', h1, h2, h3⟩ | ⟨h1, h2⟩
        · exact .inl ⟨j + 1, en', by simpa using h1, h2, by simp only [Instr.findNow, hq, h3]; congr 3; omega⟩
        · exact .inr ⟨fun e he => (List.mem_cons.1 he).elim (fun x => x ▸ hq) (h1 e), by simp [Instr.findNow, hq, h2]⟩
theorem key_inj {l : List MapEntry} (hn : (l.map (·.key)).Nodup) {e e' : MapEntry} (h1 : e ∈ l) (h2 : e' ∈ l) (hk : e.key = e'.key) : e = e' := by
  induction l with
  | nil => cases h1
  | cons x l ih =>
    simp only [List.map_cons, List.nodup_cons, List.mem_map, not_exists, not_and] at hn
    rcases List.mem_cons.1 h1 with e1 | m1 <;> rcases List.mem_cons.1 h2 with e2 | m2
    · rw [e1, e2]
    · exact (hn.1 e' m2 (by rw [← hk, e1])).elim
    · exact (hn.1 e m1 (by rw [hk, e2])).elim
    · exact ih hn.2 m1 m2
/-- A key is looked for: in the order of the tree, and in the map's own. -/
theorem findK_spec {d : TypeDesc} {k : Value} {ks : List Value} {es : Array MapEntry} {clk : Nat} {l : List MapEntry} (hl : MapOf es clk l) (hk : l.map (·.key) = ks) {r : Option Nat} (h : findK d k ks = some r) :
    (r = none ∧ Instr.findNow d k es.toList 0 = some none ∧ k ∉ ks) ∨
    ∃ j en j', r = some j ∧ l[j]? = some en ∧ es.toList[j']? = some en ∧ Instr.findNow d k es.toList 0 = some (some (j', en.val)) ∧ Instr.sameNow d k en.key = some true := by
  unfold findK at h
  split at h
  case isFalse => cases h
  rename_i hall
  have hcmp : ∀ e, e ∈ l → (Instr.sameNow d k e.key).isSome = true := fun e he => by
    have := List.all_eq_true.1 hall e.key (by rw [← hk]; exact List.mem_map_of_mem he)
    exact this
  have hcmp' : ∀ e, e ∈ es.toList → (Instr.sameNow d k e.key).isSome = true := fun e he => hcmp e (hl.perm.mem_iff.2 he)
  rcases findIx_spec ks 0 l hk r h with ⟨h1, h2⟩ | ⟨j, en, h1, h2, h3, h4⟩
  · rcases findNow_row l 0 hcmp with ⟨j, en, _, _, g3⟩ | ⟨g1, _⟩
    · rw [h2] at g3; cases g3
    · rcases findNow_row es.toList 0 hcmp' with ⟨j, en, e1, e2, _⟩ | ⟨_, e2⟩
      · have hm : en ∈ l := hl.perm.mem_iff.2 (List.mem_iff_getElem?.2 ⟨j, e1⟩)
        rw [g1 en hm] at e2
        cases e2
      · refine .inl ⟨h1, e2, fun hm => ?_⟩
        rw [← hk] at hm
        obtain ⟨e, he, hke⟩ := List.mem_map.1 hm
        have g := g1 e he
        have gs := hcmp e he
        subst hke
        have : ∀ {x : Value}, (Instr.sameNow d x x).isSome = true → Instr.sameNow d x x = some true := fun {x} hx => by
          unfold Instr.sameNow at hx ⊢
          split <;> simp_all
          exact (MapKept.bytes_beq _ _).2 rfl
        rw [this gs] at g
        cases g
  · rcases findNow_row es.toList 0 hcmp' with ⟨j', en', e1, e2, e3⟩ | ⟨e1, _⟩
    · have hm' : en' ∈ l := hl.perm.mem_iff.2 (List.mem_iff_getElem?.2 ⟨j', e1⟩)
      have hm : en ∈ l := List.mem_iff_getElem?.2 ⟨j, h2⟩
      have : en = en' := key_inj hl.keys hm hm' ((same_eq h4).symm.trans (same_eq e2))
      subst this
      exact .inr ⟨j, en, j', by rw [h1]; simp, h2, e1, by rw [e3]; simp, h4⟩
    · have hm : en ∈ es.toList := hl.perm.mem_iff.1 (List.mem_iff_getElem?.2 ⟨j, h2⟩)
      rw [e1 en hm] at h4
      cases h4

theorem run_checkKey' {kt : TypeId} {d : TypeDesc} (hu : P.underlying kt = some d) (hs : simpleKey d = true) (em : Bool) (n : Nat) (k : Value) : (Instr.checkKey em (n + 1) kt k).run P w = .ok () w := by
  unfold Instr.checkKey
  simp only [Sem.run_bind, run_underlying hu, Result.andThen]
  cases d <;> simp [simpleKey] at hs <;> cases k <;> simp

theorem run_findKey' {kt : TypeId} {d : TypeDesc} {k : Value} {l : List MapEntry} {r : Option (Nat × Value)} (hu : P.underlying kt = some d) (h : Instr.findNow d k l 0 = some r) : (Instr.findKey kt k l).run P w = .ok r w := by
  simp [Instr.findKey, run_underlying hu, Result.andThen, h]

theorem same_stays {d : TypeDesc} {x y : Value} (h : Instr.sameNow d x y = some true) : x = y ∧ (Instr.keyThatStays y x).run P w = .ok x w := by
  unfold Instr.sameNow at h
  split at h
  · split at h
    · rename_i k a k' b hk
      subst hk
      simp at h
      subst h
      exact ⟨rfl, by simp [Instr.keyThatStays, Instr.sameBits]⟩
    · cases h
  · rename_i a b
    simp only [Option.some.injEq] at h
    have e := (MapKept.bytes_beq a b).1 h
    subst e
    exact ⟨rfl, by simp [Instr.keyThatStays, Instr.sameBits, (MapKept.bytes_beq a a).2 rfl]⟩
  · rename_i a b
    simp at h
    subst h
    exact ⟨rfl, by simp [Instr.keyThatStays, Instr.sameBits]⟩
  · cases h

theorem getObj_map {r : Nat} {es : Array MapEntry} {clk : Nat} (hb : w.heap[r]? = some (.map es clk)) : (getObj r).run P w = .ok (.map es clk) w := MapKept.run_getObj_map hb

theorem lookup_sound (hs : Sim G base w0 nt ρ I e H a w) {o : Oper} {t : TypeId} {m k : Operand} {ok : Bool} (ho : o.op = .lookup t m k ok) {eff : Eff} (lo hi : Nat) {cm ck : C}
    (hm : ev G e m = some cm) (hk : ev G e k = some ck) (h : lookupC P H t cm ck ok = some eff) : Res P o a w fun v w' => Step G base w0 ρ I H w lo hi eff v ρ I w' := by
  have hvm := ev_sound hs hm
  have hvk := ev_sound hs hk
  unfold lookupC at h
  split at h
  case h_2 => cases h
  rename_i key elem hu
  split at h
  case h_2 => cases h
  rename_i kd kv hkd
  simp only [RC, RT] at hvk
  split at h
  case isFalse => cases h
  rename_i hsk
  -- what stands in the map
  have hB : ∀ b, RC ρ w.heap I (goB b) (.bool b) := fun b => RC_lit rfl
  have fin : ∀ (es : Array MapEntry) (r : Option (Nat × Value)), (match a.eval m with | .map none => es = #[] | .map (some r) => ∃ clk, w.heap[r]? = some (.map es clk) | _ => False) → Instr.findNow kd kv es.toList 0 = some r →
      ∀ (c : C) (v : Value) (b : Bool), RC ρ w.heap I c v → (match r with | some (_, x) => v = x ∧ b = true | none => b = false ∧ (zeroValue elem).run P w = .ok v w) →
      ∀ fp, Res P o a w fun v w' => Step G base w0 ρ I H w lo hi ⟨if ok then .tup [c, goB b] else c, [], fp⟩ v ρ I w' := by
    intro es r hes hf c v b hc hr fp
    have hrun : (execOp a.eval o).run P w = .ok (.value (if ok then .tuple #[v, .bool b] else v)) w := by
      simp only [execOp, ho, Instr.lookup, Sem.run_bind, run_underlying hu, Result.andThen_ok, hvk.1]
      cases hmv : a.eval m with
      | map x =>
        rw [hmv] at hes
        cases x with
        | none =>
          simp only at hes
          subst hes
          have hrr : r = none := by simpa [Instr.findNow] using hf.symm
          subst hrr
          simp only [Sem.run_bind, Sem.run_pure, Result.andThen_ok, run_checkKey' hkd hsk, run_findKey' hkd hf, hr.2, hr.1]
        | some x =>
          obtain ⟨clk, hb⟩ := hes
          simp only [Sem.run_bind, getObj_map hb, Sem.run_pure, Result.andThen_ok, run_checkKey' hkd hsk, run_findKey' hkd hf]
          cases r with
          | none => simp only [Sem.run_bind, hr.2, hr.1, Result.andThen_ok, Sem.run_pure]
          | some q => obtain ⟨q1, q2⟩ := q; simp only [hr.1, hr.2]; cases ok <;> rfl
      | _ => rw [hmv] at hes; exact hes.elim
    refine .inl ⟨_, w, hrun, Step.still hs.mem ?_⟩
    cases ok with
    | true => simp only [if_true, RC]; exact ⟨_, rfl, by simp only [RCs]; exact ⟨v, _, rfl, hc, _, _, rfl, hB b, rfl⟩⟩
    | false => simpa using hc
  have zero : ∀ (es : Array MapEntry), (match a.eval m with | .map none => es = #[] | .map (some r) => ∃ clk, w.heap[r]? = some (.map es clk) | _ => False) → Instr.findNow kd kv es.toList 0 = some none → ∀ fp,
      (zeroC P elem).map (fun z => (⟨if ok then .tup [z, goB false] else z, [], fp⟩ : Eff)) = some eff → Res P o a w fun v w' => Step G base w0 ρ I H w lo hi eff v ρ I w' := by
    intro es hes hf fp hz
    cases hq : zeroC P elem with
    | none => simp [hq] at hz
    | some z =>
      simp only [hq, Option.map_some, Option.some.injEq] at hz
      subst hz
      obtain ⟨i, zv, g1, g2, g3⟩ := zeroC_sound (ρ := ρ) (w := w) (I := I) hq
      exact fin es none hes hf z zv false g3 ⟨rfl, run_zeroValue' g1 g2 w⟩ fp
  split at h
  · -- found
    rename_i c fp hfound
    cases h
    unfold foundC at hfound
    split at hfound
    · simp at hfound
    · rename_i ks vs
      simp only [RC, RT] at hvm
      obtain ⟨r, es, clk, l, hav, _, hb, hl, hks, hvs⟩ := hvm
      split at hfound
      · rename_i i hix
        split at hfound
        · rename_i x hx
          simp only [Option.some.injEq, Prod.mk.injEq] at hfound
          obtain ⟨rfl, rfl⟩ := hfound
          rcases findK_spec hl hks hix with ⟨h1, _⟩ | ⟨j, en, j', h1, h2, _, h3, _⟩
          · cases h1
          · simp only [Option.some.injEq] at h1
            subst h1
            have : (l.map (·.val))[i]? = some en.val := by rw [List.getElem?_map, h2]; rfl
            have hrt := hvs.get' hx this
            exact fin es _ (by rw [hav]; exact ⟨clk, hb⟩) h3 (.t x) en.val true (by simp only [RC]; exact hrt) ⟨rfl, rfl⟩ _
        · cases hfound
      · simp at hfound
      · cases hfound
    · rename_i b
      simp only [RC] at hvm
      obtain ⟨r, hr, hav⟩ := hvm
      split at hfound
      · rename_i ks vs fz hb
        obtain ⟨es, clk, l, hh, hl, hks, hvs⟩ := blk_map hs.mem hb hr
        split at hfound
        · rename_i i hix
          split at hfound
          · rename_i x hx
            simp only [Option.some.injEq, Prod.mk.injEq] at hfound
            obtain ⟨rfl, rfl⟩ := hfound
            rcases findK_spec hl hks hix with ⟨h1, _⟩ | ⟨j, en, j', h1, h2, _, h3, _⟩
            · cases h1
            · simp only [Option.some.injEq] at h1
              subst h1
              have : (l.map (·.val))[i]? = some en.val := by rw [List.getElem?_map, h2]; rfl
              exact fin es _ (by rw [hav]; exact ⟨clk, hh⟩) h3 x en.val true (hvs.get' hx this) ⟨rfl, rfl⟩ _
          · cases hfound
        · simp at hfound
        · cases hfound
      · cases hfound
    · cases hfound
  · -- not found
    rename_i fp hfound
    unfold foundC at hfound
    split at hfound
    · simp only [RC, RT] at hvm
      simp only [Option.some.injEq, Prod.mk.injEq, true_and] at hfound
      subst hfound
      exact zero #[] (by rw [hvm.1]) rfl _ h
    · rename_i ks vs
      simp only [RC, RT] at hvm
      obtain ⟨r, es, clk, l, hav, _, hb, hl, hks, hvs⟩ := hvm
      split at hfound
      · split at hfound <;> simp at hfound
      · rename_i hix
        rcases findK_spec hl hks hix with ⟨_, h2, hnk⟩ | ⟨j, en, j', h1, _⟩
        · exact zero es (by rw [hav]; exact ⟨clk, hb⟩) h2 _ h
        · cases h1
      · cases hfound
    · rename_i b
      simp only [RC] at hvm
      obtain ⟨r, hr, hav⟩ := hvm
      split at hfound
      · rename_i ks vs fz hb
        obtain ⟨es, clk, l, hh, hl, hks, hvs⟩ := blk_map hs.mem hb hr
        split at hfound
        · split at hfound <;> simp at hfound
        · rename_i hix
          rcases findK_spec hl hks hix with ⟨_, h2, hnk⟩ | ⟨j, en, j', h1, _⟩
          · exact zero es (by rw [hav]; exact ⟨clk, hh⟩) h2 _ h
          · cases h1
        · cases hfound
      · cases hfound
    · cases hfound
  · cases h

theorem setObj_map {r : Nat} {es : Array MapEntry} {clk : Nat} (o : Obj) (hb : w.heap[r]? = some (.map es clk)) : (setObj r o).run P w = .ok () (setObjW w r o) := MapKept.run_setObj_map o hb

theorem perm_erase {α : Type} : ∀ {l : List α} {i : Nat} {x : α}, l[i]? = some x → l.Perm (x :: l.eraseIdx i)
  | [], i, x, h => by simp at h
  | y :: l, 0, x, h => by simp at h; subst h; simp
  | y :: l, i + 1, x, h => by
    have := perm_erase (l := l) (i := i) (x := x) (by simpa using h)
    rw [List.eraseIdx_cons_succ]
    exact (this.cons y).trans (List.Perm.swap x y _)
theorem perm_set {α : Type} : ∀ {l : List α} {i : Nat} (y : α), i < l.length → (l.set i y).Perm (y :: l.eraseIdx i)
  | [], i, y, h => by simp at h
  | z :: l, 0, y, h => by simp
  | z :: l, i + 1, y, h => by
    have := perm_set (l := l) (i := i) y (by simpa using h)
    rw [List.eraseIdx_cons_succ, List.set_cons_succ]
    exact (this.cons z).trans (List.Perm.swap y z _)
theorem MapOf.set {es es' : Array MapEntry} {clk : Nat} {l : List MapEntry} (hl : MapOf es clk l) {i j : Nat} {en : MapEntry} (h : l[i]? = some en) {v0 : Value}
    (hlist : es'.toList = es.toList.set j { en with key := en.key, val := v0 }) (v : Value) (h' : es.toList[j]? = some en) (hv : v = v0 := by rfl) : MapOf es' clk (l.set i { en with key := en.key, val := v }) := by
  subst hv
  obtain ⟨hi, he⟩ := List.getElem?_eq_some_iff.1 h
  obtain ⟨hj, he'⟩ := List.getElem?_eq_some_iff.1 h'
  have p1 : l.Perm (en :: l.eraseIdx i) := perm_erase h
  have p2 : es.toList.Perm (en :: es.toList.eraseIdx j) := perm_erase h'
  have p3 : (l.eraseIdx i).Perm (es.toList.eraseIdx j) := (p1.symm.trans (hl.perm.trans p2)).cons_inv
  refine ⟨?_, ?_, fun e hm => ?_, ?_⟩
  · rw [hlist]
    exact (perm_set _ hi).trans ((p3.cons _).trans (perm_set _ hj).symm)
  · have : (l.set i { en with key := en.key, val := v }).map (·.key) = l.map (·.key) := by
      rw [List.map_set]
      apply List.ext_getElem?
      intro q
      rw [List.getElem?_set]
      by_cases hq : i = q
      · subst hq; simp [hi, he]
      · simp [hq]
    rw [this]
    exact hl.keys
  · rcases List.mem_or_eq_of_mem_set hm with hm | rfl
    · exact hl.lt e hm
    · exact hl.lt en (List.mem_iff_getElem?.2 ⟨i, h⟩)
  · have : (l.set i { en with key := en.key, val := v }).map (·.born) = l.map (·.born) := by
      rw [List.map_set]
      apply List.ext_getElem?
      intro q
      rw [List.getElem?_set]
      by_cases hq : i = q
      · subst hq; simp [hi, he]
      · simp [hq]
    rw [this]
    exact hl.born
theorem MapOf.push {es : Array MapEntry} {clk : Nat} {l : List MapEntry} (hl : MapOf es clk l) {k : Value} (hk : k ∉ l.map (·.key)) (v : Value) : MapOf (es.push { key := k, val := v, born := clk }) (clk + 1) (l ++ [{ key := k, val := v, born := clk }]) := by
  refine ⟨by rw [Array.toList_push]; exact hl.perm.append_right _, ?_, fun e hm => ?_, ?_⟩
  · rw [List.map_append, List.nodup_append]
    refine ⟨hl.keys, by simp, fun a ha b hb => ?_⟩
    simp at hb
    subst hb
    rintro rfl
    exact hk ha
  · rcases List.mem_append.1 hm with hm | hm
    · have := hl.lt e hm; omega
    · simp at hm; subst hm; simp
  · rw [List.map_append, List.nodup_append]
    refine ⟨hl.born, by simp, fun a ha b hb => ?_⟩
    simp at hb
    subst hb
    rintro rfl
    obtain ⟨e, he, rfl⟩ := List.mem_map.1 ha
    exact Nat.lt_irrefl _ (hl.lt e he)
theorem MapOf.erase {es es' : Array MapEntry} {clk : Nat} {l : List MapEntry} (hl : MapOf es clk l) {i j : Nat} {en : MapEntry} (h : l[i]? = some en)
    (hlist : es'.toList = es.toList.eraseIdx j) (h' : es.toList[j]? = some en) : MapOf es' clk (l.eraseIdx i) := by
  obtain ⟨hi, he⟩ := List.getElem?_eq_some_iff.1 h
  obtain ⟨hj, he'⟩ := List.getElem?_eq_some_iff.1 h'
  have p1 : l.Perm (en :: l.eraseIdx i) := perm_erase h
  have p2 : es.toList.Perm (en :: es.toList.eraseIdx j) := perm_erase h'
  have hsub : (l.eraseIdx i).Sublist l := List.eraseIdx_sublist ..
  refine ⟨?_, (hsub.map _).nodup hl.keys, fun e hm => hl.lt e (hsub.subset hm), (hsub.map _).nodup hl.born⟩
  rw [hlist]
  exact (p1.symm.trans (hl.perm.trans p2)).cons_inv

theorem update_sound (hs : Sim G base w0 nt ρ I e H a w) {o : Oper} {t : TypeId} {m k x : Operand} (ho : o.op = .mapUpdate t m k x ∨ o.op = .insert t m k x) {eff : Eff} (lo hi : Nat) {cm ck cx : C}
    (hm : ev G e m = some cm) (hk : ev G e k = some ck) (hx : ev G e x = some cx) (h : updateC P H t cm ck cx = some eff) : Res P o a w fun v w' => ∃ ρ' I', Step G base w0 ρ I H w lo hi eff v ρ' I' w' := by
  have hvm := ev_sound hs hm
  have hvk := ev_sound hs hk
  have hvx := ev_sound hs hx
  unfold updateC at h
  split at h
  case h_2 => cases h
  rename_i key elem hu
  split at h
  case h_2 => cases h
  rename_i kd kv b hkd
  simp only [RC, RT] at hvk
  split at h
  case isFalse => cases h
  rename_i hsk
  split at h
  case h_2 => cases h
  rename_i ks vs hb
  simp only [RC] at hvm
  obtain ⟨r, hr, hav⟩ := hvm
  obtain ⟨es, clk, l, hh, hl, hks, hvs⟩ := blk_map hs.mem hb hr
  have hexec : (execOp a.eval o).run P w = ((Instr.mapUpdate t (.map (some r)) kv (a.eval x)).run P w).andThen fun _ w' => Result.ok Next.skip w' := by
    rcases ho with ho | ho <;> simp only [execOp, ho, hav, hvk.1, Sem.run_bind, Sem.run_pure]
  have hundef : ∀ {ρ' I'} {w' : World}, RC ρ' w'.heap I' (.tup []) undef := by intro ρ' I' w'; simp only [RC]; exact ⟨#[], rfl, by simp only [RCs]⟩
  split at h
  · rename_i i hix
    split at h
    case isFalse => cases h
    rename_i hlen
    cases h
    rcases findK_spec hl hks hix with ⟨h1, _⟩ | ⟨j, en, j', h1, h2, h2', h3, h4⟩
    · cases h1
    · simp only [Option.some.injEq] at h1
      subst h1
      obtain ⟨hke, hst⟩ := same_stays (P := P) (w := w) h4
      have hei : es[j']? = some en := by simpa using h2'
      have hlt : j' < es.size := (Array.getElem?_eq_some_iff.1 hei).1
      have hlist : (es.modify j' fun q => { q with key := kv, val := a.eval x }).toList = es.toList.set j' { en with key := kv, val := a.eval x } := by
        rw [Array.toList_modify]
        apply List.ext_getElem?
        intro q
        rw [List.getElem?_modify, List.getElem?_set]
        by_cases hq : j' = q
        · subst hq
          have hge : es[j'] = en := (Array.getElem?_eq_some_iff.1 hei).2
          simp [hlt, hge]
        · simp [hq]
      obtain ⟨g1, g2⟩ := hs.mem.setMap hb hr hh (es.modify j' fun q => { q with key := kv, val := a.eval x }) clk (ks' := ks) (vs' := vs.set i cx) (l' := l.set i { en with key := kv, val := a.eval x })
        (by
          have h5 : en.key = kv := hke.symm
          subst h5
          exact hl.set h2 hlist (a.eval x) h2')
        (by
          rw [List.map_set, hks]
          apply List.ext_getElem?
          intro q
          rw [List.getElem?_set]
          by_cases hq : i = q
          · subst hq
            have : ks[i]? = some en.key := by rw [← hks, List.getElem?_map, h2]; rfl
            have hl : i < ks.length := (List.getElem?_eq_some_iff.1 this).1
            rw [if_pos rfl, if_pos hl, this, hke]
          · simp [hq])
        (by
          rw [List.map_set]
          exact hvs.set i hvx)
      refine .inr ⟨setObjW w r (.map (es.modify j' fun q => { q with key := kv, val := a.eval x }) clk), ?_, ρ, I, g1, fun _ _ h => h, fun _ _ => rfl, hundef, g2⟩
      rw [hexec]
      have hgd : ((es[j']?).map (·.key)).getD kv = en.key := by rw [hei]; rfl
      simp only [Instr.mapUpdate, Sem.run_bind, run_underlying hu, Result.andThen_ok, getObj_map hh, run_checkKey' hkd hsk, run_findKey' hkd h3, Nat.zero_add, hgd, hst, setObj_map _ hh]
  · rename_i hix
    cases h
    rcases findK_spec hl hks hix with ⟨_, h2, hnk⟩ | ⟨j, en, j', h1, _⟩
    · obtain ⟨g1, g2⟩ := hs.mem.setMap hb hr hh (es.push { key := kv, val := a.eval x, born := clk }) (clk + 1) (ks' := ks ++ [kv]) (vs' := vs ++ [cx]) (l' := l ++ [{ key := kv, val := a.eval x, born := clk }])
        (hl.push (by rw [hks]; exact hnk) _) (by simp [hks]) (by
          simp only [List.map_append, List.map_cons, List.map_nil]
          exact hvs.append (by simp only [RCs]; exact ⟨_, _, rfl, hvx, rfl⟩))
      refine .inr ⟨setObjW w r (.map (es.push { key := kv, val := a.eval x, born := clk }) (clk + 1)), ?_, ρ, I, g1, fun _ _ h => h, fun _ _ => rfl, hundef, g2⟩
      rw [hexec]
      simp only [Instr.mapUpdate, Sem.run_bind, run_underlying hu, Result.andThen_ok, getObj_map hh, run_checkKey' hkd hsk, run_findKey' hkd h2, setObj_map _ hh]
    · cases h1
  · cases h

theorem delete_sound (hs : Sim G base w0 nt ρ I e H a w) {t : TypeId} {vm vk : Value} (lo hi : Nat) {eff : Eff} {cm ck : C}
    (hvm : RC ρ w.heap I cm vm) (hvk : RC ρ w.heap I ck vk) (h : deleteC P H t cm ck = some eff) (ats : Array TypeId) (hat : ats[0]? = some t) (ty : TypeId) :
    ∃ v w', (Builtin.delete_ ats ty #[vm, vk]).run P w = .ok v w' ∧ ∃ ρ' I', Step G base w0 ρ I H w lo hi eff v ρ' I' w' := by
  have hundef : ∀ {ρ' I'} {w' : World}, RC ρ' w'.heap I' (.tup []) (.tuple #[]) := by intro ρ' I' w'; simp only [RC]; exact ⟨#[], rfl, by simp only [RCs]⟩
  unfold deleteC at h
  split at h
  case h_2 => cases h
  rename_i key elem hu
  split at h
  case h_2 => cases h
  rename_i kd kv hkd
  simp only [RC, RT] at hvk
  split at h
  case isFalse => cases h
  rename_i hsk
  split at h
  · cases h
    simp only [RC, RT] at hvm
    refine ⟨.tuple #[], w, ?_, ρ, I, Step.still hs.mem hundef⟩
    simp [Builtin.delete_, hat, run_underlying hu, hvm.1, run_checkKey' hkd hsk]
  · rename_i b
    split at h
    case h_2 => cases h
    rename_i ks vs hb
    simp only [RC] at hvm
    obtain ⟨r, hr, hav⟩ := hvm
    obtain ⟨es, clk, l, hh, hl, hks, hvs⟩ := blk_map hs.mem hb hr
    split at h
    · rename_i i hix
      split at h
      case isFalse => cases h
      rename_i hlen
      cases h
      rcases findK_spec hl hks hix with ⟨h1, _⟩ | ⟨j, en, j', h1, h2, h2', h3, h4⟩
      · cases h1
      · simp only [Option.some.injEq] at h1
        subst h1
        have hei : es[j']? = some en := by simpa using h2'
        have hlt : j' < es.size := (Array.getElem?_eq_some_iff.1 hei).1
        have hlist : (es.eraseIdxIfInBounds j').toList = es.toList.eraseIdx j' := by
          unfold Array.eraseIdxIfInBounds
          rw [dif_pos hlt, Array.toList_eraseIdx]
        obtain ⟨g1, g2⟩ := hs.mem.setMap hb hr hh (es.eraseIdxIfInBounds j') clk (ks' := ks.eraseIdx i) (vs' := vs.eraseIdx i) (l' := l.eraseIdx i)
          (hl.erase h2 hlist h2') (by rw [← hks, List.eraseIdx_eq_take_drop_succ, List.eraseIdx_eq_take_drop_succ]; simp) (by
            rw [List.eraseIdx_eq_take_drop_succ, List.eraseIdx_eq_take_drop_succ, List.map_append, List.map_take, List.map_drop]
            exact (hvs.take i).append (hvs.drop (i + 1)))
        refine ⟨.tuple #[], setObjW w r (.map (es.eraseIdxIfInBounds j') clk), ?_, ρ, I, g1, fun _ _ h => h, fun _ _ => rfl, hundef, g2⟩
        simp [Builtin.delete_, hat, run_underlying hu, hav, hvk.1, getObj_map hh, run_checkKey' hkd hsk, run_findKey' hkd h3, setObj_map _ hh]
    · rename_i hix
      cases h
      rcases findK_spec hl hks hix with ⟨_, h2, hnk⟩ | ⟨j, en, j', h1, _⟩
      · refine ⟨.tuple #[], setObjW w r (.map es clk), ?_, ρ, I, ?_⟩
        · simp [Builtin.delete_, hat, run_underlying hu, hav, hvk.1, getObj_map hh, run_checkKey' hkd hsk, run_findKey' hkd h2, setObj_map _ hh]
        · have : setObjW w r (.map es clk) = w := by
            unfold setObjW
            have hlt := (Array.getElem?_eq_some_iff.1 hh).1
            have hge := (Array.getElem?_eq_some_iff.1 hh).2
            have : w.heap.setIfInBounds r (.map es clk) = w.heap := by
              apply Array.ext_getElem?
              intro k
              rw [Array.getElem?_setIfInBounds]
              by_cases hk : r = k
              · subst hk; simp [hlt, hge]
              · simp [hk]
            rw [this]
          rw [this]
          exact Step.still hs.mem hundef
      · cases h1
    · cases h
  · cases h

/-! ### Ranges over maps -/
theorem step_new (hs : SimH G base w0 ρ I H w) (hb : base ≤ w0.w.heap.size) {id hi : Nat} (hid : ρ id = none) (hlt : id < hi) (o : Obj) {k : Blk} (hfz : isFz k = false) (hk : RB (upR ρ id w.heap.size) (w.alloc o).heap I w.heap.size k) :
    ∃ ρ' I', Step G base w0 ρ I H w id hi ⟨.loc id 0, [(id, some k)], []⟩ (.pointer (some ⟨w.heap.size, 0, none⟩)) ρ' I' (w.alloc o) := by
  refine ⟨upR ρ id w.heap.size, I, ext_alloc hs o, rho_alloc hid, fun b hb => ?_, by simp only [RC]; exact ⟨w.heap.size, by simp [upR], rfl⟩, hs.alloc hb hid _ hfz hk⟩
  unfold upR
  rw [if_neg]
  rintro rfl
  exact hb ⟨Nat.le_refl _, hlt⟩
theorem one_entry {es : Array MapEntry} {clk : Nat} {l : List MapEntry} {k : Value} (hl : MapOf es clk l) (hk : l.map (·.key) = [k]) : ∃ e, l = [e] ∧ es = #[e] ∧ e.key = k ∧ e.born < clk := by
  match l, hk with
  | [e], hk =>
    refine ⟨e, rfl, ?_, by simpa using hk, hl.lt e List.mem_cons_self⟩
    have := List.perm_singleton.1 hl.perm.symm
    exact Array.toList_inj.1 (by simpa using this)

theorem zip_fst : ∀ {ks : List Value} {vs : List T}, ks.length = vs.length → (ks.zip vs).map (·.1) = ks
  | [], [], _ => rfl
  | k :: ks, v :: vs, h => by simp [zip_fst (ks := ks) (vs := vs) (by simpa using h)]
theorem zip_snd : ∀ {ks : List Value} {vs : List T}, ks.length = vs.length → (ks.zip vs).map (·.2) = vs
  | [], [], _ => rfl
  | k :: ks, v :: vs, h => by simp [zip_snd (ks := ks) (vs := vs) (by simpa using h)]
theorem range_tree (hs : SimH G base w0 ρ I H w) {t k el : TypeId} (hu : P.underlying t = some (.map k el)) {x : T} {td : List (Value × T)} (h : rangeT x = some td) {v : Value} (hv : RT w.heap I x v) :
    ∃ o, (Instr.range t v).run P w = .ok (.pointer (some ⟨w.heap.size, 0, none⟩)) (w.alloc o) ∧ ∀ ρ' : Nat → Option Nat, RB ρ' (w.alloc o).heap I w.heap.size (.iter td none) := by
  unfold rangeT at h
  split at h
  · cases h
    simp only [RT] at hv
    refine ⟨.mapIter none 0 #[] 0, ?_, fun ρ' => ?_⟩
    · simp [Instr.range, run_underlying hu, hv.1]
    · simp only [RB]
      exact .inl ⟨rfl, rfl, 0, #[], 0, alloc_new w _⟩
  · rename_i ks vs
    split at h
    case isFalse => cases h
    rename_i hc
    cases h
    simp only [RT] at hv
    obtain ⟨m, es, clk, l, hav, hI, hm, hl, hk, hvs⟩ := hv
    have hlen : ks.length = vs.length := hc.1
    refine ⟨.mapIter (some m) clk #[] clk, ?_, fun ρ' => ?_⟩
    · simp [Instr.range, run_underlying hu, hav, getObj_map hm, Result.andThen]
    · simp only [RB]
      have hleft : (leftOf es #[]).toList = es.toList := by simp [leftOf]
      refine .inr ⟨m, es, clk, #[], l, hI, by rw [alloc_old w _ m (hs.ilt m hI)]; exact hm, (hl.perm.map _).nodup_iff.1 hl.born, fun e he => hl.lt e (hl.perm.mem_iff.2 he), alloc_new w _, by rw [hleft]; exact hl.perm, by rw [zip_fst hlen]; exact hk, ?_, fun p hp => ?_, fun q hq => by cases hq⟩
      · rw [zip_snd hlen]
        exact RTs.mono (ext_alloc hs _) _ _ hvs
      · have h1 : p.1 ∈ ks := (List.of_mem_zip hp).1
        exact List.all_eq_true.1 hc.2 _ h1
  · cases h
theorem range_sound (hs : Sim G base w0 nt ρ I e H a w) (hb : base ≤ w0.w.heap.size) {o : Oper} {t : TypeId} {x : Operand} (ho : o.op = .range t x) {id hi : Nat} (hid : ρ id = none) (hlt : id < hi) {c : C} (hx : ev G e x = some c) {eff : Eff} (h : rangeC P H id t c = some eff) :
    Res P o a w fun v w' => ∃ ρ' I', Step G base w0 ρ I H w id hi eff v ρ' I' w' := by
  have hv := ev_sound hs hx
  unfold rangeC at h
  split at h
  case h_2 => cases h
  rename_i k el y ms hu hf
  split at h
  case h_2 => cases h
  rename_i td htd
  cases h
  obtain ⟨g1, g2⟩ := frz_sound hs.mem deep c y ms hf
  have hs1 := hs.mem.marks g1
  obtain ⟨ob, r1, r2⟩ := range_tree hs1 hu htd (g2 _ hv)
  obtain ⟨ρ', I', st⟩ := step_new hs1 hb hid hlt ob (k := .iter td none) rfl (r2 _)
  refine .inl ⟨_, w.alloc ob, ?_, ρ', I', ⟨(ext_J w ms).trans st.ext, st.rho, st.out, st.val, ?_⟩⟩
  · simp [execOp, ho, r1, Result.andThen]
  · rw [updH_append]
    exact st.mem

theorem getObj_any {r : Nat} {o : Obj} (hb : w.heap[r]? = some o) (hn : ∀ c e fr, o ≠ .cells c e fr) : (getObj r).run P w = .ok o w := by
  cases o with
  | cells c e fr => exact (hn c e fr rfl).elim
  | _ => simp [getObj, Sem.run, hb]
theorem blk_iter (hs : SimH G base w0 ρ I H w) {b r : Nat} {td : List (Value × T)} {cu : Option (Value × T)} (hb : H b = some (.iter td cu)) (hr : ρ b = some r) : RIter w.heap I r td cu := by
  obtain ⟨r', h1, _, h3, _⟩ := hs.blk b _ hb
  rw [hr] at h1
  cases h1
  simpa only [RB] using h3
theorem erase_born : ∀ {l : List MapEntry} {j : Nat} {e : MapEntry}, (l.map (·.born)).Nodup → l[j]? = some e → l.eraseIdx j = l.filter fun x => !(x.born == e.born)
  | [], j, e, _, h => by simp at h
  | x :: l, 0, e, hn, h => by
    simp at h
    subst h
    simp only [List.map_cons, List.nodup_cons] at hn
    rw [List.eraseIdx_cons_zero, List.filter_cons]
    simp only [beq_self_eq_true, Bool.not_true, Bool.false_eq_true, if_false]
    refine (List.filter_eq_self.2 fun y hy => ?_).symm
    simp only [Bool.not_eq_true', beq_eq_false_iff_ne, ne_eq]
    exact fun he => hn.1 (List.mem_map.2 ⟨y, hy, he⟩)
  | x :: l, j + 1, e, hn, h => by
    simp only [List.map_cons, List.nodup_cons] at hn
    have h' : l[j]? = some e := by simpa using h
    rw [List.eraseIdx_cons_succ, List.filter_cons, erase_born hn.2 h']
    have : x.born ≠ e.born := fun he => hn.1 (List.mem_map.2 ⟨e, List.mem_of_getElem? h', he.symm⟩)
    simp [this]
theorem left_push (es : Array MapEntry) (seen : Array Nat) (b : Nat) : (leftOf es (seen.push b)).toList = (leftOf es seen).toList.filter fun x => !(x.born == b) := by
  simp only [leftOf, Array.toList_filter, List.filter_filter]
  refine List.filter_congr fun x _ => ?_
  simp only [Array.contains_push]
  cases seen.contains x.born <;> simp [Bool.beq_comm]
/-- An iterator goes on: it is at its end, or whichever entry comes. -/
theorem iter_next (hs : SimH G base w0 ρ I H w) {b r : Nat} {td : List (Value × T)} {cu : Option (Value × T)} (hb : H b = some (.iter td cu)) (hr : ρ b = some r) (ty : TypeId) :
    (td = [] ∧ (Instr.next (.pointer (some ⟨r, 0, none⟩)) false ty).run P w = .ok (.tuple #[.bool false]) w) ∨
    ∃ j k x v w1, td[j]? = some (k, x) ∧ flat k = true ∧ (Instr.next (.pointer (some ⟨r, 0, none⟩)) false ty).run P w = .ok (.tuple #[.bool true, k, v]) w1 ∧ RT w1.heap I x v ∧ Ext I I w.heap w1.heap ∧
      SimH G base w0 ρ I (updH H [(b, some (.iter (td.eraseIdx j) (some (k, x))))]) w1 := by
  rcases blk_iter hs hb hr with ⟨h1, _, a', s', b', hit⟩ | ⟨m, es, clk, seen, l, hI, hm, hnd, hlt, hit, hl, hk, hv, hfl, _⟩
  · refine .inl ⟨h1, ?_⟩
    simp only [Instr.next, Sem.run_bind, getObj_any hit (by simp), Result.andThen_ok]
    rfl
  · rcases run_next_at (P := P) w ty r m clk clk seen es clk hit hm hlt (Nat.le_refl _) with ⟨h0, hrun⟩ | ⟨e, he, w1, hw1, hrun⟩
    · refine .inl ⟨?_, hrun⟩
      have hl0 : l.length = 0 := by rw [hl.length_eq]; simpa using h0
      have : (td.map (·.1)).length = 0 := by rw [← hk]; simp [hl0]
      simpa using this
    · obtain ⟨j, hj⟩ := List.getElem?_of_mem (hl.mem_iff.2 he)
      have hjl : j < l.length := (List.getElem?_eq_some_iff.1 hj).1
      have hjt : j < td.length := by
        have := congrArg List.length hk
        simp at this
        omega
      have htj : td[j]? = some td[j] := List.getElem?_eq_getElem hjt
      have hkey : td[j].1 = e.key := by
        have := congrArg (fun z => z[j]?) hk
        simp [hj, htj] at this
        exact this.symm
      have hval : RT w.heap I td[j].2 e.val := hv.get' (i := j) (by simp [htj]) (by simp [hj])
      have hborn : (l.map (·.born)).Nodup := by
        refine (hl.map _).nodup_iff.2 ?_
        have : ((leftOf es seen).toList.map (·.born)).Sublist (es.toList.map (·.born)) := by
          simp only [leftOf, Array.toList_filter]
          exact List.filter_sublist.map _
        exact this.nodup hnd
      have hfk : flat e.key = true := by rw [← hkey]; exact hfl _ (List.getElem_mem hjt)
      refine .inr ⟨j, e.key, td[j].2, e.val, setObjW w1 r (.mapIter (some m) clk (seen.push e.born) clk), by rw [htj, ← hkey], hfk, hrun, ?_⟩
      have hs1 : SimH G base w0 ρ I H w1 := by
        rcases hw1 with rfl | rfl
        · exact hs
        · exact hs.drew
      have hheap : w1.heap = w.heap := by rcases hw1 with rfl | rfl <;> rfl
      obtain ⟨g1, g2⟩ := hs1.setIter (k' := .iter (td.eraseIdx j) (some (e.key, td[j].2))) hb rfl rfl hr (by rw [hheap]; exact hit) (.mapIter (some m) clk (seen.push e.born) clk) (fun {h} h1 hx => by
        rw [hheap] at hx
        simp only [RB]
        refine .inr ⟨m, es, clk, seen.push e.born, l.eraseIdx j, hI, (hx.imm m hI).trans hm, hnd, hlt, h1, ?_, ?_, ?_, fun p hp => hfl p (List.mem_of_mem_eraseIdx hp), fun q hq => ?_⟩
        · rw [left_push, erase_born hborn hj]
          exact hl.filter _
        · rw [List.eraseIdx_eq_take_drop_succ, List.eraseIdx_eq_take_drop_succ, List.map_append, List.map_append, List.map_take, List.map_take, List.map_drop, List.map_drop, hk]
        · rw [List.eraseIdx_eq_take_drop_succ, List.eraseIdx_eq_take_drop_succ, List.map_append, List.map_append, List.map_take, List.map_take, List.map_drop, List.map_drop]
          have hv' := RTs.mono hx _ _ hv
          exact (hv'.take j).append (hv'.drop (j + 1))
        · cases hq
          exact ⟨e, seen, rfl, (mem_left he).1, rfl, RT.mono hx _ _ hval, hfk⟩)
      rw [hheap] at g1
      exact ⟨RT.mono g1 _ _ hval, g1, g2⟩

theorem next_sound (hs : Sim G base w0 nt ρ I e H a w) {o : Oper} {s : Bool} {x : Operand} (ho : o.op = .next x s) (lo hi : Nat) {c : C} (hx : ev G e x = some c) {eff : Eff} (h : nextC H s c = some eff) :
    Res P o a w fun v w' => Step G base w0 ρ I H w lo hi eff v ρ I w' := by
  have hv := ev_sound hs hx
  have hB : ∀ {h : Array Obj} (b : Bool), RC ρ h I (goB b) (.bool b) := fun b => by simp [goB, RC, RT, flat]
  unfold nextC at h
  split at h
  case h_2 => cases h
  rename_i b
  simp only [RC] at hv
  obtain ⟨r, hr, hav⟩ := hv
  split at h
  · rename_i k y cu hb
    cases h
    rcases iter_next (P := P) hs.mem hb hr o.type with ⟨h1, _⟩ | ⟨j, k', x', v, w1, hj, hfl, hrun, hy, g1, g2⟩
    · cases h1
    · have hj0 : j = 0 := by
        have := (List.getElem?_eq_some_iff.1 hj).1
        simp at this
        exact this
      subst hj0
      simp at hj
      obtain ⟨rfl, rfl⟩ := hj
      refine .inl ⟨.tuple #[.bool true, k, v], w1, ?_, g1, fun _ _ h => h, fun _ _ => rfl, ?_, g2⟩
      · simp only [execOp, ho, hav, Sem.run_bind, hrun, Result.andThen_ok, Sem.run_pure]
      · simp only [RC, RCs]
        exact ⟨_, rfl, _, _, rfl, hB true, _, _, rfl, by simp [RT, hfl], _, _, rfl, hy, rfl⟩
  · rename_i cu hb
    cases h
    rcases iter_next (P := P) hs.mem hb hr o.type with ⟨_, hrun⟩ | ⟨j, k', x', v, w1, hj, _⟩
    · refine .inl ⟨.tuple #[.bool false], w, ?_, Step.still hs.mem ?_⟩
      · simp only [execOp, ho, hav, Sem.run_bind, hrun, Result.andThen_ok, Sem.run_pure]
      · simp only [RC, RCs]
        exact ⟨_, rfl, _, _, rfl, hB false, rfl⟩
    · simp at hj
  · cases h

theorem entry_sound (hs : Sim G base w0 nt ρ I e H a w) {o : Oper} {x : Operand} (ho : o.op = .entry x) (lo hi : Nat) {c : C} (hx : ev G e x = some c) {eff : Eff} (h : entryC H c = some eff) :
    Res P o a w fun v w' => Step G base w0 ρ I H w lo hi eff v ρ I w' := by
  have hv := ev_sound hs hx
  unfold entryC at h
  split at h
  case h_2 => cases h
  rename_i b
  simp only [RC] at hv
  obtain ⟨r, hr, hav⟩ := hv
  split at h
  · rename_i td k y hb
    cases h
    rcases blk_iter hs.mem hb hr with ⟨_, h1, _⟩ | ⟨m, es, clk, seen, l, hI, hm, hnd, hlt, hit, hl, hk, hv', hfl, hcu⟩
    · cases h1
    · obtain ⟨en, seen', rfl, hen, hke, hy, hfk⟩ := hcu _ rfl
      simp only at hke hy hfk
      have hrun := run_entry_at (P := P) w r m clk seen' es clk en hit hm hen hnd
      rw [hke] at hrun
      refine .inl ⟨.tuple #[k, en.val], w, ?_, Step.still hs.mem ?_⟩
      · simp only [execOp, ho, hav, Sem.run_bind, hrun, Result.andThen_ok, Sem.run_pure]
      · simp only [RC, RCs]
        exact ⟨_, rfl, _, _, rfl, by simp [RT, hfk], _, _, rfl, hy, rfl⟩
  · cases h

theorem len_sound (hs : Sim G base w0 nt ρ I e H a w) {t : TypeId} {d : TypeDesc} {v : Value} {c : C} {n : Nat} {fp : List Nat} (hu : P.underlying t = some d) (hv : RC ρ w.heap I c v) (h : lenC H d c = some (n, fp))
    (ats : Array TypeId) (hat : ats[0]? = some t) (ty : TypeId) : (Builtin.len_ ats ty #[v]).run P w = .ok (goInt n) w := by
  unfold lenC at h
  split at h
  · simp only [Option.some.injEq, Prod.mk.injEq] at h
    obtain ⟨rfl, _⟩ := h
    simp [Builtin.len_, hat, run_underlying hu]
  · simp only [Option.some.injEq, Prod.mk.injEq] at h
    obtain ⟨rfl, _⟩ := h
    simp only [RC, RT] at hv
    simp [Builtin.len_, hat, run_underlying hu, hv.1]
  · simp only [Option.some.injEq, Prod.mk.injEq] at h
    obtain ⟨rfl, _⟩ := h
    simp only [RC, RT] at hv
    simp [Builtin.len_, hat, run_underlying hu, hv.1]
  · simp only [Option.some.injEq, Prod.mk.injEq] at h
    obtain ⟨rfl, _⟩ := h
    simp only [RC, RT] at hv
    obtain ⟨b, lo, cap, c, el, fr, rfl, _⟩ := hv
    simp [Builtin.len_, hat, run_underlying hu]
  · simp only [Option.some.injEq, Prod.mk.injEq] at h
    obtain ⟨rfl, _⟩ := h
    simp only [RC] at hv
    obtain ⟨r, cap, c, el, fr, _, rfl, _⟩ := hv
    simp [Builtin.len_, hat, run_underlying hu]
  · simp only [Option.some.injEq, Prod.mk.injEq] at h
    obtain ⟨rfl, _⟩ := h
    simp only [RC, RT] at hv
    simp [Builtin.len_, hat, run_underlying hu, hv.1]
  · simp only [Option.some.injEq, Prod.mk.injEq] at h
    obtain ⟨rfl, _⟩ := h
    simp only [RC, RT] at hv
    obtain ⟨r, es, clk, l, rfl, _, hb, hl, hks, _⟩ := hv
    have : es.size = es.toList.length := by simp
    simp [Builtin.len_, hat, run_underlying hu, getObj_map hb, ← hks, hl.perm.length_eq]
  · rename_i b
    split at h
    · rename_i ks vs fz hb
      simp only [Option.some.injEq, Prod.mk.injEq] at h
      obtain ⟨rfl, _⟩ := h
      simp only [RC] at hv
      obtain ⟨r, hr, rfl⟩ := hv
      obtain ⟨es, clk, l, hh, hl, hks, _⟩ := blk_map hs.mem hb hr
      simp [Builtin.len_, hat, run_underlying hu, getObj_map hh, ← hks, hl.perm.length_eq]
    · cases h
  · cases h

theorem src_sound (hs : Sim G base w0 nt ρ I e H a w) {c : C} {v : Value} {src : List C} {k : Nat} {fp : List Nat} (h : srcL H c = some (src, k, fp)) (hv : RC ρ w.heap I c v) :
    ∃ news, RCs ρ w.heap I src news ∧ ones news ∧ ((v = .slice none 0 0 ∧ k = 0 ∧ src = []) ∨ ∃ a c, v = .slice (some a) k c ∧ ∀ (j : Nat) u, news[j]? = some u → w.cell? (a.add j) = some u) := by
  unfold srcL at h
  split at h
  · simp only [Option.some.injEq, Prod.mk.injEq] at h
    obtain ⟨rfl, rfl, _⟩ := h
    simp only [RC, RT] at hv
    exact ⟨[], by simp [RCs], (fun v hv => by cases hv), .inl ⟨hv.1, rfl, rfl⟩⟩
  · rename_i ts n clip
    simp only [Option.some.injEq, Prod.mk.injEq] at h
    obtain ⟨rfl, rfl, _⟩ := h
    simp only [RC, RT] at hv
    obtain ⟨b, lo, cap, c, el, fr, rfl, _, hb, h1, h2, _⟩ := hv
    refine ⟨win c lo ts.length, RCs.of_RTs h1, h2, .inr ⟨_, _, rfl, fun j u hu => ?_⟩⟩
    rw [addr_add, cell_of_row w b _ c el fr hb]
    exact (win_get hu).2
  · rename_i b n sz
    split at h
    · rename_i cs fz hb
      simp only [Option.some.injEq, Prod.mk.injEq] at h
      obtain ⟨rfl, rfl, _⟩ := h
      simp only [RC] at hv
      obtain ⟨r, cap, c0, e0, fr0, hr, rfl, _⟩ := hv
      obtain ⟨c, el, h1, h2, h3, h4⟩ := blk_cells hs.mem hb hr
      refine ⟨(win c 0 cs.length).take (n * sz), h3.take _, ones_sub h4 fun v hv => List.mem_of_mem_take hv, .inr ⟨_, _, rfl, fun j u hu => ?_⟩⟩
      rw [addr_add, cell_of_row w r _ c el (0, 0) h1]
      rw [List.getElem?_take] at hu
      split at hu
      · exact (win_get hu).2
      · cases hu
    · cases h
  · cases h

theorem grown_le (w : World) {need old : Nat} (e : TypeId) : need ≤ grownCap w need old e := by
  unfold grownCap Question.cut
  exact Nat.le_add_right _ _

theorem zeroCells_length (z : Array Value) (n : Nat) : (Builtin.zeroCells z n).size = n * z.size := by simp [Builtin.zeroCells]
end
end Go.Va
