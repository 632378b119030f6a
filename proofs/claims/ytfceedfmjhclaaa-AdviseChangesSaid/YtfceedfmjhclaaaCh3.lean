/- The memory of one place: Swap; the lines; what the machine does. -/
import Derived.Test.YtfceedfmjhclaaaCh2
namespace Go.Proofs.Ytfceedfmjhclaaa
open Go Go.RowKit Go.Va
set_option maxRecDepth 100000
set_option maxHeartbeats 400000
theorem pr_forIn_some {P : Program} {body : Field → Option Bool × Unit → Sem (ForInStep (Option Bool × Unit))} (bs : Field → Bool) : ∀ {fs : List Field},
    (∀ f, f ∈ fs → pr P (body f (none, ())) = some (if bs f then .yield (none, ()) else .done (some false, ()))) → pr P (forIn fs (none, ()) body) = some (if fs.all bs then (none, ()) else (some false, ()))
  | [], h => rfl
  | f :: fs, h => by
    rw [List.forIn_cons, pr_bind_eq, h f List.mem_cons_self]
    simp only [Option.bind_some, List.all_cons]
    rcases Bool.eq_false_or_eq_true (bs f) with hb | hb
    rotate_left
    · simp only [hb, Bool.false_eq_true, if_false, Bool.false_and, pr_pure]
    · simp only [hb, if_true, Bool.true_and]
      exact pr_forIn_some bs fun f' hf' => h f' (List.mem_cons_of_mem _ hf')
theorem eq_struct2 {P : Program} {d : Nat} {t : TypeId} {fs : Array Field} {xs ys : Array Value} (bs : Field → Bool) (hu : P.underlying t = some (.struct fs)) (hst : P.stoodInHeld t = false)
    (h : ∀ f, f ∈ fs.toList → (f.name ≠ "_") ∧ ∃ x y, pr P (part f.type xs f.offset) = some x ∧ pr P (part f.type ys f.offset) = some y ∧ pr P (Op.equalIn d f.type x y) = some (bs f)) : pr P (Op.equalIn (d + 1) t (.agg xs) (.agg ys)) = some (fs.toList.all bs) := by
  rw [Op.equalIn]
  simp only [pr_bind_eq, pr_underlying hu, Option.bind_some, pr_program, hst, Bool.false_eq_true, if_false]
  rw [← Array.forIn_toList, pr_forIn_some bs]
  · cases fs.toList.all bs <;> rfl
  · intro f hf
    obtain ⟨hn, x, y, h1, h2, h3⟩ := h f hf
    rw [if_pos hn]
    simp only [pr_bind_eq, h1, h2, h3, Option.bind_some]
    cases bs f <;> simp [pr_pure]
theorem eq_int2 (d : Nat) (t : TypeId) (k k' : IntKind) (ht : Try.prog.underlying t = some (.int k)) (a b : Int) : pr Try.prog (Op.equalIn (d + 1) t (.int k' a) (.int k' b)) = some (a == b) := by
  rw [Op.equalIn]
  simp [pr_bind_eq, pr_underlying ht, pr_pure]
def wV (v a r : Int) : Array Value := [.int .i64 v, .int .u32 a, .int .u32 r].toArray
theorem eq_word2 (d : Nat) (v a r v' a' r' : Int) : pr Try.prog (Op.equalIn (d + 1 + 1) 35 (.agg (wV v a r)) (.agg (wV v' a' r'))) = some (v == v' && (a == a' && r == r')) := by
  have := eq_struct2 (P := Try.prog) (d := d + 1) (xs := wV v a r) (ys := wV v' a' r') (fun f => if f.offset = 0 then v == v' else if f.offset = 1 then a == a' else r == r') Try.underlying35 (by kernel_rfl) (fun f hf => by
    simp only [List.mem_cons, List.not_mem_nil, or_false] at hf
    rcases hf with rfl | rfl | rfl
    · exact ⟨by decide, .int .i64 v, .int .i64 v', by kernel_rfl, by kernel_rfl, eq_int2 d 2 .i64 .i64 (by kernel_rfl) v v'⟩
    · exact ⟨by decide, .int .u32 a, .int .u32 a', by kernel_rfl, by kernel_rfl, eq_int2 d 33 .u32 .u32 (by kernel_rfl) a a'⟩
    · exact ⟨by decide, .int .u32 r, .int .u32 r', by kernel_rfl, by kernel_rfl, eq_int2 d 33 .u32 .u32 (by kernel_rfl) r r'⟩)
  rw [this]
  simp
def sameW (v a r v' a' r' : Int) : Bool := v == v' && (a == a' && r == r')
theorem neq_word (x y : Operand) (v a r v' a' r' : Int) (b : Bool) (hb : sameW v a r v' a' r' = b) : BinIs Try.prog .neq 35 x y (.agg (wV v a r)) (.agg (wV v' a' r')) (.bool (!b)) := by
  unfold BinIs
  have hg : pr Try.prog (eqGuard .neq 35 x y (.agg (wV v a r)) (.agg (wV v' a' r'))) = some () := by kernel_rfl
  have he := eq_word2 9998 v a r v' a' r'
  rw [pr_bind hg]
  have : pr Try.prog (binOp .neq 35 (.agg (wV v a r)) (.agg (wV v' a' r'))) = (pr Try.prog (Op.equalIn (9998 + 1 + 1) 35 (.agg (wV v a r)) (.agg (wV v' a' r')))).bind fun b => some (.bool (!b)) := by
    show pr Try.prog (Op.equalIn (9998 + 1 + 1) 35 (.agg (wV v a r)) (.agg (wV v' a' r')) >>= fun b => (pure (Value.bool (!b)) : Sem Value)) = _
    rw [pr_bind_eq]
    rfl
  rw [this, he, ← hb]
  rfl
def wT (v a r : Int) : T := .agg [i64 v, u32 a, u32 r]
/-- Swap that finds another word. -/
theorem swap_fails (pre : List T) (m : Msg) (k : Nat) (c c1 c2 : Bool) (hpre : pre.length = k * 5) (hk : k ≤ 100000) (w1 w2 w3 : Option Int) (t : Nat) (ht : t = 1 ∨ t = 2 ∨ t = 3) (v a r v' a' r' : Int) (hs : sameW m.v m.a m.r v a r = false) :
    Holds Try.prog noG 64 [memT (histT pre m k c) c1 c2 w1 w2 w3, i64 t, i64 0, wT v a r, wT v' a' r'] [.t (memW (histT pre m k c) c1 false (setW t (lookV t m k w1 w2 w3) w1 w2 w3)), .t (.agg m.w), .t (bl false), .t (i64 0)] := by
  have e : ∀ (q1 q2 q3 : Option Int), runX Try.prog noG clones 10 64 [memT (histT pre m k c) c1 c2 w1 w2 w3, i64 t, i64 0, wT v a r, wT v' a' r']
      [((64, 21), .call [.t (memT (histT pre m k c) c1 false q1 q2 q3), .t (.agg m.w), .t (i64 0)]), ((64, 30), .res (.t (bl true)))] =
      some ([.t (memT (histT pre m k c) c1 false q1 q2 q3), .t (.agg m.w), .t (bl false), .t (i64 0)], [], [Holds Try.prog noG 72 [memT (histT pre m k c) c1 c2 w1 w2 w3, i64 t, i64 0] [.t (memT (histT pre m k c) c1 false q1 q2 q3), .t (.agg m.w), .t (i64 0)],
        BinIs Try.prog .neq 35 (.tmp 28) (.tmp 29) (.agg (wV m.v m.a m.r)) (.agg (wV v a r)) (.bool true)]) := by
    intro q1 q2 q3
    kernel_rfl
  exact sndC 10 _ _ _ _ _ _ (e _ _ _) (.cons (look_holds pre m k c c1 c2 hpre hk w1 w2 w3 t ht) (.cons (neq_word _ _ _ _ _ _ _ _ _ hs) .nil))
/-- Swap that finds the word it expects. -/
theorem swap_works (pre : List T) (m : Msg) (k : Nat) (c c1 c2 : Bool) (hpre : pre.length = k * 5) (hk : k ≤ 100000) (w1 w2 w3 : Option Int) (t : Nat) (ht : t = 1 ∨ t = 2 ∨ t = 3) (v a r v' a' r' : Int) (hs : sameW m.v m.a m.r v a r = true) :
    ∃ (u1 u2 u3 y : Option Int), Holds Try.prog noG 64 [memT (histT pre m k c) c1 c2 w1 w2 w3, i64 t, i64 0, wT v a r, wT v' a' r'] [.t (memT (histT (pre ++ m.l) ⟨v', a', r', t, y⟩ (k + 1) false) false false u1 u2 u3), .t (.agg m.w), .t (bl true), .t (i64 0)] := by
  have e : ∀ (q1 q2 q3 u1 u2 u3 y : Option Int), runX Try.prog noG clones 10 64 [memT (histT pre m k c) c1 c2 w1 w2 w3, i64 t, i64 0, wT v a r, wT v' a' r']
      [((64, 21), .call [.t (memT (histT pre m k c) c1 false q1 q2 q3), .t (.agg m.w), .t (i64 0)]), ((64, 30), .res (.t (bl false))), ((64, 39), .call [.t (memT (histT (pre ++ m.l) ⟨v', a', r', t, y⟩ (k + 1) false) false false u1 u2 u3)])] =
      some ([.t (memT (histT (pre ++ m.l) ⟨v', a', r', t, y⟩ (k + 1) false) false false u1 u2 u3), .t (.agg m.w), .t (bl true), .t (i64 0)], [], [Holds Try.prog noG 72 [memT (histT pre m k c) c1 c2 w1 w2 w3, i64 t, i64 0] [.t (memT (histT pre m k c) c1 false q1 q2 q3), .t (.agg m.w), .t (i64 0)],
        BinIs Try.prog .neq 35 (.tmp 28) (.tmp 29) (.agg (wV m.v m.a m.r)) (.agg (wV v a r)) (.bool false),
        Holds Try.prog noG 74 [memT (histT pre m k c) c1 false q1 q2 q3, i64 t, i64 0, wT v' a' r', bl true] [.t (memT (histT (pre ++ m.l) ⟨v', a', r', t, y⟩ (k + 1) false) false false u1 u2 u3)]]) := by
    intro q1 q2 q3 u1 u2 u3 y
    kernel_rfl
  exact ⟨_, _, _, _, sndC 10 _ _ _ _ _ _ (e _ _ _ _ _ _ _) (.cons (look_holds pre m k c c1 c2 hpre hk w1 w2 w3 t ht) (.cons (neq_word _ _ _ _ _ _ _ _ _ hs) (.cons (adds_holds pre m k c c1 false hpre hk _ _ _ t ht v' a' r') .nil)))⟩
end Go.Proofs.Ytfceedfmjhclaaa
