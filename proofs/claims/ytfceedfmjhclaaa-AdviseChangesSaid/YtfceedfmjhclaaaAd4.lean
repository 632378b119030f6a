/- Structs compared: a value is equal to itself. -/
import Derived.Test.YtfceedfmjhclaaaAd3
namespace Go.Proofs.Ytfceedfmjhclaaa
open Go Go.RowKit Go.Va
set_option maxRecDepth 100000
set_option maxHeartbeats 400000
theorem pr_bind_eq {α β : Type} {P : Program} : ∀ (s : Sem α) (f : α → Sem β), pr P (s >>= f) = (pr P s).bind fun a => pr P (f a)
  | .pure b, f => rfl
  | .program k, f => by show pr P (k P >>= f) = _; rw [pr_bind_eq]; rfl
  | .mark m k, f => by show pr P (k >>= f) = _; rw [pr_bind_eq]; rfl
  | .choose q k, f => by
    show pr P (.choose q fun n => k n >>= f) = _
    simp only [pr]
    split
    · exact pr_bind_eq _ _
    · rfl
  | .load .., f => rfl
  | .store .., f => rfl
  | .new .., f => rfl
  | .shape .., f => rfl
  | .freeze .., f => rfl
  | .frozen .., f => rfl
  | .getObj .., f => rfl
  | .setObj .., f => rfl
  | .sys .., f => rfl
  | .halt .., f => rfl
theorem pr_pure {α : Type} {P : Program} (a : α) : pr P (pure a : Sem α) = some a := rfl
theorem pr_program {P : Program} : pr P Go.program = some P := rfl
theorem pr_underlying {P : Program} {t : TypeId} {d : TypeDesc} (h : P.underlying t = some d) : pr P (Go.underlying t) = some d := by
  unfold Go.underlying
  simp [pr_bind_eq, pr_program, h, pr_pure]
theorem pr_forIn_all {P : Program} {body : Field → Option Bool × Unit → Sem (ForInStep (Option Bool × Unit))} : ∀ {fs : List Field}, (∀ f, f ∈ fs → pr P (body f (none, ())) = some (.yield (none, ()))) → pr P (forIn fs (none, ()) body) = some (none, ())
  | [], h => rfl
  | f :: fs, h => by
    rw [List.forIn_cons, pr_bind_eq, h f List.mem_cons_self]
    simp only [Option.bind_some]
    exact pr_forIn_all fun f' hf' => h f' (List.mem_cons_of_mem _ hf')
/-- Two structs whose parts are equal are equal. -/
theorem eq_struct {P : Program} {d : Nat} {t : TypeId} {fs : Array Field} {xs : Array Value} (hu : P.underlying t = some (.struct fs)) (hst : P.stoodInHeld t = false)
    (h : ∀ f, f ∈ fs.toList → ∃ v, pr P (part f.type xs f.offset) = some v ∧ pr P (Op.equalIn d f.type v v) = some true) : pr P (Op.equalIn (d + 1) t (.agg xs) (.agg xs)) = some true := by
  rw [Op.equalIn]
  simp only [pr_bind_eq, pr_underlying hu, Option.bind_some, pr_program, hst, Bool.false_eq_true, if_false]
  rw [← Array.forIn_toList, pr_forIn_all]
  · rfl
  · intro f hf
    obtain ⟨v, h1, h2⟩ := h f hf
    split
    · simp only [pr_bind_eq, h1, h2, Option.bind_some, Bool.not_true, Bool.false_eq_true, if_false, pr_pure]
    · rfl
theorem eq_int (d : Nat) (t : TypeId) (k k' : IntKind) (ht : Try.prog.underlying t = some (.int k)) (a : Int) : pr Try.prog (Op.equalIn (d + 1) t (.int k' a) (.int k' a)) = some true := by
  rw [Op.equalIn]
  simp [pr_bind_eq, pr_underlying ht, pr_pure]
def A8.v (a : A8) : List Value := [.int .i64 a.op, .int .i64 a.at', .int .i64 a.ov, .int .u32 a.oa, .int .u32 a.or', .int .i64 a.nv, .int .u32 a.na, .int .u32 a.nr]
theorem eq_word (d : Nat) (v a r : Int) : pr Try.prog (Op.equalIn (d + 1 + 1) 35 (.agg [.int .i64 v, .int .u32 a, .int .u32 r].toArray) (.agg [.int .i64 v, .int .u32 a, .int .u32 r].toArray)) = some true := by
  refine eq_struct Try.underlying35 (by kernel_rfl) fun f hf => ?_
  simp only [List.mem_cons, List.not_mem_nil, or_false] at hf
  rcases hf with rfl | rfl | rfl
  · exact ⟨.int .i64 v, by kernel_rfl, eq_int d 2 .i64 .i64 (by kernel_rfl) v⟩
  · exact ⟨.int .u32 a, by kernel_rfl, eq_int d 33 .u32 .u32 (by kernel_rfl) a⟩
  · exact ⟨.int .u32 r, by kernel_rfl, eq_int d 33 .u32 .u32 (by kernel_rfl) r⟩
theorem eq_act (d : Nat) (a : A8) : pr Try.prog (Op.equalIn (d + 1 + 1 + 1) 37 (.agg a.v.toArray) (.agg a.v.toArray)) = some true := by
  refine eq_struct Try.underlying37 (by kernel_rfl) fun f hf => ?_
  simp only [List.mem_cons, List.not_mem_nil, or_false] at hf
  rcases hf with rfl | rfl | rfl | rfl
  · exact ⟨.int .i64 a.op, by kernel_rfl, eq_int (d + 1) 3 .i64 .i64 (by kernel_rfl) _⟩
  · exact ⟨.int .i64 a.at', by kernel_rfl, eq_int (d + 1) 32 .i64 .i64 (by kernel_rfl) _⟩
  · exact ⟨_, by kernel_rfl, eq_word d a.ov a.oa a.or'⟩
  · exact ⟨_, by kernel_rfl, eq_word d a.nv a.na a.nr⟩
theorem neq_act (x y : Operand) (a : A8) : BinIs Try.prog .neq 37 x y (.agg a.v.toArray) (.agg a.v.toArray) (.bool false) := by
  unfold BinIs
  have hg : pr Try.prog (eqGuard .neq 37 x y (.agg a.v.toArray) (.agg a.v.toArray)) = some () := by kernel_rfl
  have he := eq_act 9997 a
  rw [pr_bind hg]
  have : pr Try.prog (binOp .neq 37 (.agg a.v.toArray) (.agg a.v.toArray)) = (pr Try.prog (Op.equalIn (9997 + 1 + 1 + 1) 37 (.agg a.v.toArray) (.agg a.v.toArray))).bind fun b => some (.bool (!b)) := by
    show pr Try.prog (Op.equalIn (9997 + 1 + 1 + 1) 37 (.agg a.v.toArray) (.agg a.v.toArray) >>= fun b => (pure (Value.bool (!b)) : Sem Value)) = _
    rw [pr_bind_eq]
    rfl
  rw [this, he]
  rfl
end Go.Proofs.Ytfceedfmjhclaaa
