/- maps.Clone at this program's map types, and the example 'awake'. -/
import Derived.Test.YtfceedfmjhclaaaRows
import Derived.WalkKit
import Derived.Laws.Externs
import Derived.MapKept
import Derived.Test.YtfceedfmjhclaaaVa18
namespace Go.Proofs.Ytfceedfmjhclaaa
open Go.RowKit Go.Va

section
variable {P : Program} (w : World)
theorem equalIn_map_nil (d : Nat) (t k e : TypeId) (p : Option Nat) (h : P.underlying t = some (.map k e)) :
    (Op.equalIn (d + 1) t (.map p) (.map none)).run P w = .ok p.isNone w := by
  cases p <;> simp [Op.equalIn, run_underlying h]
theorem eql_map_nil (t k e : TypeId) (p : Option Nat) (h : P.underlying t = some (.map k e)) :
    (binOp .eql t (.map p) (.map none)).run P w = .ok (.bool p.isNone) w := by
  simp only [binOp]
  simp [show Op.equal t (.map p) (.map none) = Op.equalIn (9999 + 1) t (.map p) (.map none) from rfl, equalIn_map_nil w 9999 t k e p h]
theorem typeAssert_map (t xT k e : TypeId) (v : Value) (h : P.underlying t = some (.map k e)) : (Instr.typeAssert (.iface t v) xT t false).run P w = .ok v w := by
  simp [Instr.typeAssert, run_underlying h, go_sem, Result.andThen]
theorem clone_run {r : Nat} {es : Array MapEntry} {clock : Nat} (t : TypeId) (hb : w.heap[r]? = some (.map es clock)) :
    (Extern.MapsClone.clone #[.iface t (.map (some r))]).run P w = .ok (.iface t (.map (some w.heap.size))) (w.alloc (.map es clock)) := by
  have e : Extern.MapsClone.clone #[.iface t (.map (some r))] = (getObj r >>= fun o => match o with
      | .map entries clock => (newObj (.map entries clock) >>= fun n => pure (.iface t (.map (some n))))
      | _ => stuck "maps.clone: a map expected") := rfl
  rw [e]
  simp [MapKept.run_getObj_map hb, Result.andThen, go_sem]
end

/-- What a function that copies a map does. -/
def Clones (P : Program) (f : FuncId) : Prop := ∀ (b : Nat) (es : Array MapEntry) (clock : Nat) (w : World), w.heap[b]? = some (.map es clock) →
  Calls P f #[.map (some b)] w fun e w' => e = .returned (.map (some w.heap.size)) ∧ w' = w.alloc (.map es clock)

theorem holds_clone {P : Program} {G : Nat → Option (List T)} {f : FuncId} (h : Clones P f) (ks : List Value) (vs : List T) : Holds P G f [.mp ks vs] [.omp ks vs] := by
  intro w I args hg hlt hargs
  simp only [RTs, RT] at hargs
  obtain ⟨v, rest, rfl, ⟨r, es, clk, l, rfl, hI, hb, hl, hk, hvs⟩, rfl⟩ := hargs
  refine (h r es clk w hb).mono fun e w' ⟨he, hw⟩ => ?_
  subst he; subst hw
  refine ⟨[.map (some w.heap.size)], I, [w.heap.size], rfl, (Below.refl _ w).alloc (Nat.le_refl _) _, fun b hb => hb, fun b hb => .inl hb, ?_, by simp⟩
  simp only [RR]
  refine ⟨w.heap.size, es, clk, l, [], [], rfl, rfl, alloc_new w _, hl, hk, ?_, Nat.le_refl _, fun hI => absurd (hlt _ hI) (Nat.lt_irrefl _), rfl, rfl⟩
  exact RTs.mono ⟨fun b hb => alloc_old w _ b (hlt b hb), fun _ h => h, fun b c e fr hb => ⟨c, e, fr, by rw [alloc_old w _ b (Array.getElem?_eq_some_iff.1 hb).1]; exact hb, Nat.le_refl _⟩⟩ _ _ hvs

set_option maxRecDepth 100000
set_option maxHeartbeats 1000000 in
theorem clone39 : Clones Try.prog 39 := by
  intro b es clock w hb
  have t83 : Try.prog.underlying 83 = some (.map 3 3) := by kernel_rfl
  have hq := fun w => eql_map_nil (P := Try.prog) w 83 _ _ (some b) t83
  go_enter Try.func39, Try.ntmps39
  go_wp2
  rw [run_callFunc_extern Try.func52 (by kernel_rfl) (by kernel_rfl) (by kernel_rfl) (e := Extern.MapsClone.clone) (by kernel_rfl), clone_run w 83 hb]
  simp only [Result.andThen]
  rw [Oper.upon_value]
  go_wp2
  rw [typeAssert_map _ 83 20 _ _ _ t83]
  simp only [Result.andThen]
  rw [Oper.upon_value]
  go_wp2
  go_ret
  exact ⟨rfl, rfl⟩
set_option maxHeartbeats 1000000 in
theorem clone51 : Clones Try.prog 51 := by
  intro b es clock w hb
  have t84 : Try.prog.underlying 84 = some (.map 32 3) := by kernel_rfl
  have hq := fun w => eql_map_nil (P := Try.prog) w 84 _ _ (some b) t84
  go_enter Try.func51, Try.ntmps51
  go_wp2
  rw [run_callFunc_extern Try.func52 (by kernel_rfl) (by kernel_rfl) (by kernel_rfl) (e := Extern.MapsClone.clone) (by kernel_rfl), clone_run w 84 hb]
  simp only [Result.andThen]
  rw [Oper.upon_value]
  go_wp2
  rw [typeAssert_map _ 84 20 _ _ _ t84]
  simp only [Result.andThen]
  rw [Oper.upon_value]
  go_wp2
  go_ret
  exact ⟨rfl, rfl⟩

def noG : Nat → Option (List T) := fun _ => none
def noF : FuncId → List T → Option (List R) := fun _ _ => none
def clones : FuncId → List T → Option (List R)
  | 39, [.mp ks vs] => some [.omp ks vs]
  | 51, [.mp ks vs] => some [.omp ks vs]
  | _, _ => none
theorem clones_snd : Snd Try.prog noG clones := by
  intro f args rs h
  unfold clones at h
  split at h
  · cases h; exact holds_clone clone39 _ _
  · cases h; exact holds_clone clone51 _ _
  · cases h
theorem noF_snd : Snd Try.prog noG noF := fun f args rs h => by simp [noF] at h
theorem mixed : Try.prog.follows .mixedOrders = true := Try.checked.mixed

theorem awake_holds : Holds Try.prog noG 5 [] [.t (.lit (.bool true))] := by
  have h : run Try.prog noG clones 30 5 [] = some [.t (.lit (.bool true))] := by kernel_rfl
  exact run_sound mixed clones_snd 30 5 [] _ h
end Go.Proofs.Ytfceedfmjhclaaa
