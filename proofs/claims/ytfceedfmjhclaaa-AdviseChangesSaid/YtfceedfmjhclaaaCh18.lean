/- AdviseChanges returns true for every input, and its arguments read afterwards as they read before. -/
import Derived.Test.YtfceedfmjhclaaaCh17
namespace Go.Proofs.Ytfceedfmjhclaaa
open Go Go.RowKit Go.Va Go.ChangeShapes Go.WideShapes Go.ChangeAt
set_option maxRecDepth 100000
set_option maxHeartbeats 400000
theorem ty_i8s {ts : List T} (h : Ty Try.prog 3 50 ts) : ∃ n1 n2 n3, ts = [i8 n1, i8 n2, i8 n3] := by
  have u50 : Try.prog.underlying 50 = some (.array 3 22) := by kernel_rfl
  have u22 : Try.prog.underlying 22 = some (.int .i8) := by kernel_rfl
  simp only [Ty, u50, u22, TyRep] at h
  obtain ⟨_, _, rfl, ⟨n1, rfl, _⟩, _, _, rfl, ⟨n2, rfl, _⟩, _, _, rfl, ⟨n3, rfl, _⟩, rfl⟩ := h
  exact ⟨n1, n2, n3, rfl⟩
theorem wf_u8 {r : Int} (h : (Lit.int .u8 r).wf = true) : 0 ≤ r := by
  simp only [Lit.wf, Bool.and_eq_true, decide_eq_true_eq] at h
  have h0 : IntKind.u8.min = 0 := by decide
  rw [h0] at h
  exact h.1
theorem ty_u8s {ts : List T} (h : Ty Try.prog 3 51 ts) : ∃ n1 n2 n3, ts = [u8 n1, u8 n2, u8 n3] ∧ 0 ≤ n1 ∧ 0 ≤ n2 ∧ 0 ≤ n3 := by
  have u51 : Try.prog.underlying 51 = some (.array 3 5) := by kernel_rfl
  have u5 : Try.prog.underlying 5 = some (.int .u8) := by kernel_rfl
  simp only [Ty, u51, u5, TyRep] at h
  obtain ⟨_, _, rfl, ⟨n1, rfl, h1⟩, _, _, rfl, ⟨n2, rfl, h2⟩, _, _, rfl, ⟨n3, rfl, h3⟩, rfl⟩ := h
  exact ⟨n1, n2, n3, rfl, wf_u8 h1, wf_u8 h2, wf_u8 h3⟩
theorem ty_row : ∀ {len : Nat} {ts : List T}, TyRep (Ty Try.prog 3 5) len ts → ∃ xs : List Int, xs.length = len ∧ ts = xs.map u8 ∧ ∀ x, x ∈ xs → 0 ≤ x
  | 0, ts, h => ⟨[], rfl, h, by simp⟩
  | len + 1, ts, h => by
    have u5 : Try.prog.underlying 5 = some (.int .u8) := by kernel_rfl
    simp only [TyRep] at h
    obtain ⟨a, b, rfl, h1, h2⟩ := h
    simp only [Ty, u5] at h1
    obtain ⟨x, rfl, hw⟩ := h1
    obtain ⟨xs, h3, rfl, h4⟩ := ty_row h2
    refine ⟨x :: xs, by simp [h3], rfl, fun y hy => ?_⟩
    rcases List.mem_cons.1 hy with rfl | hy
    · exact wf_u8 hw
    · exact h4 y hy
theorem changes_law (ts : List T) (h : TyArgs Try.prog 3 Try.f4.params.toList ts) : Holds Try.prog (fun _ => none) 4 ts [.t (.lit (.bool true))] := by
  have u50 : Try.prog.underlying 50 = some (.array 3 22) := by kernel_rfl
  have u51 : Try.prog.underlying 51 = some (.array 3 5) := by kernel_rfl
  have u52 : Try.prog.underlying 52 = some (.slice 5) := by kernel_rfl
  rw [Try.params4] at h
  simp only [TyArgs, TyA, u50, u51, u52] at h
  obtain ⟨x, _, rfl, ⟨ts1, rfl, hx⟩, y, _, rfl, ⟨ts2, rfl, hy⟩, z, _, rfl, hz, rfl⟩ := h
  obtain ⟨n1, n2, n3, rfl⟩ := ty_i8s hx
  obtain ⟨r1, r2, r3, rfl, g1, g2, g3⟩ := ty_u8s hy
  rcases hz with rfl | ⟨cells, len, rfl, hr, _⟩
  · exact changes_true n1 n2 n3 r1 r2 r3 g1 g2 g3 [] (by simp) (.inr ⟨rfl, rfl, rfl⟩)
  · obtain ⟨xs, rfl, rfl, hx0⟩ := ty_row hr
    exact changes_true n1 n2 n3 r1 r2 r3 g1 g2 g3 xs hx0 (.inl ⟨false, rfl⟩)
theorem Try.own4 : ownKnob Try.prog.godebug = none := by kernel_rfl
theorem Try.laidOut4 : laidOutB Try.prog = true := by kernel_rfl
theorem changes_lifted (os : Os) (started : os.Started) (H : Type) (enc : TypeId × Value → H) :
    ReturnsInHanded {} Try.checked os 4 .any (Rows.adviseChangesSpec.pre6 enc Try.prog Try.f4 [] false) (Rows.adviseChangesSpec.post enc Try.prog Try.f4 false true false false) := by
  refine law_lifted (C := Try.checked) (bt := 4) (n := 3) Try.own4 started (by kernel_rfl) Try.func4
    (ChangeSpec.witness6 (enc := enc) (C := Try.checked) false ⟨#[], #[.agg #[.int .i8 0, .int .i8 0, .int .i8 0], .agg #[.int .u8 0, .int .u8 0, .int .u8 0], .slice none 0 0], []⟩ 8 (by kernel_rfl) (by kernel_rfl) (by kernel_rfl) (by kernel_rfl))
    Try.laidOut4 (by kernel_rfl) (by kernel_rfl) (by kernel_rfl) (by kernel_rfl) rfl (fun ds hds => ?_) changes_law
  have hds' : ds.length = 3 := by rw [hds]; kernel_rfl
  match ds, hds' with
  | [d1, d2, d3], _ => rfl
theorem adviseChanges_holds : Rows.AdviseChangesSaid :=
  OpenClaim.holds_of_wide 4 Try.f4 rfl rfl rfl rfl rfl rfl rfl ⟨rfl, rfl, rfl, rfl, rfl⟩ rfl rfl rfl rfl rfl (by kernel_rfl) Try.func4 (by kernel_rfl)
    (of_decide_eq_true (by kernel_rfl)) (by unfold Func.isWrapper; first | (rw [if_pos (by decide +kernel)]; kernel_rfl) | (rw [if_neg (by decide +kernel)]; exact ⟨rfl, rfl⟩))
    (fun os started H enc _ => changes_lifted os started H enc)
end Go.Proofs.Ytfceedfmjhclaaa
