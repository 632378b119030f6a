/- AdviseWraps returns true for every input, and its arguments read afterwards as they read before. -/
import Derived.Test.YtfceedfmjhclaaaAd6
namespace Go.Proofs.Ytfceedfmjhclaaa
open Go Go.RowKit Go.Va Go.ChangeShapes Go.WideShapes Go.ChangeAt
set_option maxRecDepth 100000
set_option maxHeartbeats 400000

theorem Lx_range (rest : Int) : ∃ L : Nat, Lx rest = L ∧ L ≤ 64 := by
  refine ⟨(Lx rest).toNat, ?_, ?_⟩ <;> unfold Lx <;> (repeat' split) <;> omega

theorem start_X (n : Int) (L : Nat) (hL : L ≤ 64) : Holds Try.prog noG 9 [.ifc 98 (wr (cA n).c L false)] [.t (Xm n false [] 0 L)] := by
  cases L with
  | zero => exact start_holds 98 109 (.inr ⟨rfl, rfl⟩) _ 98 _ .look false (next_first (cA n) .zero)
  | succ m =>
    have h := next_rest 104 (cA n).t ((m + 1 : Nat) : Int) .zero false (by omega) (by omega)
    have e : ((m + 1 : Nat) : Int) - 1 = (m : Nat) := by omega
    rw [e] at h
    exact start_holds 98 109 (.inr ⟨rfl, rfl⟩) _ 98 _ .zero false h
theorem start_Y (n : Int) : Holds Try.prog noG 9 [(cA n).c] [.t (Y0 n)] := start_holds 104 110 (.inl ⟨rfl, rfl⟩) _ 104 _ .look false (next_atom (cA n) .zero)

theorem wraps_true (n rest : Int) (gs : List G4) {lT : T} (hl : IsL lT (gs.flatMap G4.l) gs.length) : Holds Try.prog noG 3 [.lit (.int .i8 n), i64 rest, lT] [.t (bl true)] := by
  by_cases hlen : gs.length > 100
  · exact runX_sound mixed noF_snd 11 _ _ _ _ _ _ (early3 hl n rest) (.cons awake_holds (.cons (by simp; omega) .nil))
  · obtain ⟨L, hLx, hL⟩ := Lx_range rest
    have hXf : ∃ x0 a0, Xm (w64 n) false [] 0 L = tsk (.ifc 98 x0) a0 nilT := by cases L <;> exact ⟨_, _, rfl⟩
    obtain ⟨x0, a0, hXf⟩ := hXf
    obtain ⟨s1, p1, p2⟩ := tidiedP_some (prefix3 hl n rest x0 (cB (w64 n)).t a0 .look)
    rw [hLx] at p1 p2
    have hst := start_X (w64 n) L hL
    rw [hXf] at hst
    obtain ⟨s2, b', cells', r1, r2, r3⟩ := loopA_rounds lT (w64 n) L hL L 0 false [] (by omega) (.inr ⟨rfl, rfl, rfl⟩)
    rw [hXf] at r1
    obtain ⟨s3, t1, t2⟩ := loopB_rounds gs hl (by omega) gs.length 0 (cB (w64 n)) .look b' false cells' [] L 0 (by omega) r2 (.inr ⟨rfl, rfl, rfl⟩) (by omega) (by omega)
    obtain ⟨s4, u1, u2⟩ := last3
    refine holds_of_ExecS (c := body3) (x := .ret) (s' := s4) Try.func3 (by kernel_rfl) (of_decide_eq_true (by kernel_rfl)) ?_ (.inr rfl) u2
    refine preX_sound mixed sndX3 p1 (.cons awake_holds (.cons (by simp; omega) (.cons hst (.cons (start_Y (w64 n)) .nil)))) ?_
    refine ExecS.tidy p2 ?_
    have htail : restC 8 body3 = tail3 := rfl
    rw [htail, tail3_eq]
    refine .seq (.seq (execX_sound mixed sndX3 3 10 _ _ _ _ _ _ _ (start1 lT L x0 (cB (w64 n)).t a0 .look) .nil) (.blockIn r1.loop)) (ExecS.tidy r3 ?_)
    refine .seq (.seq (execX_sound mixed sndX3 3 10 _ _ _ _ _ _ _ (start2 lT (wr (cB (w64 n)).c 0 true) (cB (w64 n)).t .look .look b' false cells' [] L 0) .nil) (.blockIn t1.loop)) (ExecS.tidy t2 ?_)
    exact execX_sound mixed sndX3 3 10 _ _ _ _ _ _ _ u1 .nil

theorem ty_got {ts : List T} (h : Ty Try.prog 3 45 ts) : ∃ g : G4, ts = g.l := by
  have u2 : Try.prog.underlying 2 = some (.int .i64) := by kernel_rfl
  have u33 : Try.prog.underlying 33 = some (.int .u32) := by kernel_rfl
  have u4 : Try.prog.underlying 4 = some .bool := by kernel_rfl
  simp only [Ty, Try.underlying45, Try.underlying35, u2, u33, u4, TyFs] at h
  obtain ⟨_, _, rfl, ⟨_, _, rfl, ⟨v, rfl, _⟩, _, _, rfl, ⟨a, rfl, _⟩, _, _, rfl, ⟨r, rfl, _⟩, rfl⟩, _, _, rfl, ⟨b, rfl⟩, rfl⟩ := h
  exact ⟨⟨v, a, r, b⟩, rfl⟩
theorem ty_gots : ∀ {len : Nat} {ts : List T}, TyRep (Ty Try.prog 3 45) len ts → ∃ gs : List G4, gs.length = len ∧ ts = gs.flatMap G4.l
  | 0, ts, h => ⟨[], rfl, h⟩
  | len + 1, ts, h => by
    simp only [TyRep] at h
    obtain ⟨a, b, rfl, h1, h2⟩ := h
    obtain ⟨g, rfl⟩ := ty_got h1
    obtain ⟨gs, h3, rfl⟩ := ty_gots h2
    exact ⟨g :: gs, by simp [h3], rfl⟩

theorem wraps_law (ts : List T) (h : TyArgs Try.prog 3 Try.f3.params.toList ts) : Holds Try.prog (fun _ => none) 3 ts [.t (.lit (.bool true))] := by
  have u22 : Try.prog.underlying 22 = some (.int .i8) := by kernel_rfl
  have u3 : Try.prog.underlying 3 = some (.int .i64) := by kernel_rfl
  have u23 : Try.prog.underlying 23 = some (.slice 45) := by kernel_rfl
  rw [Try.params3] at h
  simp only [TyArgs, TyA, Ty, u22, u3, u23] at h
  obtain ⟨x, _, rfl, ⟨n, hx, _⟩, y, _, rfl, ⟨rest, hy, _⟩, z, _, rfl, hz, rfl⟩ := h
  simp only [List.cons.injEq, and_true] at hx hy
  subst hx hy
  rcases hz with rfl | ⟨cells, len, rfl, hr, _⟩
  · exact wraps_true n rest [] (.inr ⟨rfl, rfl, rfl⟩)
  · obtain ⟨gs, rfl, rfl⟩ := ty_gots hr
    exact wraps_true n rest gs (.inl ⟨false, rfl⟩)

theorem Try.own : ownKnob Try.prog.godebug = none := by kernel_rfl
theorem Try.laidOut : laidOutB Try.prog = true := by kernel_rfl

theorem wraps_lifted (os : Os) (started : os.Started) (H : Type) (enc : TypeId × Value → H) :
    ReturnsInHanded {} Try.checked os 3 .any (Rows.adviseWrapsSpec.pre6 enc Try.prog Try.f3 [] false) (Rows.adviseWrapsSpec.post enc Try.prog Try.f3 false true false false) := by
  refine law_lifted (C := Try.checked) (bt := 4) (n := 3) Try.own started (by kernel_rfl) Try.func3
    (ChangeSpec.witness6 (enc := enc) (C := Try.checked) false ⟨#[], #[.int .i8 0, .int .i64 0, .slice none 0 0], []⟩ 8 (by kernel_rfl) (by kernel_rfl) (by kernel_rfl) (by kernel_rfl))
    Try.laidOut (by kernel_rfl) (by kernel_rfl) (by kernel_rfl) (by kernel_rfl) rfl (fun ds hds => ?_) wraps_law
  have hds' : ds.length = 3 := by rw [hds]; kernel_rfl
  match ds, hds' with
  | [d1, d2, d3], _ => rfl

theorem adviseWraps_holds : Rows.AdviseWrapsSaid :=
  OpenClaim.holds_of_wide 3 Try.f3 rfl rfl rfl rfl rfl rfl rfl ⟨rfl, rfl, rfl, rfl, rfl⟩ rfl rfl rfl rfl rfl (by kernel_rfl) Try.func3 (by kernel_rfl)
    (of_decide_eq_true (by kernel_rfl)) (by unfold Func.isWrapper; first | (rw [if_pos (by decide +kernel)]; kernel_rfl) | (rw [if_neg (by decide +kernel)]; exact ⟨rfl, rfl⟩))
    (fun os started H enc _ => wraps_lifted os started H enc)
end Go.Proofs.Ytfceedfmjhclaaa
