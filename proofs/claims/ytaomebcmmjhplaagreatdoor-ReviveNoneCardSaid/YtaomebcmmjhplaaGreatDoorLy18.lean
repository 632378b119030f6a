/- ReviveNone returns true for every input, and its arguments read afterwards as they read before; the listed variable layout.sizes starts as the program's text lays it, and the card ties it to that text. -/
import Derived.Test.YtaomebcmmjhplaaGreatDoorLy16
import Derived.Test.YtaomebcmmjhplaaGreatDoorLy17
import Derived.Test.YtaomebcmmjhplaaGreatDoorCards
import Derived.Test.YtaomebcmmjhplaaGreatDoorTie
import Derived.SevenTiedAt
import Derived.Stop.Joined
namespace Go.Proofs.YtaomebcmmjhplaaGreatDoor
open Go Go.RowKit Go.Va Go.ChangeShapes Go.WideShapes Go.ChangeAt
set_option maxRecDepth 100000
set_option maxHeartbeats 400000
theorem none_law (ts : List T) (h : TyArgs Tryz.prog 3 Tryz.f3.params.toList ts) : HoldsL 3 ts [.t (.lit (.bool true))] := by

  have u5 : Tryz.prog.underlying 5 = some (.int .u8) := by kernel_rfl
  have u3 : Tryz.prog.underlying 3 = some (.int .i64) := by kernel_rfl
  rw [Tryz.params3] at h
  simp only [TyArgs, TyA, Tryz.underlying23, u5, Ty, u3, TyFs] at h
  obtain ⟨x, _, rfl, ⟨ts1, rfl, hx⟩, y, _, rfl, ⟨few, hy, hw⟩, rfl⟩ := h
  obtain ⟨_, _, rfl, ⟨t, rfl, _⟩, _, _, rfl, ⟨c, rfl, _⟩, _, _, rfl, ⟨b, rfl, _⟩, rfl⟩ := hx
  simp only [List.cons.injEq, and_true] at hy
  subst hy
  have hf : 0 ≤ few := by
    simp only [Lit.wf, Bool.and_eq_true, decide_eq_true_eq] at hw
    have h0 : IntKind.u8.min = 0 := by decide
    rw [h0] at hw
    exact hw.1
  exact none_true awake_true t c b few hf
theorem Tryz.own : ownKnob Tryz.prog.godebug = none := by kernel_rfl
theorem Tryz.laidOut : laidOutB Tryz.prog = true := by kernel_rfl
theorem none_lifted (os : Os) (started : os.Started) (H : Type) (enc : TypeId × Value → H) :
    ReturnsInHanded {} Tryz.checked os 3 .any (fun w args => (Rows.reviveNoneSpec.pre enc Tryz.prog Tryz.f3 [] false w args ∧ laidMetH Tryz.prog [("simulcast/layout.sizes", Rows.laid_simulcast_layout_sizes)] w) ∧ sizedMet enc Tryz.prog Tryz.f3 (OpenSpec.ofChange Rows.reviveNoneSpec) false w args)
      (Rows.reviveNoneSpec.post enc Tryz.prog Tryz.f3 false true false false) := by
  refine law_lifted_laid (C := Tryz.checked) (bt := 4) (n := 3) Tryz.own started (by kernel_rfl) Tryz.func3 gG_laid
    (ChangeSpec.witness_shaped (enc := enc) (C := Tryz.checked) (os := os) (X := fun w _ => laidMetH Tryz.prog [("simulcast/layout.sizes", Rows.laid_simulcast_layout_sizes)] w) false (World.doorLaid Tryz.prog 400 os) #[.agg #[.int .i64 0, .int .i64 0, .int .i64 0], .int .u8 0] 8 rfl (World.shaped_of_RefB (by kernel_rfl) (by kernel_rfl)) (by kernel_rfl) (by kernel_rfl) (by kernel_rfl) (door_met os _))
    Tryz.laidOut (by kernel_rfl) (by kernel_rfl) (by kernel_rfl) (by kernel_rfl) rfl (fun ds hds => ?_) none_law
  have hds' : ds.length = 2 := by rw [hds]; kernel_rfl
  match ds, hds' with
  | [d1, d2], _ => rfl
theorem none_said : Rows.ReviveNoneSaid :=
  OpenClaim.holds_of_wide 3 Tryz.f3 rfl rfl rfl rfl rfl rfl rfl ⟨rfl, rfl, rfl, rfl, rfl⟩ rfl rfl rfl rfl rfl (by kernel_rfl) Tryz.func3 (by kernel_rfl)
    (of_decide_eq_true (by kernel_rfl)) (by unfold Func.isWrapper; first | (rw [if_pos (by decide +kernel)]; kernel_rfl) | (rw [if_neg (by decide +kernel)]; exact ⟨rfl, rfl⟩))
    (fun os started H enc _ => none_lifted os started H enc)
theorem reviveNone_card : Rows.ReviveNoneCardSaid :=
  Claim7.holds_tied_plain_at .later [] [.data] true Rows.reviveNoneCard.stood.harness true
    none_said (fun _ h => by cases h) (by kernel_rfl) (fun _ h => by cases h) reviveNone_row_tie rfl ⟨rfl, rfl⟩ (by kernel_rfl) rfl
    (fun f fn hf hfn => by
      obtain rfl : f = 3 := Option.some.inj ((show Tryz.prog.funcNamed "simulcast/simulcastlaw56.ReviveNone" = some 3 by kernel_rfl).symm.trans hf) |>.symm
      obtain rfl : fn = Tryz.f3 := (Option.some.inj (Tryz.func3.symm.trans hfn)).symm
      exact ⟨by kernel_rfl, fun j t ht => by
        rw [Tryz.params3] at ht
        have h3 : t = 23 ∨ t = 5 := by
          rcases j with _ | _ | j
          · left; simpa using ht.symm
          · right; simpa using ht.symm
          · simp at ht
        rcases h3 with rfl | rfl
        · exact (show Tryz.prog.wantsStandIn 23 = false by kernel_rfl)
        · exact (show Tryz.prog.wantsStandIn 5 = false by kernel_rfl)⟩)
    (by kernel_rfl)
#print axioms reviveNone_card
end Go.Proofs.YtaomebcmmjhplaaGreatDoor
