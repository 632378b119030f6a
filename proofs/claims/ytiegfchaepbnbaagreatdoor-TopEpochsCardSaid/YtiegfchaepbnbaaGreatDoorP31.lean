/- What the listed variable gives. The row and the card. -/
import Derived.Test.YtiegfchaepbnbaaGreatDoorP12
import Derived.ProofKit
import Derived.OpenShut
import Derived.Test.YtiegfchaepbnbaaGreatDoorP30
import Derived.Test.YtiegfchaepbnbaaGreatDoorCards
import Derived.Test.YtiegfchaepbnbaaGreatDoorTie
import Derived.SevenTiedAt
import Derived.Stop.Joined
namespace Go.Proofs.YtiegfchaepbnbaaGreatDoor
open Go Go.RowKit Go.Va Go.ChangeShapes Go.WideShapes Go.ChangeAt
set_option maxRecDepth 100000
set_option maxHeartbeats 400000
theorem arr_ints {H : Type} {enc : TypeId × Value → H} {P : Program} {w : World} {sp : Nat → Bool} {fuel n : Nat} {t e : TypeId} {k : IntKind} {cs : List Value} {ns : List Int} {p : List MemPlace}
    (ht : P.underlying t = some (.array n e)) (he : P.underlying e = some (.int k)) (hc : P.cellsOf e = 1) (hct : P.cellsOf t = n) (h : DataW.trod enc P w 0 sp false fuel t cs = some (.agg (ns.map fun i => .lit (.int k i)), p)) : cs = ns.map fun i => .int k i := by
  obtain ⟨xs, m, rfl, hx, hl, hn, hg⟩ := DataW.trod_array ht h
  simp only [Prod.mk.injEq, DataW.agg.injEq] at hx
  have hlen : ns.length = n := by
    have := congrArg List.length hx.1
    simp at this
    omega
  refine List.ext_getElem? fun i => ?_
  by_cases hi : i < n
  · have h1 := hg i hi
    rw [hc, Nat.mul_one] at h1
    have hxi : xs[i]? = some xs[i] := List.getElem?_eq_getElem (by omega)
    rw [hxi] at h1
    obtain ⟨q, e1, e2, _⟩ := DataW.trod_int he h1
    have h2 := congrArg (fun l => l[i]?) hx.1
    simp only [List.getElem?_map, hxi, Option.map_some, e2] at h2
    have hni : ns[i]? = some ns[i] := List.getElem?_eq_getElem (by omega)
    rw [hni] at h2
    simp only [Option.map_some, Option.some.injEq, DataW.lit.injEq, Lit.int.injEq, true_and] at h2
    have h3 : cs[i]? = some (.int k q) := by
      have := congrArg (fun l => l[0]?) e1
      simpa using this
    rw [h3, List.getElem?_map, hni]
    simp [h2]
  · rw [List.getElem?_eq_none (by omega), List.getElem?_eq_none (by simp; omega)]
theorem of_laid {W : World} (h : laidMetH Tryz.prog [("simulcast/layout.sizes", Rows.laid_simulcast_layout_sizes)] W) : RT W.heap (fun b => b < W.heap.size) (.ptr sizesL 0) (.pointer (some ⟨0, 0, none⟩)) := by
  rw [MakeChecks.laidMetH_plain _ _ _ (by kernel_rfl)] at h
  obtain ⟨ps, ⟨g0, t0, cs0, f0, p0, q0, hg0, ht0, hv0, hd0, _, _⟩, _, _⟩ := h
  have gn : Tryz.prog.globalNamed "simulcast/layout.sizes" = some 0 := by kernel_rfl
  have tn : (Tryz.prog.globals[0]?).map (·.type) = some 136 := by kernel_rfl
  obtain rfl := Option.some.inj (gn.symm.trans hg0)
  obtain rfl := Option.some.inj (tn.symm.trans ht0)
  have hcs : cs0.toList = [8, 8, 8, 1, 104, 0, 32].map fun i => .int .i64 i := arr_ints (n := 7) (e := 3) (by kernel_rfl) (by kernel_rfl) (by kernel_rfl) (by kernel_rfl) hd0
  simp only [World.var?, gn, Option.bind_some] at hv0
  split at hv0
  · rename_i cs e fr hb
    cases hv0
    have hw : win cs0 0 sizesL.length = cs0.toList := by simp [win, hcs, sizesL]
    simp only [RT]
    refine ⟨0, 0, cs0, e, fr, rfl, (Array.getElem?_eq_some_iff.1 hb).1, hb, ?_, ?_⟩
    · rw [hw, hcs]
      simp [sizesL, RTs, RT, i64, flat]
    · rw [hw, hcs]
      intro v hv
      simp at hv
      rcases hv with rfl | rfl | rfl | rfl | rfl <;> rfl
  · cases hv0
theorem gG_laid (W : World) (h : laidMetH Tryz.prog [("simulcast/layout.sizes", Rows.laid_simulcast_layout_sizes)] W) (g : Nat) (cells : List T) (hg : gG g = some cells) : RT W.heap (fun b => b < W.heap.size) (.ptr cells 0) (.pointer (some ⟨g, 0, none⟩)) := by
  unfold gG at hg
  split at hg
  · rename_i e
    cases hg
    rw [e]
    exact of_laid h
  · cases hg
/-- The door's own heap meets the condition. -/
theorem door_met (os : Os) (args : Array Value) : laidMetH Tryz.prog [("simulcast/layout.sizes", Rows.laid_simulcast_layout_sizes)] ((World.doorLaid Tryz.prog 400 os).forCall (fun _ _ => 0) ⟨#[], args, []⟩).memory :=
  laidMetH_of_parts3 (fuel := 8) (laidMet_of_run' 8 (by kernel_rfl) (by kernel_rfl)) (by kernel_rfl) (by kernel_rfl)
end Go.Proofs.YtiegfchaepbnbaaGreatDoor
namespace Go.Proofs.YtiegfchaepbnbaaGreatDoor
open Go Go.RowKit Go.Va Go.ChangeShapes Go.WideShapes Go.ChangeAt
set_option maxRecDepth 100000
set_option maxHeartbeats 400000
theorem u8P : Tryz.prog.underlying 5 = some (.int .u8) := by kernel_rfl
theorem i64P : Tryz.prog.underlying 3 = some (.int .i64) := by kernel_rfl
theorem ty_u8 {ts : List T} (h : Ty Tryz.prog 4 5 ts) : ∃ x : Int, ts = u8L x ∧ 0 ≤ x := by
  simp only [Ty, u8P] at h
  obtain ⟨x, rfl, hw⟩ := h
  refine ⟨x, rfl, ?_⟩
  simp only [Lit.wf, Bool.and_eq_true, decide_eq_true_eq] at hw
  have h0 : IntKind.u8.min = 0 := by decide
  rw [h0] at hw
  exact hw.1
theorem ty_u8' {ts : List T} (h : Ty Tryz.prog 3 5 ts) : ∃ x : Int, ts = u8L x ∧ 0 ≤ x := by
  simp only [Ty, u8P] at h
  obtain ⟨x, rfl, hw⟩ := h
  refine ⟨x, rfl, ?_⟩
  simp only [Lit.wf, Bool.and_eq_true, decide_eq_true_eq] at hw
  have h0 : IntKind.u8.min = 0 := by decide
  rw [h0] at hw
  exact hw.1
theorem ty_pk {ts : List T} (h : Ty Tryz.prog 4 45 ts) : ∃ p : Pk, ts = pkL p := by
  simp only [Ty, Tryz.underlying45, i64P, TyFs] at h
  obtain ⟨_, _, rfl, ⟨a, rfl, _⟩, _, _, rfl, ⟨b, rfl, _⟩, _, _, rfl, ⟨c, rfl, _⟩, rfl⟩ := h
  exact ⟨⟨a, b, c⟩, rfl⟩
theorem ty_rows {α : Type} {ty : List T → Prop} {f : α → List T} (hf : ∀ ts, ty ts → ∃ x, ts = f x) : ∀ {len : Nat} {ts : List T}, TyRep ty len ts → ∃ l : List α, l.length = len ∧ ts = rows f l
  | 0, ts, h => ⟨[], rfl, h⟩
  | n + 1, ts, h => by
    simp only [TyRep] at h
    obtain ⟨a, b, rfl, h1, h2⟩ := h
    obtain ⟨x, rfl⟩ := hf a h1
    obtain ⟨l, h3, rfl⟩ := ty_rows hf h2
    exact ⟨x :: l, by simp [h3], by rw [rows_cons]⟩
theorem u22 : Tryz.prog.underlying 22 = some (.slice 5) := by kernel_rfl
theorem u23 : Tryz.prog.underlying 23 = some (.array 2 5) := by kernel_rfl
theorem u24 : Tryz.prog.underlying 24 = some (.slice 45) := by kernel_rfl
theorem ep_law (ts : List T) (h : TyArgs Tryz.prog 4 Tryz.f3.params.toList ts) : HoldsL 3 ts [.t (.lit (.bool true))] := by
  rw [Tryz.params3] at h
  simp only [TyArgs, TyA, u22, u23, u24] at h
  obtain ⟨x, _, rfl, hx, y, _, rfl, ⟨ts2, rfl, hy⟩, z, _, rfl, hz, rfl⟩ := h
  have hx' : ∃ zo o, x = opsZ zo o := by
    rcases hx with rfl | ⟨cells, len, rfl, hr, _⟩
    · exact ⟨true, [], rfl⟩
    · obtain ⟨l, h1, rfl⟩ := ty_rows (f := u8L) (fun ts h => (ty_u8 h).imp fun _ hh => hh.1) hr
      subst h1
      exact ⟨false, l, rfl⟩
  have hz' : ∃ zl l, z = pkZ zl l := by
    rcases hz with rfl | ⟨cells, len, rfl, hr, _⟩
    · exact ⟨true, [], rfl⟩
    · obtain ⟨l, h1, rfl⟩ := ty_rows (f := pkL) (fun ts h => ty_pk h) hr
      subst h1
      exact ⟨false, l, rfl⟩
  obtain ⟨zo, o, rfl⟩ := hx'
  obtain ⟨zl, l, rfl⟩ := hz'
  simp only [Ty, u23, TyRep] at hy
  obtain ⟨a1, b1, rfl, hy1, a2, b2, rfl, hy2, rfl⟩ := hy
  obtain ⟨r0, rfl, h0⟩ := ty_u8' hy1
  obtain ⟨r1, rfl, h1⟩ := ty_u8' hy2
  exact law_true zo zl o l r0 r1 h0 h1 awake_true
theorem Tryz.own : ownKnob Tryz.prog.godebug = none := by kernel_rfl
theorem Tryz.laidOut : laidOutB Tryz.prog = true := by kernel_rfl
theorem ep_lifted (os : Os) (started : os.Started) (H : Type) (enc : TypeId × Value → H) :
    ReturnsInHanded {} Tryz.checked os 3 .any (fun w args => (Rows.topEpochsSpec.pre enc Tryz.prog Tryz.f3 [] false w args ∧ laidMetH Tryz.prog [("simulcast/layout.sizes", Rows.laid_simulcast_layout_sizes)] w) ∧ sizedMet enc Tryz.prog Tryz.f3 (OpenSpec.ofChange Rows.topEpochsSpec) false w args)
      (Rows.topEpochsSpec.post enc Tryz.prog Tryz.f3 false true false false) := by
  refine law_lifted_laid (C := Tryz.checked) (bt := 4) (n := 4) Tryz.own started (by kernel_rfl) Tryz.func3 gG_laid
    (ChangeSpec.witness_shaped (enc := enc) (C := Tryz.checked) (os := os) (X := fun w _ => laidMetH Tryz.prog [("simulcast/layout.sizes", Rows.laid_simulcast_layout_sizes)] w) false (World.doorLaid Tryz.prog 400 os) #[.slice none 0 0, .agg #[.int .u8 0, .int .u8 0], .slice none 0 0] 8 rfl (World.shaped_of_RefB (by kernel_rfl) (by kernel_rfl)) (by kernel_rfl) (by kernel_rfl) (by kernel_rfl) (door_met os _))
    Tryz.laidOut (by kernel_rfl) (by kernel_rfl) (by kernel_rfl) (by kernel_rfl) rfl (fun ds hds => ?_) ep_law
  have hds' : ds.length = 3 := by rw [hds]; kernel_rfl
  match ds, hds' with
  | [d1, d2, d3], _ => rfl
theorem ep_said : Rows.TopEpochsSaid :=
  OpenClaim.holds_of_wide 3 Tryz.f3 rfl rfl rfl rfl rfl rfl rfl ⟨rfl, rfl, rfl, rfl, rfl⟩ rfl rfl rfl rfl rfl (by kernel_rfl) Tryz.func3 (by kernel_rfl)
    (of_decide_eq_true (by kernel_rfl)) (by unfold Func.isWrapper; first | (rw [if_pos (by decide +kernel)]; kernel_rfl) | (rw [if_neg (by decide +kernel)]; exact ⟨rfl, rfl⟩))
    (fun os started H enc _ => ep_lifted os started H enc)
theorem topEpochs_card : Rows.TopEpochsCardSaid :=
  Claim7.holds_tied_plain_at .later [] [.data] true Rows.topEpochsCard.stood.harness true
    ep_said (fun _ h => by cases h) (by kernel_rfl) (fun _ h => by cases h) topEpochs_row_tie rfl ⟨rfl, rfl⟩ (by kernel_rfl) rfl
    (fun f fn hf hfn => by
      obtain rfl : f = 3 := Option.some.inj ((show Tryz.prog.funcNamed "simulcast/simulcasttop.TopEpochs" = some 3 by kernel_rfl).symm.trans hf) |>.symm
      obtain rfl : fn = Tryz.f3 := (Option.some.inj (Tryz.func3.symm.trans hfn)).symm
      exact ⟨by kernel_rfl, fun j t ht => by
        rw [Tryz.params3] at ht
        have h3 : t = 22 ∨ t = 23 ∨ t = 24 := by
          rcases j with _ | _ | _ | j
          · left; simpa using ht.symm
          · right; left; simpa using ht.symm
          · right; right; simpa using ht.symm
          · simp at ht
        rcases h3 with rfl | rfl | rfl
        · exact (show Tryz.prog.wantsStandIn 22 = false by kernel_rfl)
        · exact (show Tryz.prog.wantsStandIn 23 = false by kernel_rfl)
        · exact (show Tryz.prog.wantsStandIn 24 = false by kernel_rfl)⟩)
    (by kernel_rfl)
#print axioms topEpochs_card
end Go.Proofs.YtiegfchaepbnbaaGreatDoor
