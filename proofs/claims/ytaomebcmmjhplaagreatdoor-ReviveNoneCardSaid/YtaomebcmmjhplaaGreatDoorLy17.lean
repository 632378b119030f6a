/- What the listed variable gives. -/
import Derived.Test.YtaomebcmmjhplaaGreatDoorLy1
import Derived.ProofKit
import Derived.OpenShut
namespace Go.Proofs.YtaomebcmmjhplaaGreatDoor
open Go Go.RowKit Go.Va Go.ChangeShapes Go.WideShapes Go.ChangeAt
set_option maxRecDepth 100000
set_option maxHeartbeats 400000
theorem arr_ints {H : Type} {enc : TypeId × Value → H} {P : Program} {w : World} {sp : Nat → Bool} {fuel n : Nat} {t e : TypeId} {k : IntKind} {cs : List Value} {ns : List Int} {p : List MemPlace}
    (ht : P.underlying t = some (.array n e)) (he : P.underlying e = some (.int k)) (hc : P.cellsOf e = 1) (hct : P.cellsOf t = n) (h : DataW.trod enc P w 0 sp false fuel t cs = some (.agg (ns.map fun i => .lit (.int k i)), p)) : cs = ns.map fun i => .int k i := by
  obtain ⟨xs, m, rfl, hx, hl, hn, hg⟩ := DataW.trod_array ht h
  simp only [Prod.mk.injEq, DataW.agg.injEq] at hx
  have hlen : ns.length = n := by
    have := congrArg List.length hx.1
    simp at this
    omega
  refine List.ext_getElem? fun i => ?_
  by_cases hi : i < n
  · have h1 := hg i hi
    rw [hc, Nat.mul_one] at h1
    have hxi : xs[i]? = some xs[i] := List.getElem?_eq_getElem (by omega)
    rw [hxi] at h1
    obtain ⟨q, e1, e2, _⟩ := DataW.trod_int he h1
    have h2 := congrArg (fun l => l[i]?) hx.1
    simp only [List.getElem?_map, hxi, Option.map_some, e2] at h2
    have hni : ns[i]? = some ns[i] := List.getElem?_eq_getElem (by omega)
    rw [hni] at h2
    simp only [Option.map_some, Option.some.injEq, DataW.lit.injEq, Lit.int.injEq, true_and] at h2
    have h3 : cs[i]? = some (.int k q) := by
      have := congrArg (fun l => l[0]?) e1
      simpa using this
    rw [h3, List.getElem?_map, hni]
    simp [h2]
  · rw [List.getElem?_eq_none (by omega), List.getElem?_eq_none (by simp; omega)]
theorem of_laid {W : World} (h : laidMetH Tryz.prog [("simulcast/layout.sizes", Rows.laid_simulcast_layout_sizes)] W) : RT W.heap (fun b => b < W.heap.size) (.ptr sizesL 0) (.pointer (some ⟨0, 0, none⟩)) := by
  rw [MakeChecks.laidMetH_plain _ _ _ (by kernel_rfl)] at h
  obtain ⟨ps, ⟨g0, t0, cs0, f0, p0, q0, hg0, ht0, hv0, hd0, _, _⟩, _, _⟩ := h
  have gn : Tryz.prog.globalNamed "simulcast/layout.sizes" = some 0 := by kernel_rfl
  have tn : (Tryz.prog.globals[0]?).map (·.type) = some 140 := by kernel_rfl
  obtain rfl := Option.some.inj (gn.symm.trans hg0)
  obtain rfl := Option.some.inj (tn.symm.trans ht0)
  have hcs : cs0.toList = [8, 8, 8, 1, 104, 0, 32].map fun i => .int .i64 i := arr_ints (n := 7) (e := 3) (by kernel_rfl) (by kernel_rfl) (by kernel_rfl) (by kernel_rfl) hd0
  simp only [World.var?, gn, Option.bind_some] at hv0
  split at hv0
  · rename_i cs e fr hb
    cases hv0
    have hw : win cs0 0 sizesL.length = cs0.toList := by simp [win, hcs, sizesL]
    simp only [RT]
    refine ⟨0, 0, cs0, e, fr, rfl, (Array.getElem?_eq_some_iff.1 hb).1, hb, ?_, ?_⟩
    · rw [hw, hcs]
      simp [sizesL, RTs, RT, i64, flat]
    · rw [hw, hcs]
      intro v hv
      simp at hv
      rcases hv with rfl | rfl | rfl | rfl | rfl <;> rfl
  · cases hv0
theorem gG_laid (W : World) (h : laidMetH Tryz.prog [("simulcast/layout.sizes", Rows.laid_simulcast_layout_sizes)] W) (g : Nat) (cells : List T) (hg : gG g = some cells) : RT W.heap (fun b => b < W.heap.size) (.ptr cells 0) (.pointer (some ⟨g, 0, none⟩)) := by
  unfold gG at hg
  split at hg
  · rename_i e
    cases hg
    rw [e]
    exact of_laid h
  · cases hg
/-- The door's own heap meets the condition. -/
theorem door_met (os : Os) (args : Array Value) : laidMetH Tryz.prog [("simulcast/layout.sizes", Rows.laid_simulcast_layout_sizes)] ((World.doorLaid Tryz.prog 400 os).forCall (fun _ _ => 0) ⟨#[], args, []⟩).memory :=
  laidMetH_of_parts3 (fuel := 8) (laidMet_of_run' 8 (by kernel_rfl) (by kernel_rfl)) (by kernel_rfl) (by kernel_rfl)
end Go.Proofs.YtaomebcmmjhplaaGreatDoor
