/- Rows of places: redo.statuses, redo.own. -/
import Derived.Test.YtaomebcmmjhplaaGreatDoorLy5
namespace Go.Proofs.YtaomebcmmjhplaaGreatDoor
open Go Go.RowKit Go.Va
set_option maxRecDepth 100000
set_option maxHeartbeats 400000
def slotF (t c b i : Int) : Int := fromF t c b 4 + (i - 1) * 104 + 0
def blockF (t c b i : Int) : Int := fromF t c b 6 + i * 32 + 0
def announceF (t c b i : Int) : Int := fromF t c b 1 + (i - 1) * 8 + 0
def hazardF (t c b i : Int) : Int := fromF t c b 1 + (i - 1) * 8 + 1
def recordF (t c b i : Int) : Int := fromF t c b 2 + (i - 1) * 8 + 0
def stL (t c b : Int) (tn bn : Nat) : List Int := ((List.range tn).map fun (i : Nat) => slotF t c b (i + 1)) ++ (List.range bn).map fun (i : Nat) => blockF t c b i
def ownL (t c b : Int) (tn : Nat) : List Int := (List.range tn).flatMap fun (i : Nat) => [announceF t c b (i + 1), hazardF t c b (i + 1)]
theorem statuses_run (c : Int) (t b : Nat) (ht : t = 1 ∨ t = 2 ∨ t = 3) (hb : b = 0 ∨ b = 1 ∨ b = 2 ∨ b = 3 ∨ b = 4 ∨ b = 5 ∨ b = 6 ∨ b = 7 ∨ b = 8) :
    runX Tryz.prog gG noF 20 43 [lay t c b] (((List.range t).map fun (i : Nat) => ((43, 15), D.call [.t (i64 (slotF t c b (i + 1)))])) ++ (List.range b).map fun (i : Nat) => ((43, 26), D.call [.t (i64 (blockF t c b i))])) =
    some ([.osl ((stL t c b t b).map i64) (t + b) 1], [], ((List.range t).map fun (i : Nat) => HoldsL 17 [lay t c b, i64 (i + 1)] [.t (i64 (slotF t c b (i + 1)))]) ++ (List.range b).map fun (i : Nat) => HoldsL 18 [lay t c b, i64 i] [.t (i64 (blockF t c b i))]) := by
  rcases ht with rfl | rfl | rfl <;> rcases hb with rfl | rfl | rfl | rfl | rfl | rfl | rfl | rfl | rfl <;> kernel_rfl
theorem own_run (c b : Int) (t : Nat) (ht : t = 1 ∨ t = 2 ∨ t = 3) :
    runX Tryz.prog gG noF 20 46 [lay t c b] ((List.range t).flatMap fun (i : Nat) => [((46, 14), D.call [.t (i64 (announceF t c b (i + 1)))]), ((46, 17), D.call [.t (i64 (hazardF t c b (i + 1)))])]) =
    some ([.osl ((ownL t c b t).map i64) (t * 2) 1], [], (List.range t).flatMap fun (i : Nat) => [HoldsL 69 [lay t c b, i64 (i + 1)] [.t (i64 (announceF t c b (i + 1)))], HoldsL 70 [lay t c b, i64 (i + 1)] [.t (i64 (hazardF t c b (i + 1)))]]) := by
  rcases ht with rfl | rfl | rfl <;> kernel_rfl
/-- The layouts of the law. -/
structure LV3 (c : Int) (t b : Nat) : Prop where
  t1 : 1 ≤ t
  t3 : t ≤ 3
  c1 : 1 ≤ c
  c2 : c ≤ 40
  b8 : b ≤ 8
theorem LV3.lv {c : Int} {t b : Nat} (h : LV3 c t b) : LV t c b := ⟨by have := h.t1; omega, by have := h.t3; omega, h.c1, h.c2, by omega, by have := h.b8; omega⟩
theorem statuses_holds {c : Int} {t b : Nat} (h : LV3 c t b) : HoldsL 43 [lay t c b] [.t (.sl ((stL t c b t b).map i64) (t + b) false)] := by
  refine Holds.freeze1 (sz := 1) (sndL 20 _ _ _ _ _ _ (statuses_run c t b (by have := h.t1; have := h.t3; omega) (by have := h.b8; omega)) ?_)
  intro p hp
  rcases List.mem_append.1 hp with hp | hp
  · obtain ⟨i, hi, rfl⟩ := List.mem_map.1 hp
    rw [List.mem_range] at hi
    exact slot_ok h.lv _ (by omega) (by omega)
  · obtain ⟨i, hi, rfl⟩ := List.mem_map.1 hp
    rw [List.mem_range] at hi
    exact block_ok h.lv _ (by omega) (by omega)
theorem own_holds {c : Int} {t b : Nat} (h : LV3 c t b) : HoldsL 46 [lay t c b] [.t (.sl ((ownL t c b t).map i64) (t * 2) false)] := by
  refine Holds.freeze1 (sz := 1) (sndL 20 _ _ _ _ _ _ (own_run c b t (by have := h.t1; have := h.t3; omega)) ?_)
  intro p hp
  obtain ⟨i, hi, hp⟩ := List.mem_flatMap.1 hp
  rw [List.mem_range] at hi
  simp only [List.mem_cons, List.not_mem_nil, or_false] at hp
  rcases hp with rfl | rfl
  · exact announce_ok h.lv _ (by omega) (by omega)
  · exact hazard_ok h.lv _ (by omega) (by omega)
end Go.Proofs.YtaomebcmmjhplaaGreatDoor
