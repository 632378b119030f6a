/- The example's layout: what its functions hand back. -/
import Derived.Test.YtaomebcmmjhplaaGreatDoorLy14
namespace Go.Proofs.YtaomebcmmjhplaaGreatDoor
open Go Go.RowKit Go.Va
set_option maxRecDepth 100000
set_option maxHeartbeats 400000
def isLay : T → Bool
  | .agg [.lit (.int .i64 a), .lit (.int .i64 b), .lit (.int .i64 c)] => a == 3 && (b == 8 && c == 2)
  | _ => false
theorem isLay_eq {x : T} (h : isLay x = true) : x = lay 3 8 2 := by
  unfold isLay at h
  split at h
  · simp only [Bool.and_eq_true, beq_iff_eq] at h
    obtain ⟨rfl, rfl, rfl⟩ := h
    rfl
  · cases h
theorem lv382 : LV 3 8 2 := ⟨by omega, by omega, by omega, by omega, by omega, by omega⟩
theorem f382 : fromF 3 8 2 1 = 8 ∧ fromF 3 8 2 2 = 32 ∧ fromF 3 8 2 3 = 56 ∧ fromF 3 8 2 4 = 64 ∧ fromF 3 8 2 6 = 384 ∧ fromF 3 8 2 7 = 448 := by decide
abbrev Intr := FuncId → List T → Option (List R)
def orI (a b : Intr) : Intr := fun f args => match a f args with
  | some r => some r
  | none => b f args
theorem orI_snd {a b : Intr} (ha : Snd Tryz.prog gG a) (hb : Snd Tryz.prog gG b) : Snd Tryz.prog gG (orI a b) := by
  intro f args rs h
  unfold orI at h
  split at h
  · rename_i r hr
    cases h
    exact ha f args _ hr
  · exact hb f args rs h
/-- A function of the layout alone. -/
def i1 (fid : FuncId) (v : Int) : Intr := fun f args => if f = fid then (match args with
  | [x] => if isLay x then some [.t (i64 v)] else none
  | _ => none) else none
theorem i1_snd {fid : FuncId} {v : Int} (h0 : HoldsL fid [lay 3 8 2] [.t (i64 v)]) : Snd Tryz.prog gG (i1 fid v) := by
  intro f args rs h
  unfold i1 at h
  split at h
  · rename_i hf
    split at h
    · split at h
      · rename_i hx
        cases h
        rw [hf, isLay_eq hx]
        exact h0
      · cases h
    · cases h
  · cases h
/-- A function of the layout and a number in a range. -/
def i2 (fid : FuncId) (lo hi : Int) (g : Int → R) : Intr := fun f args => if f = fid then (match args with
  | [x, .lit (.int .i64 i)] => if isLay x && (decide (lo ≤ i) && decide (i ≤ hi)) then some [g i] else none
  | _ => none) else none
theorem i2_snd {fid : FuncId} {lo hi : Int} {g : Int → R} (h0 : ∀ i, lo ≤ i → i ≤ hi → HoldsL fid [lay 3 8 2, i64 i] [g i]) : Snd Tryz.prog gG (i2 fid lo hi g) := by
  intro f args rs h
  unfold i2 at h
  split at h
  · rename_i hf
    split at h
    · split at h
      · rename_i hx
        cases h
        simp only [Bool.and_eq_true, decide_eq_true_eq] at hx
        rw [hf, isLay_eq hx.1]
        exact h0 _ hx.2.1 hx.2.2
      · cases h
    · cases h
  · cases h
/-- The functions of the layout, at the example's. -/
def intrA : Intr := (orI (i1 6 0) (orI (i1 15 448) (orI (i1 50 0) (orI (i1 16 1) (orI (i2 68 0 100000 (fun i => .t (bl (mayF 3 8 2 i)))) (orI (i2 17 1 3 (fun i => .t (i64 (64 + (i - 1) * 104)))) (orI (i2 18 0 1 (fun i => .t (i64 (384 + i * 32)))) (orI (i2 13 0 7 (fun i => .t (i64 (56 + i * 1 + 0)))) (orI (i2 37 1 3 (fun i => .t (i64 (32 + (i - 1) * 8)))) (orI (i2 69 1 3 (fun i => .t (i64 (8 + (i - 1) * 8 + 0)))) (i2 70 1 3 (fun i => .t (i64 (8 + (i - 1) * 8 + 1))))))))))))))
theorem intrA_snd : Snd Tryz.prog gG intrA := (orI_snd (i1_snd (check_ok lv382)) (orI_snd (i1_snd (by have := size_ok lv382; rwa [f382.2.2.2.2.2] at this)) (orI_snd (i1_snd (clock_ok lv382)) (orI_snd (i1_snd (era_ok lv382)) (orI_snd (i2_snd (fun i h0 h1 => may_ok lv382 i h0 h1)) (orI_snd (i2_snd (fun i h0 h1 => by have := slot_ok lv382 i h0 h1; rwa [f382.2.2.2.1, Int.add_zero] at this)) (orI_snd (i2_snd (fun i h0 h1 => by have := block_ok lv382 i h0 (by omega); rwa [f382.2.2.2.2.1, Int.add_zero] at this)) (orI_snd (i2_snd (fun i h0 h1 => by have := cell_ok lv382 i h0 (by omega); rwa [f382.2.2.1] at this)) (orI_snd (i2_snd (fun i h0 h1 => by have := record_ok lv382 i h0 h1; rwa [f382.2.1, Int.add_zero] at this)) (orI_snd (i2_snd (fun i h0 h1 => by have := announce_ok lv382 i h0 h1; rwa [f382.1] at this)) (i2_snd (fun i h0 h1 => by have := hazard_ok lv382 i h0 h1; rwa [f382.1] at this))))))))))))
end Go.Proofs.YtaomebcmmjhplaaGreatDoor
