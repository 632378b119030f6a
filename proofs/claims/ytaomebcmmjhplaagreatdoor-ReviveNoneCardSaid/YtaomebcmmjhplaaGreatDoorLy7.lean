/- Words in a row; a search through a row of places. -/
import Derived.Test.YtaomebcmmjhplaaGreatDoorLy6
namespace Go.Proofs.YtaomebcmmjhplaaGreatDoor
open Go Go.RowKit Go.Va
set_option maxRecDepth 100000
set_option maxHeartbeats 400000
/-- A row of n words without holder or version. -/
def wordsL (g : Nat → Int) (n : Nat) : List T := (List.range n).flatMap fun i => [i64 (g i), u32 0, u32 0]
theorem wordsL_len (g : Nat → Int) : ∀ n, (wordsL g n).length = n * 3
  | 0 => rfl
  | n + 1 => by
    have := wordsL_len g n
    unfold wordsL at *
    rw [List.range_succ, List.flatMap_append, List.length_append, this]
    simp; omega
theorem wordsL_get (g : Nat → Int) (n i : Nat) (h : i < n) : ((wordsL g n).drop (i * 3)).take 3 = [i64 (g i), u32 0, u32 0] := by
  induction n with
  | zero => omega
  | succ n ih =>
    have hl := wordsL_len g n
    have hs : wordsL g (n + 1) = wordsL g n ++ [i64 (g n), u32 0, u32 0] := by unfold wordsL; rw [List.range_succ, List.flatMap_append]; simp
    rw [hs]
    by_cases hi : i = n
    · subst hi
      rw [← hl, List.drop_left]
      rfl
    · rw [List.drop_append_of_le_length (by omega), List.take_append_of_le_length (by rw [List.length_drop]; omega)]
      exact ih (by omega)
theorem wordsL_at (g : Nat → Int) (n i : Nat) (h : i < n) (k : Nat) (hk : k < 3) : (wordsL g n)[i * 3 + k]? = [i64 (g i), u32 0, u32 0][k]? := by
  have := wordsL_get g n i h
  rw [← this, List.getElem?_take, if_pos hk, List.getElem?_drop]
def wRow (g : Nat → Int) (n : Nat) (cl : Bool) : T := .sl (wordsL g n) n cl
theorem index_w (g : Nat → Int) (n : Nat) (cl : Bool) (i : Nat) (x : Int) (hx : x = i) (h : i < n) : indexAddrC Tryz.prog 25 (.t (wRow g n cl)) x = some ⟨.t (.ptr (wordsL g n) (i * 3)), [], []⟩ := by
  obtain ⟨hu⟩ : Nonempty (Tryz.prog.underlying 25 = some (.slice 44)) := ⟨by kernel_rfl⟩
  obtain ⟨ii, hi, hs⟩ : ∃ ii, Tryz.prog.info? 44 = some ii ∧ ii.size = 3 := ⟨_, rfl, by kernel_rfl⟩
  subst hx
  unfold indexAddrC wRow
  simp only [hu, hi, hs]
  rw [if_pos ⟨by omega, by omega⟩]
  simp
theorem part_w (g : Nat → Int) (n i : Nat) (h : i < n) : partC Tryz.prog 44 ((wordsL g n).map .t) (i * 3) = some (.agg [.t (i64 (g i)), .t (u32 0), .t (u32 0)]) := by
  obtain ⟨d, ii, hd, hi, ha, hs⟩ : ∃ d ii, Tryz.prog.underlying 44 = some d ∧ Tryz.prog.info? 44 = some ii ∧ isAggB d = true ∧ ii.size = 3 := ⟨_, _, rfl, rfl, by kernel_rfl, by kernel_rfl⟩
  unfold partC
  simp only [hd, hi, ha, if_true, hs]
  rw [if_pos (by rw [List.length_map, wordsL_len]; omega), ← List.map_drop, ← List.map_take, wordsL_get g n i h]
  rfl
theorem part_w0 (g : Nat → Int) (n i : Nat) (h : i < n) : partC Tryz.prog 2 ((wordsL g n).map .t) (i * 3) = some (.t (i64 (g i))) := by
  obtain ⟨d, ii, hd, hi, ha⟩ : ∃ d ii, Tryz.prog.underlying 2 = some d ∧ Tryz.prog.info? 2 = some ii ∧ isAggB d = false := ⟨_, _, rfl, rfl, by kernel_rfl⟩
  unfold partC
  simp only [hd, hi, ha]
  have := wordsL_at g n i h 0 (by omega)
  simp only [Nat.add_zero] at this
  simp [this]
theorem part_wk (g : Nat → Int) (n i k : Nat) (h : i < n) (hk : k = 1 ∨ k = 2) : partC Tryz.prog 42 ((wordsL g n).map .t) (i * 3 + k) = some (.t (u32 0)) := by
  obtain ⟨d, ii, hd, hi, ha⟩ : ∃ d ii, Tryz.prog.underlying 42 = some d ∧ Tryz.prog.info? 42 = some ii ∧ isAggB d = false := ⟨_, _, rfl, rfl, by kernel_rfl⟩
  unfold partC
  simp only [hd, hi, ha]
  have := wordsL_at g n i h k (by omega)
  rcases hk with rfl | rfl <;> simp [this]
/-! ## A search -/
theorem index_l (xs : List Int) (cl : Bool) (i : Nat) (h : i < xs.length) : indexAddrC Tryz.prog 102 (.t (.sl (xs.map i64) xs.length cl)) i = some ⟨.t (.ptr (xs.map i64) i), [], []⟩ := by
  obtain ⟨hu⟩ : Nonempty (Tryz.prog.underlying 102 = some (.slice 61)) := ⟨by kernel_rfl⟩
  obtain ⟨ii, hi, hs⟩ : ∃ ii, Tryz.prog.info? 61 = some ii ∧ ii.size = 1 := ⟨_, rfl, by kernel_rfl⟩
  unfold indexAddrC
  simp only [hu, hi, hs]
  rw [if_pos ⟨by omega, by omega⟩]
  simp
theorem part_l (xs : List Int) (i : Nat) (x : Int) (h : xs[i]? = some x) : partC Tryz.prog 61 ((xs.map i64).map .t) i = some (.t (i64 x)) := by
  obtain ⟨d, ii, hd, hi, ha⟩ : ∃ d ii, Tryz.prog.underlying 61 = some d ∧ Tryz.prog.info? 61 = some ii ∧ isAggB d = false := ⟨_, _, rfl, rfl, by kernel_rfl⟩
  unfold partC
  simp only [hd, hi, ha]
  simp [h]
noncomputable def bodyI : Code := (Tryz.f67.body).getD .skip
noncomputable def loopI : Code := inL (inB (c2 (c1 (c2 bodyI))))
theorem restI_eq : restC 1 bodyI = .seq (.seq (c1 (c1 (c2 bodyI))) (.block 0 (.loop loopI))) (c2 (c2 bodyI)) := by kernel_rfl
noncomputable abbrev XI : Code → S → Va.Tape → Option (Ex × S × Va.Tape × List Prop) := XX 67 Tryz.f67.ntmps
def SI (xs : List Int) (fT : T) (i : Int) : S := ⟨[(0, .t (.sl (xs.map i64) xs.length false)), (1, .t fT), (7, .t (i64 xs.length)), (8, .t (i64 i))], []⟩

theorem preI1 (xs : List Int) (cp : T) : tidiedP [0, 1] (PX 67 Tryz.f67.ntmps 1 bodyI ⟨initE [.sl (xs.map i64) xs.length false, (.fn (.func 42) [] [cp])] 0, []⟩ []) = some (⟨[(0, .t (.sl (xs.map i64) xs.length false)), (1, .t (.fn (.func 42) [] [cp]))], []⟩, [], []) := by kernel_rfl
theorem startI1 (xs : List Int) (cp : T) : tidied [0, 1, 7, 8] (XI (c1 (c1 (c2 bodyI))) ⟨[(0, .t (.sl (xs.map i64) xs.length false)), (1, .t (.fn (.func 42) [] [cp]))], []⟩ []) = some (.normal, SI xs (.fn (.func 42) [] [cp]) 0, [], []) := by kernel_rfl
theorem roundI1 (xs : List Int) (cp : T) (i : Nat) (x : Int) : tidied [0, 1, 7, 8] (XI loopI (SI xs (.fn (.func 42) [] [cp]) i) [((67, 9), .res (.t (bl true))), ((67, 14), .res (.t (.ptr (xs.map i64) i))), ((67, 15), .res (.t (i64 x))), ((67, 16), .call [.t (bl false)]), ((67, 18), .res (.t (i64 (i + 1))))]) =
    some (.normal, SI xs (.fn (.func 42) [] [cp]) (i + 1), [], [BinIs Tryz.prog .lss 3 (.tmp 8) (.tmp 7) (.int .i64 i) (.int .i64 xs.length) (.bool true), indexAddrC Tryz.prog 102 (.t (.sl (xs.map i64) xs.length false)) i = some ⟨.t (.ptr (xs.map i64) i), [], []⟩,
      partC Tryz.prog 61 ((xs.map i64).map .t) i = some (.t (i64 x)), HoldsL 42 [i64 x, cp] [.t (bl false)], BinIs Tryz.prog .add 3 (.tmp 8) (.const (.int .i64 1)) (.int .i64 i) (.int .i64 1) (.int .i64 (i + 1))]) := by kernel_rfl
theorem outI1 (xs : List Int) (cp : T) (i : Int) : tidied [] (XI loopI (SI xs (.fn (.func 42) [] [cp]) i) [((67, 9), .res (.t (bl false)))]) = some (.exit 0, ⟨[], []⟩, [], [BinIs Tryz.prog .lss 3 (.tmp 8) (.tmp 7) (.int .i64 i) (.int .i64 xs.length) (.bool false)]) := by kernel_rfl
theorem loopI1 (xs : List Int) (cp : T) (hlen : xs.length ≤ 100000) (hf : ∀ x, x ∈ xs → HoldsL 42 [i64 x, cp] [.t (bl false)]) : ∀ (m i : Nat), i + m = xs.length → ∃ s', Rounds Tryz.prog gG Tryz.f67.ntmps loopI [0, 1, 7, 8] (SI xs (.fn (.func 42) [] [cp]) i) (.exit 0) s' ∧ tidy [] s' = some ⟨[], []⟩
  | 0, i, he => by
    obtain ⟨s, o1, o2⟩ := tidied_some (outI1 xs cp i)
    exact ⟨s, .out (by simp) (XX_sound o1 (.cons (bLss _ _ _ _ _ (decide_eq_false (by omega))) .nil)), o2⟩
  | m + 1, i, he => by
    obtain ⟨s', r1, r2⟩ := loopI1 xs cp hlen hf m (i + 1) (by omega)
    have hi : i < xs.length := by omega
    obtain ⟨s, o1, o2⟩ := tidied_some (roundI1 xs cp i xs[i])
    refine ⟨s', .round (XX_sound o1 (.cons (bLss _ _ _ _ _ (decide_eq_true (by omega))) (.cons (index_l xs false i hi) (.cons (part_l xs i _ (List.getElem?_eq_getElem hi)) (.cons (hf _ (List.getElem_mem hi)) (.cons (bAdd _ _ _ _ _ rfl (by omega) (by omega)) .nil)))))) o2 ?_, r2⟩
    have e : ((i + 1 : Nat) : Int) = (i : Int) + 1 := by omega
    rw [e] at r1
    exact r1
theorem contains1 (xs : List Int) (cp : T) (hlen : xs.length ≤ 100000) (hf : ∀ x, x ∈ xs → HoldsL 42 [i64 x, cp] [.t (bl false)]) : HoldsL 40 [.sl (xs.map i64) xs.length false, (.fn (.func 42) [] [cp])] [.t (bl false)] := by
  have hix : HoldsL 67 [.sl (xs.map i64) xs.length false, (.fn (.func 42) [] [cp])] [.t (i64 (-1))] := by
    obtain ⟨s', r1, r2⟩ := loopI1 xs cp hlen hf xs.length 0 (by omega)
    obtain ⟨s1, o1, o2⟩ := tidied_some (startI1 xs cp)
    have hl : XI (c2 (c2 bodyI)) ⟨[], []⟩ [] = some (.ret, ⟨[(4, .t (i64 (-1)))], []⟩, [], []) := by kernel_rfl
    refine holds_of_ExecS (c := bodyI) (x := .ret) (s' := ⟨[(4, .t (i64 (-1)))], []⟩) Tryz.func67 (by kernel_rfl) (of_decide_eq_true (by kernel_rfl)) ?_ (.inr rfl) (by kernel_rfl)
    refine PX_sound (preI1 xs cp) .nil ?_
    rw [restI_eq]
    exact .seq (.seq (XX_sound o1 .nil) (ExecS.tidy o2 (.blockIn r1.loop))) (ExecS.tidy r2 (XX_sound hl .nil))
  have e : runX Tryz.prog gG noF 10 40 [.sl (xs.map i64) xs.length false, (.fn (.func 42) [] [cp])] [((40, 7), .call [.t (i64 (-1))])] = some ([.t (bl false)], [], [HoldsL 67 [.sl (xs.map i64) xs.length false, (.fn (.func 42) [] [cp])] [.t (i64 (-1))]]) := by kernel_rfl
  exact sndL 10 _ _ _ _ _ _ e (.cons hix .nil)
theorem preI2 (xs : List Int) (cp : T) : tidiedP [0, 1] (PX 67 Tryz.f67.ntmps 1 bodyI ⟨initE [.sl (xs.map i64) xs.length false, (.fn (.func 44) [] [cp])] 0, []⟩ []) = some (⟨[(0, .t (.sl (xs.map i64) xs.length false)), (1, .t (.fn (.func 44) [] [cp]))], []⟩, [], []) := by kernel_rfl
theorem startI2 (xs : List Int) (cp : T) : tidied [0, 1, 7, 8] (XI (c1 (c1 (c2 bodyI))) ⟨[(0, .t (.sl (xs.map i64) xs.length false)), (1, .t (.fn (.func 44) [] [cp]))], []⟩ []) = some (.normal, SI xs (.fn (.func 44) [] [cp]) 0, [], []) := by kernel_rfl
theorem roundI2 (xs : List Int) (cp : T) (i : Nat) (x : Int) : tidied [0, 1, 7, 8] (XI loopI (SI xs (.fn (.func 44) [] [cp]) i) [((67, 9), .res (.t (bl true))), ((67, 14), .res (.t (.ptr (xs.map i64) i))), ((67, 15), .res (.t (i64 x))), ((67, 16), .call [.t (bl false)]), ((67, 18), .res (.t (i64 (i + 1))))]) =
    some (.normal, SI xs (.fn (.func 44) [] [cp]) (i + 1), [], [BinIs Tryz.prog .lss 3 (.tmp 8) (.tmp 7) (.int .i64 i) (.int .i64 xs.length) (.bool true), indexAddrC Tryz.prog 102 (.t (.sl (xs.map i64) xs.length false)) i = some ⟨.t (.ptr (xs.map i64) i), [], []⟩,
      partC Tryz.prog 61 ((xs.map i64).map .t) i = some (.t (i64 x)), HoldsL 44 [i64 x, cp] [.t (bl false)], BinIs Tryz.prog .add 3 (.tmp 8) (.const (.int .i64 1)) (.int .i64 i) (.int .i64 1) (.int .i64 (i + 1))]) := by kernel_rfl
theorem outI2 (xs : List Int) (cp : T) (i : Int) : tidied [] (XI loopI (SI xs (.fn (.func 44) [] [cp]) i) [((67, 9), .res (.t (bl false)))]) = some (.exit 0, ⟨[], []⟩, [], [BinIs Tryz.prog .lss 3 (.tmp 8) (.tmp 7) (.int .i64 i) (.int .i64 xs.length) (.bool false)]) := by kernel_rfl
theorem loopI2 (xs : List Int) (cp : T) (hlen : xs.length ≤ 100000) (hf : ∀ x, x ∈ xs → HoldsL 44 [i64 x, cp] [.t (bl false)]) : ∀ (m i : Nat), i + m = xs.length → ∃ s', Rounds Tryz.prog gG Tryz.f67.ntmps loopI [0, 1, 7, 8] (SI xs (.fn (.func 44) [] [cp]) i) (.exit 0) s' ∧ tidy [] s' = some ⟨[], []⟩
  | 0, i, he => by
    obtain ⟨s, o1, o2⟩ := tidied_some (outI2 xs cp i)
    exact ⟨s, .out (by simp) (XX_sound o1 (.cons (bLss _ _ _ _ _ (decide_eq_false (by omega))) .nil)), o2⟩
  | m + 1, i, he => by
    obtain ⟨s', r1, r2⟩ := loopI2 xs cp hlen hf m (i + 1) (by omega)
    have hi : i < xs.length := by omega
    obtain ⟨s, o1, o2⟩ := tidied_some (roundI2 xs cp i xs[i])
    refine ⟨s', .round (XX_sound o1 (.cons (bLss _ _ _ _ _ (decide_eq_true (by omega))) (.cons (index_l xs false i hi) (.cons (part_l xs i _ (List.getElem?_eq_getElem hi)) (.cons (hf _ (List.getElem_mem hi)) (.cons (bAdd _ _ _ _ _ rfl (by omega) (by omega)) .nil)))))) o2 ?_, r2⟩
    have e : ((i + 1 : Nat) : Int) = (i : Int) + 1 := by omega
    rw [e] at r1
    exact r1
theorem contains2 (xs : List Int) (cp : T) (hlen : xs.length ≤ 100000) (hf : ∀ x, x ∈ xs → HoldsL 44 [i64 x, cp] [.t (bl false)]) : HoldsL 40 [.sl (xs.map i64) xs.length false, (.fn (.func 44) [] [cp])] [.t (bl false)] := by
  have hix : HoldsL 67 [.sl (xs.map i64) xs.length false, (.fn (.func 44) [] [cp])] [.t (i64 (-1))] := by
    obtain ⟨s', r1, r2⟩ := loopI2 xs cp hlen hf xs.length 0 (by omega)
    obtain ⟨s1, o1, o2⟩ := tidied_some (startI2 xs cp)
    have hl : XI (c2 (c2 bodyI)) ⟨[], []⟩ [] = some (.ret, ⟨[(4, .t (i64 (-1)))], []⟩, [], []) := by kernel_rfl
    refine holds_of_ExecS (c := bodyI) (x := .ret) (s' := ⟨[(4, .t (i64 (-1)))], []⟩) Tryz.func67 (by kernel_rfl) (of_decide_eq_true (by kernel_rfl)) ?_ (.inr rfl) (by kernel_rfl)
    refine PX_sound (preI2 xs cp) .nil ?_
    rw [restI_eq]
    exact .seq (.seq (XX_sound o1 .nil) (ExecS.tidy o2 (.blockIn r1.loop))) (ExecS.tidy r2 (XX_sound hl .nil))
  have e : runX Tryz.prog gG noF 10 40 [.sl (xs.map i64) xs.length false, (.fn (.func 44) [] [cp])] [((40, 7), .call [.t (i64 (-1))])] = some ([.t (bl false)], [], [HoldsL 67 [.sl (xs.map i64) xs.length false, (.fn (.func 44) [] [cp])] [.t (i64 (-1))]]) := by kernel_rfl
  exact sndL 10 _ _ _ _ _ _ e (.cons hix .nil)
theorem preI3 (xs : List Int) (cp : T) : tidiedP [0, 1] (PX 67 Tryz.f67.ntmps 1 bodyI ⟨initE [.sl (xs.map i64) xs.length false, (.fn (.func 47) [] [cp])] 0, []⟩ []) = some (⟨[(0, .t (.sl (xs.map i64) xs.length false)), (1, .t (.fn (.func 47) [] [cp]))], []⟩, [], []) := by kernel_rfl
theorem startI3 (xs : List Int) (cp : T) : tidied [0, 1, 7, 8] (XI (c1 (c1 (c2 bodyI))) ⟨[(0, .t (.sl (xs.map i64) xs.length false)), (1, .t (.fn (.func 47) [] [cp]))], []⟩ []) = some (.normal, SI xs (.fn (.func 47) [] [cp]) 0, [], []) := by kernel_rfl
theorem roundI3 (xs : List Int) (cp : T) (i : Nat) (x : Int) : tidied [0, 1, 7, 8] (XI loopI (SI xs (.fn (.func 47) [] [cp]) i) [((67, 9), .res (.t (bl true))), ((67, 14), .res (.t (.ptr (xs.map i64) i))), ((67, 15), .res (.t (i64 x))), ((67, 16), .call [.t (bl false)]), ((67, 18), .res (.t (i64 (i + 1))))]) =
    some (.normal, SI xs (.fn (.func 47) [] [cp]) (i + 1), [], [BinIs Tryz.prog .lss 3 (.tmp 8) (.tmp 7) (.int .i64 i) (.int .i64 xs.length) (.bool true), indexAddrC Tryz.prog 102 (.t (.sl (xs.map i64) xs.length false)) i = some ⟨.t (.ptr (xs.map i64) i), [], []⟩,
      partC Tryz.prog 61 ((xs.map i64).map .t) i = some (.t (i64 x)), HoldsL 47 [i64 x, cp] [.t (bl false)], BinIs Tryz.prog .add 3 (.tmp 8) (.const (.int .i64 1)) (.int .i64 i) (.int .i64 1) (.int .i64 (i + 1))]) := by kernel_rfl
theorem outI3 (xs : List Int) (cp : T) (i : Int) : tidied [] (XI loopI (SI xs (.fn (.func 47) [] [cp]) i) [((67, 9), .res (.t (bl false)))]) = some (.exit 0, ⟨[], []⟩, [], [BinIs Tryz.prog .lss 3 (.tmp 8) (.tmp 7) (.int .i64 i) (.int .i64 xs.length) (.bool false)]) := by kernel_rfl
theorem loopI3 (xs : List Int) (cp : T) (hlen : xs.length ≤ 100000) (hf : ∀ x, x ∈ xs → HoldsL 47 [i64 x, cp] [.t (bl false)]) : ∀ (m i : Nat), i + m = xs.length → ∃ s', Rounds Tryz.prog gG Tryz.f67.ntmps loopI [0, 1, 7, 8] (SI xs (.fn (.func 47) [] [cp]) i) (.exit 0) s' ∧ tidy [] s' = some ⟨[], []⟩
  | 0, i, he => by
    obtain ⟨s, o1, o2⟩ := tidied_some (outI3 xs cp i)
    exact ⟨s, .out (by simp) (XX_sound o1 (.cons (bLss _ _ _ _ _ (decide_eq_false (by omega))) .nil)), o2⟩
  | m + 1, i, he => by
    obtain ⟨s', r1, r2⟩ := loopI3 xs cp hlen hf m (i + 1) (by omega)
    have hi : i < xs.length := by omega
    obtain ⟨s, o1, o2⟩ := tidied_some (roundI3 xs cp i xs[i])
    refine ⟨s', .round (XX_sound o1 (.cons (bLss _ _ _ _ _ (decide_eq_true (by omega))) (.cons (index_l xs false i hi) (.cons (part_l xs i _ (List.getElem?_eq_getElem hi)) (.cons (hf _ (List.getElem_mem hi)) (.cons (bAdd _ _ _ _ _ rfl (by omega) (by omega)) .nil)))))) o2 ?_, r2⟩
    have e : ((i + 1 : Nat) : Int) = (i : Int) + 1 := by omega
    rw [e] at r1
    exact r1
theorem contains3 (xs : List Int) (cp : T) (hlen : xs.length ≤ 100000) (hf : ∀ x, x ∈ xs → HoldsL 47 [i64 x, cp] [.t (bl false)]) : HoldsL 40 [.sl (xs.map i64) xs.length false, (.fn (.func 47) [] [cp])] [.t (bl false)] := by
  have hix : HoldsL 67 [.sl (xs.map i64) xs.length false, (.fn (.func 47) [] [cp])] [.t (i64 (-1))] := by
    obtain ⟨s', r1, r2⟩ := loopI3 xs cp hlen hf xs.length 0 (by omega)
    obtain ⟨s1, o1, o2⟩ := tidied_some (startI3 xs cp)
    have hl : XI (c2 (c2 bodyI)) ⟨[], []⟩ [] = some (.ret, ⟨[(4, .t (i64 (-1)))], []⟩, [], []) := by kernel_rfl
    refine holds_of_ExecS (c := bodyI) (x := .ret) (s' := ⟨[(4, .t (i64 (-1)))], []⟩) Tryz.func67 (by kernel_rfl) (of_decide_eq_true (by kernel_rfl)) ?_ (.inr rfl) (by kernel_rfl)
    refine PX_sound (preI3 xs cp) .nil ?_
    rw [restI_eq]
    exact .seq (.seq (XX_sound o1 .nil) (ExecS.tidy o2 (.blockIn r1.loop))) (ExecS.tidy r2 (XX_sound hl .nil))
  have e : runX Tryz.prog gG noF 10 40 [.sl (xs.map i64) xs.length false, (.fn (.func 47) [] [cp])] [((40, 7), .call [.t (i64 (-1))])] = some ([.t (bl false)], [], [HoldsL 67 [.sl (xs.map i64) xs.length false, (.fn (.func 47) [] [cp])] [.t (i64 (-1))]]) := by kernel_rfl
  exact sndL 10 _ _ _ _ _ _ e (.cons hix .nil)
end Go.Proofs.YtaomebcmmjhplaaGreatDoor
