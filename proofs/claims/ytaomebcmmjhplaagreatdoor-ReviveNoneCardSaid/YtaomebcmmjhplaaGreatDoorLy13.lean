/- What a revival asks, and its errors. -/
import Derived.Test.YtaomebcmmjhplaaGreatDoorLy12
namespace Go.Proofs.YtaomebcmmjhplaaGreatDoor
open Go Go.RowKit Go.Va
set_option maxRecDepth 100000
set_option maxHeartbeats 400000
theorem right_full {t c b : Int} (h : LV t c b) (n : Nat) (hn : fromF t c b 7 = n) (g : Nat → Int) : HoldsL 21 [lay t c b, wRow g n false] [.t (bl true)] := by
  have hsz := size_ok h
  rw [hn] at hsz
  have e : runX Tryz.prog gG noF 10 21 [lay t c b, wRow g n false] [((21, 6), .call [.t (i64 0)]), ((21, 12), .call [.t (i64 n)]), ((21, 13), .res (.t (bl true)))] = some ([.t (bl true)], [], [HoldsL 6 [lay t c b] [.t (i64 0)], HoldsL 15 [lay t c b] [.t (i64 n)], BinIs Tryz.prog .geq 3 (.tmp 10) (.tmp 12) (.int .i64 n) (.int .i64 n) (.bool true)]) := by kernel_rfl
  exact sndL 10 _ _ _ _ _ _ e (.cons (check_ok h) (.cons hsz (.cons (bGeq _ _ _ _ _ (decide_eq_true (by omega))) .nil)))
theorem right_less {t c b : Int} (h : LV t c b) (n : Nat) (hn : fromF t c b 7 = n) (cells : List T) (m : Nat) (cl : Bool) (hm : m < n) : HoldsL 21 [lay t c b, .sl cells m cl] [.t (bl false)] := by
  have hsz := size_ok h
  rw [hn] at hsz
  have e : runX Tryz.prog gG noF 10 21 [lay t c b, .sl cells m cl] [((21, 6), .call [.t (i64 0)]), ((21, 12), .call [.t (i64 n)]), ((21, 13), .res (.t (bl false)))] = some ([.t (bl false)], [], [HoldsL 6 [lay t c b] [.t (i64 0)], HoldsL 15 [lay t c b] [.t (i64 n)], BinIs Tryz.prog .geq 3 (.tmp 10) (.tmp 12) (.int .i64 m) (.int .i64 n) (.bool false)]) := by kernel_rfl
  exact sndL 10 _ _ _ _ _ _ e (.cons (check_ok h) (.cons hsz (.cons (bGeq _ _ _ _ _ (decide_eq_false (by omega))) .nil)))
theorem right_none {t c b : Int} (h : LW t c b) : HoldsL 21 [lay t c b, .lit (.slice none 0 0)] [.t (bl false)] := by
  have e : runX Tryz.prog gG noF 10 21 [lay t c b, .lit (.slice none 0 0)] [((21, 6), .call [.t (i64 3)])] = some ([.t (bl false)], [], [HoldsL 6 [lay t c b] [.t (i64 3)]]) := by kernel_rfl
  exact sndL 10 _ _ _ _ _ _ e (.cons (check_bad h) .nil)
theorem vcheck_ok {c : Int} {t b : Nat} (h : LV3 c t b) (n : Nat) (hn : fromF t c b 7 = n) {g : Nat → Int} (hg : GAll t c b t b g) : HoldsL 7 [lay t c b, wRow g n false] [.t (.lit (.slice none 0 0))] := by
  have e : runX Tryz.prog gG noF 20 7 [lay t c b, wRow g n false] [((7, 10), .call [.t (bl true)]), ((7, 23), .call [.t (bl true)]), ((7, 23), .call [.t (bl true)]), ((7, 23), .call [.t (bl true)]), ((7, 23), .call [.t (bl true)]), ((7, 23), .call [.t (bl true)])] =
    some ([.t (.lit (.slice none 0 0))], [], [HoldsL 21 [lay t c b, wRow g n false] [.t (bl true)], HoldsL 22 [lay t c b, wRow g n false] [.t (bl true)], HoldsL 23 [lay t c b, wRow g n false] [.t (bl true)], HoldsL 24 [lay t c b, wRow g n false] [.t (bl true)], HoldsL 25 [lay t c b, wRow g n false] [.t (bl true)], HoldsL 26 [lay t c b, wRow g n false] [.t (bl true)]]) := by kernel_rfl
  exact sndL 20 _ _ _ _ _ _ e (.cons (right_full h.lv n hn g) (.cons (clean_ok h n hn g false hg.toGClean) (.cons (records_ok h n hn hg) (.cons (swaps_ok h n hn hg) (.cons (bits_true h n hn hg) (.cons (clocks_ok h.lv n hn hg) .nil))))))
/-- Handed too few words. -/
inductive Few (t c b : Int) : T → Prop
  | less (h : LV t c b) (n : Nat) (hn : fromF t c b 7 = n) (cells : List T) (m : Nat) (cl : Bool) (hm : m < n) : Few t c b (.sl cells m cl)
  | none (h : LW t c b) : Few t c b (.lit (.slice none 0 0))
theorem right_few {t c b : Int} {w : T} (h : Few t c b w) : HoldsL 21 [lay t c b, w] [.t (bl false)] := by
  cases h with
  | less h n hn cells m cl hm => exact right_less h n hn cells m cl hm
  | none h => exact right_none h
theorem vcheck_few {t c b : Int} {w : T} (h : Few t c b w) : HoldsL 7 [lay t c b, w] [.osl [i64 1, i64 2, i64 3, i64 4, i64 5] 5 1] := by
  have hr := right_few h
  have e : (w = .lit (.slice none 0 0) ∨ ∃ cells m cl, w = .sl cells m cl) → runX Tryz.prog gG noF 10 7 [lay t c b, w] [((7, 10), .call [.t (bl false)])] = some ([.osl [i64 1, i64 2, i64 3, i64 4, i64 5] 5 1], [], [HoldsL 21 [lay t c b, w] [.t (bl false)]]) := by
    rintro (rfl | ⟨cells, m, cl, rfl⟩) <;> kernel_rfl
  refine sndL 10 _ _ _ _ _ _ (e ?_) (.cons hr .nil)
  cases h with
  | less h n hn cells m cl hm => exact .inr ⟨_, _, _, rfl⟩
  | none h => exact .inl rfl
theorem seqs_few {t c b : Int} {w : T} (h : Few t c b w) : HoldsL 8 [lay t c b, w] [.t (.lit (.slice none 0 0))] := by
  have hr := right_few h
  have e : (w = .lit (.slice none 0 0) ∨ ∃ cells m cl, w = .sl cells m cl) → runX Tryz.prog gG noF 10 8 [lay t c b, w] [((8, 9), .call [.t (bl false)])] = some ([.t (.lit (.slice none 0 0))], [], [HoldsL 21 [lay t c b, w] [.t (bl false)]]) := by
    rintro (rfl | ⟨cells, m, cl, rfl⟩) <;> kernel_rfl
  refine sndL 10 _ _ _ _ _ _ (e ?_) (.cons hr .nil)
  cases h with
  | less h n hn cells m cl hm => exact .inr ⟨_, _, _, rfl⟩
  | none h => exact .inl rfl
theorem seqs_run (c b : Int) (t : Nat) (ht : t = 1 ∨ t = 2 ∨ t = 3) (g : Nat → Int) (n : Nat) (xs : Nat → Int) (is : Nat → Nat) : runX Tryz.prog gG noF 20 8 [lay t c b, wRow g n false] (((8, 9), .call [.t (bl true)]) :: (List.range t).flatMap fun (i : Nat) => [((8, 21), D.call [.t (i64 (xs i))]), ((8, 22), .res (.t (.ptr (wordsL g n) (is i * 3)))), ((8, 24), .res (.t (u32 0)))]) =
    some ([.osl (List.replicate t (i64 1)) t 1], [], HoldsL 21 [lay t c b, wRow g n false] [.t (bl true)] :: (List.range t).flatMap fun (i : Nat) => [HoldsL 17 [lay t c b, i64 (i + 1)] [.t (i64 (xs i))], ixP g n false (xs i) (is i), partC Tryz.prog 42 ((wordsL g n).map .t) (is i * 3 + 1) = some (.t (u32 0))]) := by
  rcases ht with rfl | rfl | rfl <;> kernel_rfl
theorem seqs_ok {c : Int} {t b : Nat} (h : LV3 c t b) (n : Nat) (hn : fromF t c b 7 = n) (g : Nat → Int) : HoldsL 8 [lay t c b, wRow g n false] [.osl (List.replicate t (i64 1)) t 1] := by
  refine sndL 20 _ _ _ _ _ _ (seqs_run c b t (by have := h.t1; have := h.t3; omega) g n (fun i => slotF t c b (i + 1)) (fun i => (slotF t c b (i + 1)).toNat)) ?_
  intro p hp
  rcases List.mem_cons.1 hp with rfl | hp
  · exact right_full h.lv n hn g
  · obtain ⟨i, hi, hp⟩ := List.mem_flatMap.1 hp
    rw [List.mem_range] at hi
    have hr := slotF_range h.lv (i + 1) (by omega) (by omega)
    simp only [List.mem_cons, List.not_mem_nil, or_false] at hp
    rcases hp with rfl | rfl | rfl
    · exact slot_ok h.lv _ (by omega) (by omega)
    · exact index_w g n false _ _ (by omega) (by omega)
    · exact part_wk g n _ 1 (by omega) (.inl rfl)
theorem words_few {t c b : Int} {w : T} (h : Few t c b w) : HoldsL 27 [lay t c b, w] [.t (.lit (.slice none 0 0)), .t (i64 1)] := by
  cases h with
  | less h n hn cells m cl hm =>
    have hsz := size_ok h
    rw [hn] at hsz
    have e : runX Tryz.prog gG noF 10 27 [lay t c b, .sl cells m cl] [((27, 14), .call [.t (i64 0)]), ((27, 20), .call [.t (i64 n)]), ((27, 21), .res (.t (bl true)))] = some ([.t (.lit (.slice none 0 0)), .t (i64 1)], [], [HoldsL 6 [lay t c b] [.t (i64 0)], HoldsL 15 [lay t c b] [.t (i64 n)], BinIs Tryz.prog .lss 3 (.tmp 18) (.tmp 20) (.int .i64 m) (.int .i64 n) (.bool true)]) := by kernel_rfl
    exact sndL 10 _ _ _ _ _ _ e (.cons (check_ok h) (.cons hsz (.cons (bLss _ _ _ _ _ (decide_eq_true (by omega))) .nil)))
  | none h =>
    have e : runX Tryz.prog gG noF 10 27 [lay t c b, .lit (.slice none 0 0)] [((27, 14), .call [.t (i64 3)])] = some ([.t (.lit (.slice none 0 0)), .t (i64 1)], [], [HoldsL 6 [lay t c b] [.t (i64 3)]]) := by kernel_rfl
    exact sndL 10 _ _ _ _ _ _ e (.cons (check_bad h) .nil)
theorem image_few {t c b : Int} {w : T} (h : Few t c b w) : HoldsL 9 [lay t c b, w] [.t (.lit (.slice none 0 0)), .t (.lit (.slice none 0 0)), .t (i64 1)] := by
  have hr := words_few h
  have e : (w = .lit (.slice none 0 0) ∨ ∃ cells m cl, w = .sl cells m cl) → runX Tryz.prog gG noF 10 9 [lay t c b, w] [((9, 17), .call [.t (.lit (.slice none 0 0)), .t (i64 1)])] = some ([.t (.lit (.slice none 0 0)), .t (.lit (.slice none 0 0)), .t (i64 1)], [], [HoldsL 27 [lay t c b, w] [.t (.lit (.slice none 0 0)), .t (i64 1)]]) := by
    rintro (rfl | ⟨cells, m, cl, rfl⟩) <;> kernel_rfl
  refine sndL 10 _ _ _ _ _ _ (e ?_) (.cons hr .nil)
  cases h with
  | less h n hn cells m cl hm => exact .inr ⟨_, _, _, rfl⟩
  | none h => exact .inl rfl
def codeT (t c b : Int) (m st ow : T) : T := .ifc 117 (.agg [i64 t, i64 c, i64 b, m, st, ow, i64 0, i64 0, .lit (.slice none 0 0), .lit (.slice none 0 0), .lit (.slice none 0 0), .lit (.slice none 0 0), bl false, bl false])
theorem new_ok {c : Int} {t b : Nat} (h : LV3 c t b) (n : Nat) (hn : fromF t c b 7 = n) : ∃ k1 k2 k3 l1 l2 l3, HoldsL 29 [lay t c b] [.t (codeT t c b (.sl l1 k1 false) (.sl l2 k2 false) (.sl l3 k3 false)), .t (i64 0)] := by
  have e : ∀ (l1 l2 l3 : List T) (k1 k2 k3 : Nat), runX Tryz.prog gG noF 10 29 [lay t c b] [((29, 5), .call [.t (i64 0)]), ((29, 9), .call [.t (.sl l1 k1 false)]), ((29, 11), .call [.t (.sl l2 k2 false)]), ((29, 13), .call [.t (.sl l3 k3 false)])] =
    some ([.t (codeT t c b (.sl l1 k1 false) (.sl l2 k2 false) (.sl l3 k3 false)), .t (i64 0)], [], [HoldsL 6 [lay t c b] [.t (i64 0)], HoldsL 41 [lay t c b] [.t (.sl l1 k1 false)], HoldsL 43 [lay t c b] [.t (.sl l2 k2 false)], HoldsL 46 [lay t c b] [.t (.sl l3 k3 false)]]) := by
    intro l1 l2 l3 k1 k2 k3
    kernel_rfl
  exact ⟨_, _, _, _, _, _, sndL 10 _ _ _ _ _ _ (e _ _ _ _ _ _) (.cons (check_ok h.lv) (.cons (may_holds h.lv n hn) (.cons (statuses_holds h) (.cons (own_holds h) .nil))))⟩
theorem again_less {c : Int} {t b : Nat} (h : LV3 c t b) (n : Nat) (hn : fromF t c b 7 = n) (cells : List T) (m : Nat) (cl : Bool) (hm : m < n) : HoldsL 10 [lay t c b, .sl cells m cl, i64 3] [.t (.lit (.slice none 0 0)), .t (i64 1)] := by
  have hsz := size_ok h.lv
  rw [hn] at hsz
  obtain ⟨k1, k2, k3, l1, l2, l3, hnew⟩ := new_ok h n hn
  have e : runX Tryz.prog gG noF 10 10 [lay t c b, .sl cells m cl, i64 3] [((10, 16), .call [.t (codeT t c b (.sl l1 k1 false) (.sl l2 k2 false) (.sl l3 k3 false)), .t (i64 0)]), ((10, 25), .call [.t (i64 n)]), ((10, 26), .res (.t (bl true)))] =
    some ([.t (.lit (.slice none 0 0)), .t (i64 1)], [], [HoldsL 29 [lay t c b] [.t (codeT t c b (.sl l1 k1 false) (.sl l2 k2 false) (.sl l3 k3 false)), .t (i64 0)], HoldsL 15 [lay t c b] [.t (i64 n)], BinIs Tryz.prog .lss 3 (.tmp 23) (.tmp 25) (.int .i64 m) (.int .i64 n) (.bool true)]) := by kernel_rfl
  exact sndL 10 _ _ _ _ _ _ e (.cons hnew (.cons hsz (.cons (bLss _ _ _ _ _ (decide_eq_true (by omega))) .nil)))
theorem again_none {t c b : Int} (h : LW t c b) : HoldsL 10 [lay t c b, .lit (.slice none 0 0), i64 3] [.t (.lit (.slice none 0 0)), .t (i64 1)] := by
  have e1 : runX Tryz.prog gG noF 10 29 [lay t c b] [((29, 5), .call [.t (i64 3)])] = some ([.t (.lit .nilIface), .t (i64 1)], [], [HoldsL 6 [lay t c b] [.t (i64 3)]]) := by kernel_rfl
  have e : runX Tryz.prog gG noF 10 10 [lay t c b, .lit (.slice none 0 0), i64 3] [((10, 16), .call [.t (.lit .nilIface), .t (i64 1)])] = some ([.t (.lit (.slice none 0 0)), .t (i64 1)], [], [HoldsL 29 [lay t c b] [.t (.lit .nilIface), .t (i64 1)]]) := by kernel_rfl
  exact sndL 10 _ _ _ _ _ _ e (.cons (sndL 10 _ _ _ _ _ _ e1 (.cons (check_bad h) .nil)) .nil)
end Go.Proofs.YtaomebcmmjhplaaGreatDoor
