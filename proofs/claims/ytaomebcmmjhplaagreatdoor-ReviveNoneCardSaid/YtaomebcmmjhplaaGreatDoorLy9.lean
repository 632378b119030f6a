/- The first words of a layout: the rounds. -/
import Derived.Test.YtaomebcmmjhplaaGreatDoorLy8
namespace Go.Proofs.YtaomebcmmjhplaaGreatDoor
open Go Go.RowKit Go.Va
set_option maxRecDepth 100000
set_option maxHeartbeats 400000
theorem preF (t c b : Int) (n : Nat) (cs cs2 : List C) : tidiedPO [0, 9] [9] [1, 3] (PX 5 Tryz.f5.ntmps 4 bodyF ⟨initE [lay t c b] 0, []⟩ [((5, 7), .call [.t (bl true)]), ((5, 10), .call [.t (i64 n)]), ((5, 11), .mk n cs), ((5, 14), .call [.t (i64 1)]), ((5, 15), .res (.loc 9 (1 * 3))), ((5, 0), .st cs2)]) =
    some (SF0 t c b n cs2, [], [HoldsL 14 [lay t c b] [.t (bl true)], HoldsL 15 [lay t c b] [.t (i64 n)], ((n : Int) = n ∧ (n : Int) = n ∧ roomB n 16 = true ∧ [C.t (i64 0), .t (u32 0), .t (u32 0)].length = 3), (List.replicate n [C.t (i64 0), .t (u32 0), .t (u32 0)]).flatten = cs,
      HoldsL 16 [lay t c b] [.t (i64 1)], indexAddrC Tryz.prog 25 (.osl 9 n 3) 1 = some ⟨.loc 9 (1 * 3), [], []⟩, 1 * 3 + 0 + [C.t (i64 1)].length ≤ cs.length, splice cs (1 * 3 + 0) [.t (i64 1)] = cs2], [some (.cells cs2 false)]) := by kernel_rfl
theorem startF1 (t c b : Int) (n : Nat) (cs : List C) : tidiedO [0, 1] [1] [1, 3, 4] (XF (c1 (c1 tailF)) (SF0 t c b n cs) []) = some (.normal, SF1 t c b n cs 1, [], [], [some (.cells cs false)]) := by kernel_rfl
theorem roundF1 (t c b : Int) (n : Nat) (cs cs2 : List C) (i x : Int) (j : Nat) : tidiedO [0, 1] [1] [1, 3, 4] (XF loopF1 (SF1 t c b n cs i) [((5, 20), .res (.t (bl true))), ((5, 26), .call [.t (i64 x)]), ((5, 27), .res (.loc 1 (j * 3))), ((5, 0), .st cs2), ((5, 22), .res (.t (i64 (i + 1))))]) =
    some (.normal, SF1 t c b n cs2 (i + 1), [], [BinIs Tryz.prog .leq 3 (.tmp 17) (.tmp 19) (.int .i64 i) (.int .i64 t) (.bool true), HoldsL 17 [lay t c b, i64 i] [.t (i64 x)], indexAddrC Tryz.prog 25 (.osl 1 n 3) x = some ⟨.loc 1 (j * 3), [], []⟩,
      j * 3 + 0 + [C.t (i64 2)].length ≤ cs.length, splice cs (j * 3 + 0) [.t (i64 2)] = cs2, BinIs Tryz.prog .add 3 (.tmp 21) (.const (.int .i64 1)) (.int .i64 i) (.int .i64 1) (.int .i64 (i + 1))], [some (.cells cs2 false)]) := by kernel_rfl
theorem outF1 (t c b : Int) (n : Nat) (cs : List C) (i : Int) : tidiedO [0, 1] [1] [1, 3] (XF loopF1 (SF1 t c b n cs i) [((5, 20), .res (.t (bl false)))]) = some (.exit 0, SF0 t c b n cs, [], [BinIs Tryz.prog .leq 3 (.tmp 17) (.tmp 19) (.int .i64 i) (.int .i64 t) (.bool false)], [some (.cells cs false)]) := by kernel_rfl
theorem startF2 (t c b : Int) (n : Nat) (cs : List C) : tidiedO [0, 1] [1] [1, 3, 30, 31] (XF (c1 (c1 (c2 tailF))) (SF0 t c b n cs) []) = some (.normal, SF2 t c b n cs 0, [], [], [some (.cells cs false)]) := by kernel_rfl
theorem roundF2 (t c b : Int) (n : Nat) (cs cs2 : List C) (i x : Int) (j : Nat) : tidiedO [0, 1] [1] [1, 3, 30, 31] (XF loopF2 (SF2 t c b n cs i) [((5, 32), .res (.t (bl true))), ((5, 37), .call [.t (i64 x)]), ((5, 38), .res (.loc 1 (j * 3))), ((5, 0), .st cs2), ((5, 40), .res (.t (i64 (i + 1))))]) =
    some (.normal, SF2 t c b n cs2 (i + 1), [], [BinIs Tryz.prog .lss 3 (.tmp 31) (.tmp 30) (.int .i64 i) (.int .i64 b) (.bool true), HoldsL 18 [lay t c b, i64 i] [.t (i64 x)], indexAddrC Tryz.prog 25 (.osl 1 n 3) x = some ⟨.loc 1 (j * 3), [], []⟩,
      j * 3 + 0 + [C.t (i64 2)].length ≤ cs.length, splice cs (j * 3 + 0) [.t (i64 2)] = cs2, BinIs Tryz.prog .add 3 (.tmp 31) (.const (.int .i64 1)) (.int .i64 i) (.int .i64 1) (.int .i64 (i + 1))], [some (.cells cs2 false)]) := by kernel_rfl
theorem outF2 (t c b : Int) (n : Nat) (cs : List C) (i : Int) : tidiedO [1] [1] [3] (XF loopF2 (SF2 t c b n cs i) [((5, 32), .res (.t (bl false)))]) = some (.exit 2, ⟨[(3, .osl 0 n 3)], [some (.cells cs false)]⟩, [], [BinIs Tryz.prog .lss 3 (.tmp 31) (.tmp 30) (.int .i64 i) (.int .i64 b) (.bool false)], [some (.cells cs false)]) := by kernel_rfl
theorem lastF (n : Nat) (cs : List C) : XF (c2 (c2 tailF)) ⟨[(3, .osl 0 n 3)], [some (.cells cs false)]⟩ [] = some (.ret, ⟨[(2, .osl 0 n 3), (3, .osl 0 n 3), (41, .osl 0 n 3)], [some (.cells cs false)]⟩, [], []) := by kernel_rfl
/-- The values of the first words: behind i slots, behind them all and i blocks. -/
def gS (t c b : Int) : Nat → Nat → Int
  | 0 => upd (fun _ => 0) 1 1
  | i + 1 => upd (gS t c b i) (slotF t c b (i + 1)).toNat 2
def gB (t c b : Int) (tn : Nat) : Nat → Nat → Int
  | 0 => gS t c b tn
  | i + 1 => upd (gB t c b tn i) (blockF t c b i).toNat 2
theorem opq1 (g : Nat → Int) (n : Nat) : ∀ k, some k ∈ [some (Blk.cells (wC g n) false)] → OpqB k := by
  intro k hk
  simp only [List.mem_singleton, Option.some.injEq] at hk
  subst hk
  exact wC_opq _ _ _
theorem slotF_range {t c b : Int} (h : LV t c b) (i : Int) (h0 : 1 ≤ i) (h1 : i ≤ t) : 0 ≤ slotF t c b i ∧ slotF t c b i < fromF t c b 7 := by
  obtain ⟨g1, g2, g3, g4, g5, g6⟩ := h
  have := long3_le c g3 g4
  have := long5_le b
  simp only [slotF, fromF]
  omega
theorem blockF_range {t c b : Int} (h : LV t c b) (i : Int) (h0 : 0 ≤ i) (h1 : i < b) : 0 ≤ blockF t c b i ∧ blockF t c b i < fromF t c b 7 := by
  obtain ⟨g1, g2, g3, g4, g5, g6⟩ := h
  have := long3_le c g3 g4
  have := long5_le b
  simp only [blockF, fromF]
  omega
theorem F1_rounds {t c b : Int} (h : LV t c b) (tn n : Nat) (ht : t = tn) (hn : fromF t c b 7 = n) : ∀ (m i : Nat), i + m = tn →
    ∃ s', RoundsW Tryz.prog gG Tryz.f5.ntmps loopF1 (SF1 t c b n (wC (gS t c b i) n) (i + 1)) (.exit 0) s' ∧ Weak gG Tryz.f5.ntmps s' (SF0 t c b n (wC (gS t c b tn) n))
  | 0, i, he => by
    have hi : i = tn := by omega
    subst hi
    obtain ⟨s, o1, o2⟩ := tidiedO_some (G := gG) (nt := Tryz.f5.ntmps) (outF1 t c b n (wC (gS t c b i) n) (i + 1)) (opq1 _ _)
    exact ⟨s, .out (by simp) (XX_sound o1 (.cons (bLeq _ _ _ _ _ (decide_eq_false (by omega))) .nil)), o2⟩
  | m + 1, i, he => by
    obtain ⟨s', r1, r2⟩ := F1_rounds h tn n ht hn m (i + 1) (by omega)
    have hr := slotF_range h (i + 1) (by omega) (by omega)
    have hx : slotF t c b (i + 1) = (slotF t c b (i + 1)).toNat := by omega
    obtain ⟨s, o1, o2⟩ := tidiedO_some (G := gG) (nt := Tryz.f5.ntmps) (roundF1 t c b n (wC (gS t c b i) n) (wC (gS t c b (i + 1)) n) (i + 1) (slotF t c b (i + 1)) (slotF t c b (i + 1)).toNat) (opq1 _ _)
    have e : ((i + 1 : Nat) : Int) = (i : Int) + 1 := by omega
    rw [e] at r1
    have hl := wC_len (gS t c b i) n
    have ht8 := h.t8
    exact ⟨s', .round (XX_sound o1 (.cons (bLeq _ _ _ _ _ (decide_eq_true (by omega))) (.cons (slot_ok h _ (by omega) (by omega)) (.cons (index_o _ _ _ _ hx (by omega)) (.cons (by simp only [List.length_singleton]; omega) (.cons (splice_w _ _ _ _ (by omega)) (.cons (bAdd _ _ _ _ _ rfl (by omega) (by omega)) .nil))))))) o2 r1, r2⟩
theorem F2_rounds {t c b : Int} (h : LV t c b) (tn bn n : Nat) (hb : b = bn) (hn : fromF t c b 7 = n) : ∀ (m i : Nat), i + m = bn →
    ∃ s', RoundsW Tryz.prog gG Tryz.f5.ntmps loopF2 (SF2 t c b n (wC (gB t c b tn i) n) i) (.exit 2) s' ∧ Weak gG Tryz.f5.ntmps s' ⟨[(3, .osl 0 n 3)], [some (.cells (wC (gB t c b tn bn) n) false)]⟩
  | 0, i, he => by
    have hi : i = bn := by omega
    subst hi
    obtain ⟨s, o1, o2⟩ := tidiedO_some (G := gG) (nt := Tryz.f5.ntmps) (outF2 t c b n (wC (gB t c b tn i) n) i) (opq1 _ _)
    exact ⟨s, .out (by simp) (XX_sound o1 (.cons (bLss _ _ _ _ _ (decide_eq_false (by omega))) .nil)), o2⟩
  | m + 1, i, he => by
    obtain ⟨s', r1, r2⟩ := F2_rounds h tn bn n hb hn m (i + 1) (by omega)
    have hr := blockF_range h i (by omega) (by omega)
    have hx : blockF t c b i = (blockF t c b i).toNat := by omega
    obtain ⟨s, o1, o2⟩ := tidiedO_some (G := gG) (nt := Tryz.f5.ntmps) (roundF2 t c b n (wC (gB t c b tn i) n) (wC (gB t c b tn (i + 1)) n) i (blockF t c b i) (blockF t c b i).toNat) (opq1 _ _)
    have e : ((i + 1 : Nat) : Int) = (i : Int) + 1 := by omega
    rw [e] at r1
    have hl := wC_len (gB t c b tn i) n
    have hb6 := h.b64
    exact ⟨s', .round (XX_sound o1 (.cons (bLss _ _ _ _ _ (decide_eq_true (by omega))) (.cons (block_ok h _ (by omega) (by omega)) (.cons (index_o _ _ _ _ hx (by omega)) (.cons (by simp only [List.length_singleton]; omega) (.cons (splice_w _ _ _ _ (by omega)) (.cons (bAdd _ _ _ _ _ rfl (by omega) (by omega)) .nil))))))) o2 r1, r2⟩
theorem first_ok {t c b : Int} (h : LV t c b) (tn bn n : Nat) (ht : t = tn) (hb : b = bn) (hn : fromF t c b 7 = n) : HoldsL 5 [lay t c b] [.t (wRow (gB t c b tn bn) n false)] := by
  have hs := size_le h
  have hsz := size_ok h
  rw [hn] at hsz
  obtain ⟨s1, r1, r2⟩ := F1_rounds h tn n ht hn tn 0 (by omega)
  obtain ⟨s2, q1, q2⟩ := F2_rounds h tn bn n hb hn bn 0 (by omega)
  obtain ⟨u1, o1, o2⟩ := tidiedO_some (G := gG) (nt := Tryz.f5.ntmps) (startF1 t c b n (wC (gS t c b 0) n)) (opq1 _ _)
  obtain ⟨u2, p1, p2⟩ := tidiedO_some (G := gG) (nt := Tryz.f5.ntmps) (startF2 t c b n (wC (gS t c b tn) n)) (opq1 _ _)
  refine Holds.freeze1 (sz := 3) ?_
  refine holds_of_ExecS (c := bodyF) (x := .ret) (s' := ⟨[(2, .osl 0 n 3), (3, .osl 0 n 3), (41, .osl 0 n 3)], [some (.cells (wC (gB t c b tn bn) n) false)]⟩) Tryz.func5 (by kernel_rfl) (of_decide_eq_true (by kernel_rfl)) ?_ (.inr rfl) ?_
  · have hl := wC_len (fun _ => 0) n
    refine PXO_sound (preF t c b n (wC (fun _ => 0) n) (wC (gS t c b 0) n)) (opq1 _ _) (.cons (right_ok h) (.cons hsz (.cons ⟨rfl, rfl, room16 n (by omega), rfl⟩ (.cons (zeros_w n) (.cons (era_ok h) (.cons (index_o _ _ _ _ rfl (by omega)) (.cons (by simp only [List.length_singleton]; omega) (.cons (splice_w _ _ _ _ (by omega)) .nil)))))))) ?_
    have htl : restC 4 bodyF = tailF := rfl
    rw [htl, tailF_eq]
    refine .seq (.seq (XX_sound o1 .nil) (ExecS.weak o2 (.blockIn r1.loop))) (ExecS.weak r2 ?_)
    exact .seq (.seq (XX_sound p1 .nil) (ExecS.weak p2 (.blockIn q1.loop))) (ExecS.weak q2 (XX_sound (lastF _ _) .nil))
  · exact retR_osl (ts := wordsL (gB t c b tn bn) n) rfl rfl rfl (wordsL_len _ _)
theorem first_bad {t c b : Int} (h : LW t c b) : HoldsL 5 [lay t c b] [.t (.lit (.slice none 0 0))] := by
  have e : runX Tryz.prog gG noF 10 5 [lay t c b] [((5, 7), .call [.t (bl false)])] = some ([.t (.lit (.slice none 0 0))], [], [HoldsL 14 [lay t c b] [.t (bl false)]]) := by kernel_rfl
  exact sndL 10 _ _ _ _ _ _ e (.cons (right_bad h) .nil)
end Go.Proofs.YtaomebcmmjhplaaGreatDoor
