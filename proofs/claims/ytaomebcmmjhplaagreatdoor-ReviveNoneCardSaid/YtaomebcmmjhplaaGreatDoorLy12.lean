/- The bits; what a revival asks, and its errors. -/
import Derived.Test.YtaomebcmmjhplaaGreatDoorLy11
namespace Go.Proofs.YtaomebcmmjhplaaGreatDoor
open Go Go.RowKit Go.Va
set_option maxRecDepth 100000
set_option maxHeartbeats 400000
theorem find_one (k : Int) : findK (.int .i64) (.int .i64 k) [.int .i64 k] = some (some 0) := by
  have hs : Instr.sameNow (.int .i64) (.int .i64 k) (.int .i64 k) = some true := by simp [Instr.sameNow]
  unfold findK
  simp [hs, findIx]
def bitsTape (g : Nat → Int) (n : Nat) (k : Int) : Nat → Va.Tape
  | 0 => []
  | b + 1 => bitsTape g n k b ++ [((25, 20), .call [.t (i64 k), .t (i64 ((2 ^ b : Nat) : Int))]), ((25, 25), .lk (if b = 0 then none else some 0)), ((25, 0), .up (if b = 0 then none else some 0))]
def bitsProps (t c b : Int) (k : Int) : Nat → List Prop
  | 0 => []
  | i + 1 => bitsProps t c b k i ++ [HoldsL 49 [lay t c b, i64 i] [.t (i64 k), .t (i64 ((2 ^ i : Nat) : Int))], findK (.int .i64) (.int .i64 k) (if i = 0 then [] else [.int .i64 k]) = some (if i = 0 then none else some 0)] ++ (if i = 0 then [findK (.int .i64) (.int .i64 k) [] = some none] else [findK (.int .i64) (.int .i64 k) [.int .i64 k] = some (some 0), 1 = 1])
theorem bits_run0 (t c : Int) (g : Nat → Int) (n : Nat) : runX Tryz.prog gG noF 20 25 [lay t c 0, wRow g n false] [] = some ([.t (bl true)], [], []) := by kernel_rfl
theorem bits_run (t c : Int) (b : Nat) (hb : b = 1 ∨ b = 2 ∨ b = 3 ∨ b = 4 ∨ b = 5 ∨ b = 6 ∨ b = 7 ∨ b = 8) (g : Nat → Int) (n : Nat) (k : Int) (i : Nat) :
    runX Tryz.prog gG noF 20 25 [lay t c b, wRow g n false] (bitsTape g n k b ++ [((25, 38), .res (.t (.ptr (wordsL g n) (i * 3)))), ((25, 40), .res (.t (i64 0))), ((25, 47), .res (.t (.ptr (wordsL g n) (i * 3)))), ((25, 49), .res (.t (u32 0)))]) =
    some ([.t (bl true)], [], bitsProps t c b k b ++ [ixP g n false k i, partC Tryz.prog 2 ((wordsL g n).map .t) (i * 3 + 0) = some (.t (i64 0)), ixP g n false k i, partC Tryz.prog 42 ((wordsL g n).map .t) (i * 3 + 2) = some (.t (u32 0))]) := by
  rcases hb with rfl | rfl | rfl | rfl | rfl | rfl | rfl | rfl <;> kernel_rfl
theorem find_none (k : Int) : findK (.int .i64) (.int .i64 k) [] = some none := by simp [findK, findIx]
theorem bitsProps_all {t c b : Int} (h : LV t c b) : ∀ i : Nat, (i : Int) ≤ b → All (bitsProps t c b (fromF t c b 5) i)
  | 0, _ => .nil
  | i + 1, hi => by
    intro p hp
    simp only [bitsProps, List.append_assoc] at hp
    rcases List.mem_append.1 hp with hp | hp
    · exact bitsProps_all h i (by omega) p hp
    · rcases List.mem_append.1 hp with hp | hp
      · simp only [List.mem_cons, List.not_mem_nil, or_false] at hp
        rcases hp with rfl | rfl
        · exact bits_ok h i (by omega)
        · split
          · exact find_none _
          · exact find_one _
      · split at hp
        · simp only [List.mem_cons, List.not_mem_nil, or_false] at hp
          subst hp
          exact find_none _
        · simp only [List.mem_cons, List.not_mem_nil, or_false] at hp
          rcases hp with rfl | rfl
          · exact find_one _
          · trivial
theorem bits_true {c : Int} {t b : Nat} (h : LV3 c t b) (n : Nat) (hn : fromF t c b 7 = n) {g : Nat → Int} (hg : GAll t c b t b g) : HoldsL 25 [lay t c b, wRow g n false] [.t (bl true)] := by
  by_cases hb : b = 0
  · subst hb
    exact sndL 20 _ _ _ _ _ _ (bits_run0 t c g n) .nil
  · have hr : 0 ≤ fromF t c b 5 ∧ fromF t c b 5 < n := by
      rw [← hn]
      obtain ⟨g1, g2, g3, g4, g5, g6⟩ := h.lv
      have := long3_le c g3 g4
      have hl5 : long5 b = 8 := if_pos (by omega)
      simp only [fromF]
      omega
    have hz := hg.bits (by omega)
    have hp0 := part_w0 g n (fromF t c b 5).toNat (by omega)
    rw [hz] at hp0
    have hix : ixP g n false (fromF t c b 5) (fromF t c b 5).toNat := index_w g n false _ _ (by omega) (by omega)
    refine sndL 20 _ _ _ _ _ _ (bits_run t c b (by have := h.b8; omega) g n (fromF t c b 5) (fromF t c b 5).toNat) ?_
    intro p hp
    rcases List.mem_append.1 hp with hp | hp
    · exact bitsProps_all h.lv b (by omega) p hp
    · simp only [List.mem_cons, List.not_mem_nil, or_false] at hp
      rcases hp with rfl | rfl | rfl | rfl
      · exact hix
      · exact hp0
      · exact hix
      · exact part_wk g n _ 2 (by omega) (.inr rfl)
end Go.Proofs.YtaomebcmmjhplaaGreatDoor
