/- The lines of one place; what the machine does at an act. -/
import Derived.Test.YtfceedfmjhclaaaCh3
namespace Go.Proofs.Ytfceedfmjhclaaa
open Go Go.RowKit Go.Va
set_option maxRecDepth 100000
set_option maxHeartbeats 400000
def linesT (fw : List T) (cf c : Bool) (b : Bool) (cells : List T) (k : Nat) (kept : Int) : T := .agg [.sl fw 1 cf, .sl [gT b cells k, i64 kept] 1 c, .lit (.map none)]
def SOk (b : Bool) (cells : List T) (k : Nat) : Prop := (b = true ∧ cells.length = k * 4 ∧ k ≤ 100000) ∨ (b = false ∧ cells = [] ∧ k = 0)
theorem clip76_holds (cells : List T) (k : Nat) (c : Bool) (hk : cells.length = k * 4) : Holds Try.prog noG 76 [.sl cells k c] [.t (.sl cells k true)] := by
  have h : runX Try.prog noG clones 10 76 [.sl cells k c] [((76, 8), .res (.t (.sl cells k true)))] = some ([.t (.sl cells k true)], [], [sliceC Try.prog (fun _ => none) 156 (.t (.sl cells k c)) none (some k) (some k) = some ⟨.t (.sl cells k true), [], []⟩]) := by kernel_rfl
  refine sndC 10 _ _ _ _ _ _ h (All.cons ?_ All.nil)
  obtain ⟨i, hi, hs⟩ : ∃ i, Try.prog.info? 156 = some i ∧ i.size = 4 := ⟨_, rfl, by kernel_rfl⟩
  unfold sliceC
  simp only [hi, hs]
  have hb : bounds3 k none (some (k : Int)) (some (k : Int)) = some (0, k, some k) := by simp [bounds3]
  rw [hb]
  simp [clipOf, List.take_of_length_le, hk]
theorem room24 (k : Nat) (h : k ≤ 100000) : roomB (k + 1) 24 = true := by
  simp only [roomB, Bool.and_eq_true, decide_eq_true_eq]
  omega
theorem store_holds (fw : List T) (cf c b : Bool) (cells : List T) (k : Nat) (kept : Int) (hg : SOk b cells k) (v a r : Int) :
    Holds Try.prog noG 66 [linesT fw cf c b cells k kept, i64 0, wT v a r] [.t (linesT fw cf false true (cells ++ [i64 0, i64 v, u32 a, u32 r]) (k + 1) kept), .t (i64 0)] := by
  rcases hg with ⟨rfl, hk, hm⟩ | ⟨rfl, rfl, rfl⟩
  · have h : runX Try.prog noG clones 10 66 [linesT fw cf c true cells k kept, i64 0, wT v a r] [((66, 28), .call [.t (.sl cells k true)]), ((66, 33), .app)] =
        some ([.t (linesT fw cf false true (cells ++ [i64 0, i64 v, u32 a, u32 r]) (k + 1) kept), .t (i64 0)], [], [Holds Try.prog noG 76 [.sl cells k false] [.t (.sl cells k true)], true = true, roomB (k + 1) 24 = true, cells.length = k * 4]) := by kernel_rfl
    exact sndC 10 _ _ _ _ _ _ h (.cons (clip76_holds _ _ _ hk) (.cons rfl (.cons (room24 k hm) (.cons hk .nil))))
  · have h : runX Try.prog noG clones 10 66 [linesT fw cf c false [] 0 kept, i64 0, wT v a r] [] = some ([.t (linesT fw cf false true [i64 0, i64 v, u32 a, u32 r] 1 kept), .t (i64 0)], [], []) := by kernel_rfl
    exact sndC 10 _ _ _ _ _ _ h .nil
end Go.Proofs.Ytfceedfmjhclaaa
