/- The memory of one place: what a Swap does. -/
import Derived.Test.YtfceedfmjhclaaaCh1
namespace Go.Proofs.Ytfceedfmjhclaaa
open Go Go.RowKit Go.Va
set_option maxRecDepth 100000
set_option maxHeartbeats 400000
theorem clip89_holds (cells : List T) (k : Nat) (c : Bool) (hk : cells.length = k * 5) : Holds Try.prog noG 89 [.sl cells k c] [.t (.sl cells k true)] := by
  have h : runX Try.prog noG clones 10 89 [.sl cells k c] [((89, 8), .res (.t (.sl cells k true)))] = some ([.t (.sl cells k true)], [], [sliceC Try.prog (fun _ => none) 135 (.t (.sl cells k c)) none (some k) (some k) = some ⟨.t (.sl cells k true), [], []⟩]) := by kernel_rfl
  refine sndC 10 _ _ _ _ _ _ h (All.cons ?_ All.nil)
  obtain ⟨i, hi, hs⟩ : ∃ i, Try.prog.info? 135 = some i ∧ i.size = 5 := ⟨_, rfl, by kernel_rfl⟩
  unfold sliceC
  simp only [hi, hs]
  have hb : bounds3 k none (some (k : Int)) (some (k : Int)) = some (0, k, some k) := by simp [bounds3]
  rw [hb]
  simp [clipOf, List.take_of_length_le, hk]
theorem room32 (k : Nat) (h : k ≤ 200000) : roomB (k + 1) 32 = true := by
  simp only [roomB, Bool.and_eq_true, decide_eq_true_eq]
  omega
theorem add_holds (pre : List T) (m n : Msg) (k : Nat) (c : Bool) (hpre : pre.length = k * 5) (hk : k ≤ 100000) :
    Holds Try.prog noG 83 [.agg [histT pre m k c], .agg n.l] [.t (.agg [histT (pre ++ m.l) n (k + 1) false])] := by
  have hlen : (pre ++ m.l).length = (k + 1) * 5 := by
    have : m.l.length = 5 := rfl
    simp [hpre, this]; omega
  have h : runX Try.prog noG clones 10 83 [.agg [histT pre m k c], .agg n.l] [((83, 7), .call [.t (.sl (pre ++ m.l) (k + 1) true)]), ((83, 10), .app)] = some ([.t (.agg [histT (pre ++ m.l) n (k + 1) false])], [],
      [Holds Try.prog noG 89 [histT pre m k c] [.t (.sl (pre ++ m.l) (k + 1) true)], true = true, roomB (k + 1 + 1) 32 = true, (pre ++ m.l).length = (k + 1) * 5]) := by
    obtain ⟨v, a, r, th, vw⟩ := n
    cases vw <;> kernel_rfl
  exact sndC 10 _ _ _ _ _ _ h (.cons (clip89_holds _ _ _ hlen) (.cons rfl (.cons (room32 _ (by omega)) (.cons hlen .nil))))
/-- What a Swap lays. -/
def addV (t : Nat) (k : Nat) (w1 w2 w3 : Option Int) : Option Int := withM (getW t w1 w2 w3) ((k + 1 : Nat) : Int)
theorem adds_holds (pre : List T) (m : Msg) (k : Nat) (c c1 c2 : Bool) (hpre : pre.length = k * 5) (hk : k ≤ 100000) (w1 w2 w3 : Option Int) (t : Nat) (ht : t = 1 ∨ t = 2 ∨ t = 3) (v a r : Int) :
    Holds Try.prog noG 74 [memT (histT pre m k c) c1 c2 w1 w2 w3, i64 t, i64 0, .agg [i64 v, u32 a, u32 r], bl true]
      [.t (memW (histT (pre ++ m.l) ⟨v, a, r, t, addV t k w1 w2 w3⟩ (k + 1) false) false false (setW t (addV t k w1 w2 w3) w1 w2 w3))] := by
  have e : ∀ (x y q1 q2 q3 : Option Int), runX Try.prog noG clones 10 74 [memT (histT pre m k c) c1 c2 w1 w2 w3, i64 t, i64 0, .agg [i64 v, u32 a, u32 r], bl true]
      [((74, 23), .call [.t (.agg [vwT x])]), ((74, 27), .call [.t (.agg [vwT y])]), ((74, 51), .call [.t (.agg [histT (pre ++ m.l) ⟨v, a, r, t, y⟩ (k + 1) false])]), ((74, 61), .call [.t (memT (histT (pre ++ m.l) ⟨v, a, r, t, y⟩ (k + 1) false) false false q1 q2 q3)])] =
      some ([.t (memT (histT (pre ++ m.l) ⟨v, a, r, t, y⟩ (k + 1) false) false false q1 q2 q3)], [], [Holds Try.prog noG 80 [memT (histT pre m k c) c1 c2 w1 w2 w3, i64 t] [.t (.agg [vwT x])],
        Holds Try.prog noG 81 [.agg [vwT x], i64 0, i64 (k + 1 : Nat)] [.t (.agg [vwT y])], Holds Try.prog noG 83 [.agg [histT pre m k c], .agg (Msg.l ⟨v, a, r, t, y⟩)] [.t (.agg [histT (pre ++ m.l) ⟨v, a, r, t, y⟩ (k + 1) false])],
        Holds Try.prog noG 84 [memT (histT (pre ++ m.l) ⟨v, a, r, t, y⟩ (k + 1) false) false c2 w1 w2 w3, i64 t, .agg [vwT y]] [.t (memT (histT (pre ++ m.l) ⟨v, a, r, t, y⟩ (k + 1) false) false false q1 q2 q3)]]) := by
    intro x y q1 q2 q3
    cases y <;> kernel_rfl
  exact sndC 10 _ _ _ _ _ _ (e _ _ _ _ _) (.cons (seen_holds _ _ _ w1 w2 w3 t ht) (.cons (with_holds _ _) (.cons (add_holds pre m _ k c hpre hk) (.cons (put_holds _ _ _ w1 w2 w3 _ t ht) .nil))))
end Go.Proofs.Ytfceedfmjhclaaa
