/- The law AdviseWraps: its loops. -/
import Derived.Test.YtfceedfmjhclaaaAd2
namespace Go.Proofs.Ytfceedfmjhclaaa
open Go Go.RowKit Go.Va
set_option maxRecDepth 100000
set_option maxHeartbeats 400000

noncomputable def body3 : Code := (Try.f3.body).getD .skip
def c1 : Code → Code
  | .seq a _ => a
  | c => c
def c2 : Code → Code
  | .seq _ b => b
  | c => c
def inB : Code → Code
  | .block _ b => b
  | c => c
def inL : Code → Code
  | .loop b => b
  | c => c
noncomputable def tail3 : Code := restC 8 body3
noncomputable def loopA : Code := inL (inB (c2 (c1 tail3)))
noncomputable def loopB : Code := inL (inB (c2 (c1 (c2 tail3))))
theorem tail3_eq : tail3 = .seq (.seq (c1 (c1 tail3)) (.block 0 (.loop loopA))) (.seq (.seq (c1 (c1 (c2 tail3))) (.block 2 (.loop loopB))) (c2 (c2 tail3))) := by kernel_rfl

def cellsT : T → List C
  | .agg ts => ts.map .t
  | _ => []
def gT (b : Bool) (cells : List T) (k : Nat) : T := match b with
  | true => .sl cells k false
  | false => .lit (.slice none 0 0)
/-- Before the first loop, and in it. -/
def S1 (lT : T) (L : Int) (X Y : T) (i : Int) : S :=
  ⟨[(2, .t lT), (10, .t (i64 L)), (11, .loc 0 0), (12, .loc 1 0), (13, .t (i64 i))], [some (.cells (cellsT X) false), some (.cells (cellsT Y) false)]⟩
def ks1 : List Nat := [2, 10, 11, 12, 13]
def S0 (lT : T) (L : Int) (X Y : T) : S :=
  ⟨[(2, .t lT), (10, .t (i64 L)), (11, .loc 0 0), (12, .loc 1 0)], [some (.cells (cellsT X) false), some (.cells (cellsT Y) false)]⟩
def S2 (lT : T) (X Y : T) (i : Int) : S :=
  ⟨[(2, .t lT), (11, .loc 0 0), (12, .loc 1 0), (16, .t (i64 i))], [some (.cells (cellsT X) false), some (.cells (cellsT Y) false)]⟩
def ks2 : List Nat := [2, 11, 12, 16]

def tidied (ks : List Nat) (o : Option (Ex × S × Va.Tape × List Prop)) : Option (Ex × S × Va.Tape × List Prop) :=
  match o with
  | some (x, s, tp, ps) => match tidy ks s with
    | some s' => some (x, s', tp, ps)
    | none => none
  | none => none
theorem tidied_some {ks : List Nat} {o : Option (Ex × S × Va.Tape × List Prop)} {x : Ex} {s' : S} {tp : Va.Tape} {ps : List Prop} (h : tidied ks o = some (x, s', tp, ps)) : ∃ s, o = some (x, s, tp, ps) ∧ tidy ks s = some s' := by
  unfold tidied at h
  split at h
  · split at h
    · rename_i s' ht
      cases h
      exact ⟨_, rfl, ht⟩
    · cases h
  · cases h

noncomputable abbrev X3 : Code → S → Va.Tape → Option (Ex × S × Va.Tape × List Prop) := execX Try.prog noG (runX Try.prog noG noF 10) 3 Try.f3.ntmps 10
theorem sndX3 : SndX Try.prog noG (runX Try.prog noG noF 10) := runX_sound mixed noF_snd 10

/-- A round of the first loop. -/
theorem roundA (lT : T) (L i : Int) (x x' y : T) (ay a' : A8) (b : Bool) (cells cells' : List T) (k k' : Nat) :
    tidied ks1 (X3 loopA (S1 lT L (tsk (.ifc 98 x) .zero (gT b cells k)) (tsk (.ifc 104 y) ay (.lit (.slice none 0 0))) i)
      [((3, 62), .b true), ((3, 81), .call [.t (tsk (.ifc 98 x') a' (.sl cells' k' false))]), ((3, 64), .res (.t (i64 (i + 1))))]) =
    some (.normal, S1 lT L (tsk (.ifc 98 x') a' (.sl cells' k' false)) (tsk (.ifc 104 y) ay (.lit (.slice none 0 0))) (i + 1), [],
      [decide (i < L) = true, Holds Try.prog noG 11 [tsk (.ifc 98 x) .zero (gT b cells k), .agg (G4.l ⟨i, 0, 0, true⟩)] [.t (tsk (.ifc 98 x') a' (.sl cells' k' false))], BinIs Try.prog .add 3 (.tmp 63) (.const (.int .i64 1)) (.int .i64 i) (.int .i64 1) (.int .i64 (i + 1))]) := by
  cases b <;> kernel_rfl
theorem lastA (lT : T) (L i : Int) (x y : T) (ax ay : A8) (b : Bool) (cells : List T) (k : Nat) :
    tidied [2, 11, 12] (X3 loopA (S1 lT L (tsk (.ifc 98 x) ax (gT b cells k)) (tsk (.ifc 104 y) ay (.lit (.slice none 0 0))) i) [((3, 62), .b false)]) =
    some (.exit 0, ⟨[(2, .t lT), (11, .loc 0 0), (12, .loc 1 0)], [some (.cells (cellsT (tsk (.ifc 98 x) ax (gT b cells k))) false), some (.cells (cellsT (tsk (.ifc 104 y) ay (.lit (.slice none 0 0)))) false)]⟩, [], [decide (i < L) = false]) := by
  cases b <;> kernel_rfl

theorem bin_add (x y : Operand) (i : Int) (h0 : 0 ≤ i) (h1 : i < 1000000) : BinIs Try.prog .add 3 x y (.int .i64 i) (.int .i64 1) (.int .i64 (i + 1)) := by
  have h : BinIs Try.prog .add 3 x y (.int .i64 i) (.int .i64 1) (.int .i64 (w64 (i + 1))) := by unfold BinIs; kernel_rfl
  rw [w64_id _ (by omega) (by omega)] at h
  exact h

def GOk (b : Bool) (cells : List T) (k : Nat) : Prop := (b = true ∧ cells.length = k * 4) ∨ (b = false ∧ cells = [] ∧ k = 0)
theorem give_g (t : Nat) (f : FuncId) (htf : (t = 104 ∧ f = 110) ∨ (t = 98 ∧ f = 109)) (x : T) (a : A8) (g : G4) {b : Bool} {cells : List T} {k : Nat} (hg : GOk b cells k) (hm : k ≤ 1000) (t' : Nat) (x' : T) (a' : A8) (d : Bool)
    (hn : Holds Try.prog noG f [x, .agg g.l] [.t (.ifc t' x'), .t (.agg a'.l), .t (bl d)]) :
    Holds Try.prog noG 11 [tsk (.ifc t x) a (gT b cells k), .agg g.l] [.t (told (.ifc t' x') a' d (.sl (cells ++ g.l) (k + 1) false))] := by
  rcases hg with ⟨rfl, hk⟩ | ⟨rfl, rfl, rfl⟩
  · exact give_sl t f htf x a g cells k false hk hm t' x' a' d hn
  · exact give_nil t f htf x a g t' x' a' d hn
theorem GOk.next {b : Bool} {cells : List T} {k : Nat} (h : GOk b cells k) (g : G4) : GOk true (cells ++ g.l) (k + 1) := by
  refine .inl ⟨rfl, ?_⟩
  rcases h with ⟨_, h⟩ | ⟨_, rfl, rfl⟩
  · simp [h, G4.l]; omega
  · simp [G4.l]

/-- The code of the law, before its first act and behind it. -/
def cA (n : Int) : AC := ⟨n, 0, 0, false, false, false⟩
def cB (n : Int) : AC := ⟨n, 0, 0, true, false, false⟩
/-- The wrapped task where m rests are still to come. -/
def Xm (n : Int) (b : Bool) (cells : List T) (k : Nat) : Nat → T
  | 0 => tsk (.ifc 98 (wr (cB n).c 0 true)) .look (gT b cells k)
  | m + 1 => tsk (.ifc 98 (wr (cA n).c m false)) .zero (gT b cells k)
def Y0 (n : Int) : T := tsk (cB n).c .look (.lit (.slice none 0 0))

theorem give_Xm (n : Int) {b : Bool} {cells : List T} {k : Nat} (hg : GOk b cells k) (hk : k ≤ 1000) (m : Nat) (hm : m ≤ 64) (g : G4) :
    Holds Try.prog noG 11 [Xm n b cells k (m + 1), .agg g.l] [.t (Xm n true (cells ++ g.l) (k + 1) m)] := by
  cases m with
  | zero => exact give_g 98 109 (.inr ⟨rfl, rfl⟩) _ .zero g hg hk 98 _ .look false (next_first (cA n) g)
  | succ m =>
    have h := next_rest 104 (cA n).t ((m + 1 : Nat) : Int) g false (by omega) (by omega)
    have e : ((m + 1 : Nat) : Int) - 1 = (m : Nat) := by omega
    rw [e] at h
    exact give_g 98 109 (.inr ⟨rfl, rfl⟩) _ .zero g hg hk 98 _ .zero false h

theorem loopA_rounds (lT : T) (n : Int) (L : Nat) (hL : L ≤ 64) : ∀ (m i : Nat) (b : Bool) (cells : List T), i + m = L → GOk b cells i →
    ∃ s' b' cells', Rounds Try.prog noG Try.f3.ntmps loopA ks1 (S1 lT L (Xm n b cells i m) (Y0 n) i) (.exit 0) s' ∧ GOk b' cells' L ∧
      tidy [2, 11, 12] s' = some ⟨[(2, .t lT), (11, .loc 0 0), (12, .loc 1 0)], [some (.cells (cellsT (Xm n b' cells' L 0)) false), some (.cells (cellsT (Y0 n)) false)]⟩
  | 0, i, b, cells, he, hg => by
    obtain ⟨s, h1, h2⟩ := tidied_some (lastA lT L i (wr (cB n).c 0 true) (cB n).t .look .look b cells i)
    have hi : i = L := by omega
    subst hi
    exact ⟨s, b, cells, .out (by simp) (execX_sound mixed sndX3 3 10 _ _ _ _ _ _ _ h1 (.cons (by simp) .nil)), hg, h2⟩
  | m + 1, i, b, cells, he, hg => by
    obtain ⟨s', b', cells', h1, h2, h3⟩ := loopA_rounds lT n L hL m (i + 1) true (cells ++ (G4.l ⟨i, 0, 0, true⟩)) (by omega) (hg.next _)
    refine ⟨s', b', cells', ?_, h2, h3⟩
    have hgive := give_Xm n hg (by omega) m (by omega) ⟨i, 0, 0, true⟩
    have hX : ∃ x' a', Xm n true (cells ++ (G4.l ⟨i, 0, 0, true⟩)) (i + 1) m = tsk (.ifc 98 x') a' (.sl (cells ++ (G4.l ⟨i, 0, 0, true⟩)) (i + 1) false) := by
      cases m <;> exact ⟨_, _, rfl⟩
    obtain ⟨x', a', hX⟩ := hX
    rw [hX] at hgive h1
    obtain ⟨s, g1, g2⟩ := tidied_some (roundA lT L i (wr (cA n).c m false) x' (cB n).t .look a' b cells (cells ++ (G4.l ⟨i, 0, 0, true⟩)) i (i + 1))
    refine .round (execX_sound mixed sndX3 3 10 _ _ _ _ _ _ _ g1 (.cons ?_ (.cons hgive (.cons (bin_add _ _ _ (by omega) (by omega)) .nil)))) g2 ?_
    · simp; omega
    · have e : ((i + 1 : Nat) : Int) = (i : Int) + 1 := by omega
      rw [e] at h1
      exact h1
end Go.Proofs.Ytfceedfmjhclaaa
