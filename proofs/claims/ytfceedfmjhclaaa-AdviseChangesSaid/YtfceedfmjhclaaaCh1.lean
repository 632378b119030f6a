/- The memory of one place: views, histories, what a Look does. -/
import Derived.Test.YtfceedfmjhclaaaAd4
namespace Go.Proofs.Ytfceedfmjhclaaa
open Go Go.RowKit Go.Va
set_option maxRecDepth 100000
set_option maxHeartbeats 400000
/-- A view of a memory of one place. -/
def vwT : Option Int → T
  | none => .lit (.map none)
  | some i => .mp [.int .i64 0] [i64 i]
def withM (w : Option Int) (n : Int) : Option Int := if n ≤ w.getD 0 then w else some n
def joinM : Option Int → Option Int → Option Int
  | a, none => a
  | none, some m => some m
  | some n, some m => some (if n > m then n else m)
theorem sndC (n : Nat) : SndX Try.prog noG (runX Try.prog noG clones n) := runX_sound mixed clones_snd n
theorem with_holds (w : Option Int) (n : Int) : Holds Try.prog noG 81 [.agg [vwT w], i64 0, i64 n] [.t (.agg [vwT (withM w n)])] := by
  cases hd : decide (n ≤ w.getD 0)
  · have hw : withM w n = some n := by unfold withM; rw [if_neg (by simpa using hd)]
    rw [hw]
    have h : runX Try.prog noG clones 10 81 [.agg [vwT w], i64 0, i64 n] [((81, 21), .b false)] = some ([.t (.agg [vwT (some n)])], [], [decide (n ≤ w.getD 0) = false]) := by cases w <;> kernel_rfl
    exact sndC 10 _ _ _ _ _ _ h (.cons hd .nil)
  · have hw : withM w n = w := by unfold withM; rw [if_pos (by simpa using hd)]
    rw [hw]
    have h : runX Try.prog noG clones 10 81 [.agg [vwT w], i64 0, i64 n] [((81, 21), .b true)] = some ([.t (.agg [vwT w])], [], [decide (n ≤ w.getD 0) = true]) := by cases w <;> kernel_rfl
    exact sndC 10 _ _ _ _ _ _ h (.cons hd .nil)
theorem join_holds (a b : Option Int) : Holds Try.prog noG 90 [.agg [vwT a], .agg [vwT b]] [.t (.agg [vwT (joinM a b)])] := by
  have h : runX Try.prog noG clones 10 90 [.agg [vwT a], .agg [vwT b]] [] = some ([.t (.agg [vwT (joinM a b)])], [], []) := by cases a <;> cases b <;> kernel_rfl
  exact sndC 10 _ _ _ _ _ _ h .nil

/-- A message: its word, its author, its view. -/
structure Msg where
  v : Int
  a : Int
  r : Int
  th : Int
  vw : Option Int
def Msg.l (m : Msg) : List T := [i64 m.v, u32 m.a, u32 m.r, i64 m.th, vwT m.vw]
def Msg.w (m : Msg) : List T := [i64 m.v, u32 m.a, u32 m.r]
/-- A history of k + 1 messages, the last of them shown. -/
def histT (pre : List T) (m : Msg) (k : Nat) (c : Bool) : T := .sl (pre ++ m.l) (k + 1) c
def memT (h : T) (c1 c2 : Bool) (w1 w2 w3 : Option Int) : T := .agg [.sl [h] 1 c1, .sl [vwT w1, vwT w2, vwT w3] 3 c2]
def lastP (pre : List T) (m : Msg) (k : Nat) : C := .t (.ptr (pre ++ m.l) (k * 5))
theorem at_holds (pre : List T) (m : Msg) (k : Nat) (c : Bool) (hpre : pre.length = k * 5) (hk : k ≤ 100000) : Holds Try.prog noG 63 [.agg [histT pre m k c], i64 k] [.t (.agg m.l), .t (bl true)] := by
  have h : runX Try.prog noG clones 10 63 [.agg [histT pre m k c], i64 k] [((63, 7), .res (.t (bl false))), ((63, 13), .res (.t (bl false))), ((63, 19), .res (lastP pre m k)), ((63, 20), .res (.agg (m.l.map .t)))] =
      some ([.t (.agg m.l), .t (bl true)], [], [BinIs Try.prog .lss 3 (.tmp 6) (.const (.int .i64 0)) (.int .i64 k) (.int .i64 0) (.bool false), BinIs Try.prog .geq 3 (.tmp 9) (.tmp 12) (.int .i64 k) (.int .i64 (k + 1 : Nat)) (.bool false),
        indexAddrC Try.prog 120 (.t (histT pre m k c)) k = some ⟨lastP pre m k, [], []⟩, partC Try.prog 135 ((pre ++ m.l).map .t) (k * 5) = some (.agg (m.l.map .t))]) := by
    obtain ⟨v, a, r, th, vw⟩ := m
    cases vw <;> kernel_rfl
  refine sndC 10 _ _ _ _ _ _ h (.cons ?_ (.cons ?_ (.cons ?_ (.cons ?_ .nil))))
  · have : BinIs Try.prog .lss 3 (.tmp 6) (.const (.int .i64 0)) (.int .i64 k) (.int .i64 0) (.bool (decide ((k : Int) < 0))) := by unfold BinIs; kernel_rfl
    rwa [show decide ((k : Int) < 0) = false by simp] at this
  · have : BinIs Try.prog .geq 3 (.tmp 9) (.tmp 12) (.int .i64 k) (.int .i64 (k + 1 : Nat)) (.bool (decide ((k : Int) ≥ ((k + 1 : Nat) : Int)))) := by unfold BinIs; kernel_rfl
    rwa [show decide ((k : Int) ≥ ((k + 1 : Nat) : Int)) = false by simp; omega] at this
  · have hu : Try.prog.underlying 120 = some (.slice 135) := by kernel_rfl
    obtain ⟨ii, hi, hs⟩ : ∃ ii, Try.prog.info? 135 = some ii ∧ ii.size = 5 := ⟨_, rfl, by kernel_rfl⟩
    unfold indexAddrC histT
    simp only [hu, hi, hs]
    rw [if_pos ⟨by omega, by omega⟩]
    simp [lastP]
  · obtain ⟨d, ii, hd, hi, ha, hs⟩ : ∃ d ii, Try.prog.underlying 135 = some d ∧ Try.prog.info? 135 = some ii ∧ isAggB d = true ∧ ii.size = 5 := ⟨_, _, rfl, rfl, by kernel_rfl, by kernel_rfl⟩
    unfold partC
    simp only [hd, hi, ha, if_true, hs]
    have hl : m.l.length = 5 := rfl
    rw [if_pos (by simp [hpre, hl]), List.map_append, ← hpre, show pre.length = (pre.map C.t).length by simp, List.drop_left, List.take_of_length_le (by simp [hl])]
def setW (t : Nat) (x w1 w2 w3 : Option Int) : Option Int × Option Int × Option Int := match t with
  | 1 => (x, w2, w3)
  | 2 => (w1, x, w3)
  | _ => (w1, w2, x)
def getW (t : Nat) (w1 w2 w3 : Option Int) : Option Int := match t with
  | 1 => w1
  | 2 => w2
  | _ => w3
theorem bin_sub (x y : Operand) (k : Nat) (hk : k ≤ 100000) : BinIs Try.prog .sub 3 x y (.int .i64 (k + 1 : Nat)) (.int .i64 1) (.int .i64 k) := by
  have h : BinIs Try.prog .sub 3 x y (.int .i64 (k + 1 : Nat)) (.int .i64 1) (.int .i64 (w64 (((k + 1 : Nat) : Int) - 1))) := by unfold BinIs; kernel_rfl
  have e : ((k + 1 : Nat) : Int) - 1 = k := by omega
  rw [e, w64_id _ (by omega) (by omega)] at h
  exact h
def memW (h : T) (c1 c2 : Bool) (w : Option Int × Option Int × Option Int) : T := memT h c1 c2 w.1 w.2.1 w.2.2
theorem seen_holds (h : T) (c1 c2 : Bool) (w1 w2 w3 : Option Int) (t : Nat) (ht : t = 1 ∨ t = 2 ∨ t = 3) : Holds Try.prog noG 80 [memT h c1 c2 w1 w2 w3, i64 t] [.t (.agg [vwT (getW t w1 w2 w3)])] := by
  rcases ht with rfl | rfl | rfl
  · have e : runX Try.prog noG clones 10 80 [memT h c1 c2 w1 w2 w3, i64 (1 : Nat)] [] = some ([.t (.agg [vwT w1])], [], []) := by cases w1 <;> kernel_rfl
    exact sndC 10 _ _ _ _ _ _ e .nil
  · have e : runX Try.prog noG clones 10 80 [memT h c1 c2 w1 w2 w3, i64 (2 : Nat)] [] = some ([.t (.agg [vwT w2])], [], []) := by cases w2 <;> kernel_rfl
    exact sndC 10 _ _ _ _ _ _ e .nil
  · have e : runX Try.prog noG clones 10 80 [memT h c1 c2 w1 w2 w3, i64 (3 : Nat)] [] = some ([.t (.agg [vwT w3])], [], []) := by cases w3 <;> kernel_rfl
    exact sndC 10 _ _ _ _ _ _ e .nil
theorem put_holds (h : T) (c1 c2 : Bool) (w1 w2 w3 y : Option Int) (t : Nat) (ht : t = 1 ∨ t = 2 ∨ t = 3) : Holds Try.prog noG 84 [memT h c1 c2 w1 w2 w3, i64 t, .agg [vwT y]] [.t (memW h c1 false (setW t y w1 w2 w3))] := by
  rcases ht with rfl | rfl | rfl
  · have e : runX Try.prog noG clones 10 84 [memT h c1 c2 w1 w2 w3, i64 (1 : Nat), .agg [vwT y]] [] = some ([.t (memT h c1 false y w2 w3)], [], []) := by cases y <;> kernel_rfl
    exact sndC 10 _ _ _ _ _ _ e .nil
  · have e : runX Try.prog noG clones 10 84 [memT h c1 c2 w1 w2 w3, i64 (2 : Nat), .agg [vwT y]] [] = some ([.t (memT h c1 false w1 y w3)], [], []) := by cases y <;> kernel_rfl
    exact sndC 10 _ _ _ _ _ _ e .nil
  · have e : runX Try.prog noG clones 10 84 [memT h c1 c2 w1 w2 w3, i64 (3 : Nat), .agg [vwT y]] [] = some ([.t (memT h c1 false w1 w2 y)], [], []) := by cases y <;> kernel_rfl
    exact sndC 10 _ _ _ _ _ _ e .nil
/-- Look: the newest word; the reader's view grows. -/
def lookV (t : Nat) (m : Msg) (k : Nat) (w1 w2 w3 : Option Int) : Option Int := joinM (withM (getW t w1 w2 w3) k) m.vw
theorem finds_holds (pre : List T) (m : Msg) (k : Nat) (c c1 c2 : Bool) (hpre : pre.length = k * 5) (hk : k ≤ 100000) (w1 w2 w3 : Option Int) (t : Nat) (ht : t = 1 ∨ t = 2 ∨ t = 3) :
    Holds Try.prog noG 86 [memT (histT pre m k c) c1 c2 w1 w2 w3, i64 t, i64 0, i64 k, bl true] [.t (memW (histT pre m k c) c1 false (setW t (lookV t m k w1 w2 w3) w1 w2 w3)), .t (.agg m.w)] := by
  have e : ∀ (x y1 y2 q1 q2 q3 : Option Int), runX Try.prog noG clones 10 86 [memT (histT pre m k c) c1 c2 w1 w2 w3, i64 t, i64 0, i64 k, bl true]
      [((86, 22), .call [.t (.agg m.l), .t (bl true)]), ((86, 27), .call [.t (.agg [vwT x])]), ((86, 30), .call [.t (.agg [vwT y1])]), ((86, 35), .call [.t (.agg [vwT y2])]), ((86, 39), .call [.t (memT (histT pre m k c) c1 false q1 q2 q3)])] =
      some ([.t (memT (histT pre m k c) c1 false q1 q2 q3), .t (.agg m.w)], [], [Holds Try.prog noG 63 [.agg [histT pre m k c], i64 k] [.t (.agg m.l), .t (bl true)], Holds Try.prog noG 80 [memT (histT pre m k c) c1 c2 w1 w2 w3, i64 t] [.t (.agg [vwT x])],
        Holds Try.prog noG 81 [.agg [vwT x], i64 0, i64 k] [.t (.agg [vwT y1])], Holds Try.prog noG 90 [.agg [vwT y1], .agg [vwT m.vw]] [.t (.agg [vwT y2])],
        Holds Try.prog noG 84 [memT (histT pre m k c) c1 c2 w1 w2 w3, i64 t, .agg [vwT y2]] [.t (memT (histT pre m k c) c1 false q1 q2 q3)]]) := by
    obtain ⟨v, a, r, th, vw⟩ := m
    intro x y1 y2 q1 q2 q3
    cases vw <;> cases y1 <;> cases y2 <;> kernel_rfl
  exact sndC 10 _ _ _ _ _ _ (e _ _ _ _ _ _) (.cons (at_holds pre m k c hpre hk) (.cons (seen_holds _ _ _ w1 w2 w3 t ht) (.cons (with_holds _ _) (.cons (join_holds _ _) (.cons (put_holds _ _ _ w1 w2 w3 _ t ht) .nil)))))
theorem look_holds (pre : List T) (m : Msg) (k : Nat) (c c1 c2 : Bool) (hpre : pre.length = k * 5) (hk : k ≤ 100000) (w1 w2 w3 : Option Int) (t : Nat) (ht : t = 1 ∨ t = 2 ∨ t = 3) :
    Holds Try.prog noG 72 [memT (histT pre m k c) c1 c2 w1 w2 w3, i64 t, i64 0] [.t (memW (histT pre m k c) c1 false (setW t (lookV t m k w1 w2 w3) w1 w2 w3)), .t (.agg m.w), .t (i64 0)] := by
  have e : ∀ (x q1 q2 q3 : Option Int), runX Try.prog noG clones 10 72 [memT (histT pre m k c) c1 c2 w1 w2 w3, i64 t, i64 0]
      [((77, 37), .call [.t (.agg [vwT x])]), ((78, 9), .res (.t (i64 k))), ((77, 42), .call [.t (memT (histT pre m k c) c1 false q1 q2 q3), .t (.agg m.w)])] =
      some ([.t (memT (histT pre m k c) c1 false q1 q2 q3), .t (.agg m.w), .t (i64 0)], [], [Holds Try.prog noG 80 [memT (histT pre m k c) c1 c2 w1 w2 w3, i64 t] [.t (.agg [vwT x])],
        BinIs Try.prog .sub 3 (.tmp 8) (.const (.int .i64 1)) (.int .i64 (k + 1 : Nat)) (.int .i64 1) (.int .i64 k), Holds Try.prog noG 86 [memT (histT pre m k c) c1 c2 w1 w2 w3, i64 t, i64 0, i64 k, bl true] [.t (memT (histT pre m k c) c1 false q1 q2 q3), .t (.agg m.w)]]) := by
    intro x q1 q2 q3
    rcases ht with rfl | rfl | rfl <;> cases x <;> kernel_rfl
  exact sndC 10 _ _ _ _ _ _ (e _ _ _ _) (.cons (seen_holds _ _ _ w1 w2 w3 t ht) (.cons (bin_sub _ _ k hk) (.cons (finds_holds pre m k c c1 c2 hpre hk w1 w2 w3 t ht) .nil)))
end Go.Proofs.Ytfceedfmjhclaaa
