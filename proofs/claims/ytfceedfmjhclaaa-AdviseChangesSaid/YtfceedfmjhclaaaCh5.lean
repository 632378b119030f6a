/- What the machine does at an act of place 0. -/
import Derived.Test.YtfceedfmjhclaaaCh4
namespace Go.Proofs.Ytfceedfmjhclaaa
open Go Go.RowKit Go.Va
set_option maxRecDepth 100000
set_option maxHeartbeats 400000
/-- A machine of one place and three threads. -/
structure MR where
  h : T
  c1 : Bool
  c2 : Bool
  w1 : Option Int
  w2 : Option Int
  w3 : Option Int
  fw : List T
  cf : Bool
  cl : Bool
  cells : List T
  k : Nat
  kept : Int
def machT (q : MR) (b : Bool) (s1 s2 s3 cr : Int) (cs : Bool) : T :=
  .agg [.sl [q.h] 1 q.c1, .sl [vwT q.w1, vwT q.w2, vwT q.w3] 3 q.c2, .sl q.fw 1 q.cf, .sl [gT b q.cells q.k, i64 q.kept] 1 q.cl, .lit (.map none), .sl [i64 s1, i64 s2, i64 s3] 3 cs, i64 cr]
def bump (t j : Nat) (s : Int) : Int := if t = j then w64 (s + 1) else s
theorem do_rest (q : MR) (b : Bool) (s1 s2 s3 cr : Int) (cs : Bool) (t : Nat) (ht : t = 1 ∨ t = 2 ∨ t = 3) :
    Holds Try.prog noG 47 [machT q b s1 s2 s3 cr cs, i64 t, .agg A8.zero.l, i64 0] [.t (machT q b (bump t 1 s1) (bump t 2 s2) (bump t 3 s3) cr false), .t (.agg (G4.l ⟨0, 0, 0, true⟩)), .t (i64 0)] := by
  have h : runX Try.prog noG clones 20 47 [machT q b s1 s2 s3 cr cs, i64 t, .agg A8.zero.l, i64 0] [] = some ([.t (machT q b (bump t 1 s1) (bump t 2 s2) (bump t 3 s3) cr false), .t (.agg (G4.l ⟨0, 0, 0, true⟩)), .t (i64 0)], [], []) := by
    rcases ht with rfl | rfl | rfl <;> cases b <;> kernel_rfl
  exact sndC 20 _ _ _ _ _ _ h .nil
def memQ (q : MR) : T := memT q.h q.c1 q.c2 q.w1 q.w2 q.w3
theorem do_look (q : MR) (b : Bool) (s1 s2 s3 cr : Int) (cs : Bool) (t : Nat) (ht : t = 1 ∨ t = 2 ∨ t = 3) (h' : T) (c1' c2' : Bool) (u1 u2 u3 : Option Int) (v a r : Int)
    (hl : Holds Try.prog noG 72 [memQ q, i64 t, i64 0] [.t (memT h' c1' c2' u1 u2 u3), .t (wT v a r), .t (i64 0)]) :
    Holds Try.prog noG 47 [machT q b s1 s2 s3 cr cs, i64 t, .agg A8.look.l, i64 0]
      [.t (machT { q with h := h', c1 := c1', c2 := c2', w1 := u1, w2 := u2, w3 := u3 } b (bump t 1 s1) (bump t 2 s2) (bump t 3 s3) cr false), .t (.agg (G4.l ⟨v, a, r, true⟩)), .t (i64 0)] := by
  have h : runX Try.prog noG clones 20 47 [machT q b s1 s2 s3 cr cs, i64 t, .agg A8.look.l, i64 0] [((61, 20), .call [.t (memT h' c1' c2' u1 u2 u3), .t (wT v a r), .t (i64 0)])] =
      some ([.t (machT { q with h := h', c1 := c1', c2 := c2', w1 := u1, w2 := u2, w3 := u3 } b (bump t 1 s1) (bump t 2 s2) (bump t 3 s3) cr false), .t (.agg (G4.l ⟨v, a, r, true⟩)), .t (i64 0)], [],
        [Holds Try.prog noG 72 [memQ q, i64 t, i64 0] [.t (memT h' c1' c2' u1 u2 u3), .t (wT v a r), .t (i64 0)]]) := by
    rcases ht with rfl | rfl | rfl <;> cases b <;> kernel_rfl
  exact sndC 20 _ _ _ _ _ _ h (.cons hl .nil)
theorem do_swap0 (q : MR) (b : Bool) (s1 s2 s3 cr : Int) (cs : Bool) (t : Nat) (ht : t = 1 ∨ t = 2 ∨ t = 3) (h' : T) (c1' c2' : Bool) (u1 u2 u3 : Option Int) (v a r ov oa or' nv na nr : Int)
    (hl : Holds Try.prog noG 64 [memQ q, i64 t, i64 0, wT ov oa or', wT nv na nr] [.t (memT h' c1' c2' u1 u2 u3), .t (wT v a r), .t (bl false), .t (i64 0)]) :
    Holds Try.prog noG 47 [machT q b s1 s2 s3 cr cs, i64 t, .agg (A8.l ⟨6, 0, ov, oa, or', nv, na, nr⟩), i64 0]
      [.t (machT { q with h := h', c1 := c1', c2 := c2', w1 := u1, w2 := u2, w3 := u3 } b (bump t 1 s1) (bump t 2 s2) (bump t 3 s3) cr false), .t (.agg (G4.l ⟨v, a, r, false⟩)), .t (i64 0)] := by
  have h : runX Try.prog noG clones 20 47 [machT q b s1 s2 s3 cr cs, i64 t, .agg (A8.l ⟨6, 0, ov, oa, or', nv, na, nr⟩), i64 0] [((58, 23), .call [.t (memT h' c1' c2' u1 u2 u3), .t (wT v a r), .t (bl false), .t (i64 0)])] =
      some ([.t (machT { q with h := h', c1 := c1', c2 := c2', w1 := u1, w2 := u2, w3 := u3 } b (bump t 1 s1) (bump t 2 s2) (bump t 3 s3) cr false), .t (.agg (G4.l ⟨v, a, r, false⟩)), .t (i64 0)], [],
        [Holds Try.prog noG 64 [memQ q, i64 t, i64 0, wT ov oa or', wT nv na nr] [.t (memT h' c1' c2' u1 u2 u3), .t (wT v a r), .t (bl false), .t (i64 0)]]) := by
    rcases ht with rfl | rfl | rfl <;> cases b <;> kernel_rfl
  exact sndC 20 _ _ _ _ _ _ h (.cons hl .nil)
theorem do_swap1 (q : MR) (b : Bool) (s1 s2 s3 cr : Int) (cs : Bool) (t : Nat) (ht : t = 1 ∨ t = 2 ∨ t = 3) (h' : T) (c1' c2' : Bool) (u1 u2 u3 : Option Int) (v a r ov oa or' nv na nr : Int) (hg : SOk b q.cells q.k)
    (hl : Holds Try.prog noG 64 [memQ q, i64 t, i64 0, wT ov oa or', wT nv na nr] [.t (memT h' c1' c2' u1 u2 u3), .t (wT v a r), .t (bl true), .t (i64 0)]) :
    Holds Try.prog noG 47 [machT q b s1 s2 s3 cr cs, i64 t, .agg (A8.l ⟨6, 0, ov, oa, or', nv, na, nr⟩), i64 0]
      [.t (machT { q with h := h', c1 := c1', c2 := c2', w1 := u1, w2 := u2, w3 := u3, cl := false, cells := q.cells ++ [i64 0, i64 nv, u32 na, u32 nr], k := q.k + 1 } true (bump t 1 s1) (bump t 2 s2) (bump t 3 s3) cr false), .t (.agg (G4.l ⟨v, a, r, true⟩)), .t (i64 0)] := by
  have h : runX Try.prog noG clones 20 47 [machT q b s1 s2 s3 cr cs, i64 t, .agg (A8.l ⟨6, 0, ov, oa, or', nv, na, nr⟩), i64 0]
      [((58, 23), .call [.t (memT h' c1' c2' u1 u2 u3), .t (wT v a r), .t (bl true), .t (i64 0)]), ((58, 55), .call [.t (linesT q.fw q.cf false true (q.cells ++ [i64 0, i64 nv, u32 na, u32 nr]) (q.k + 1) q.kept), .t (i64 0)])] =
      some ([.t (machT { q with h := h', c1 := c1', c2 := c2', w1 := u1, w2 := u2, w3 := u3, cl := false, cells := q.cells ++ [i64 0, i64 nv, u32 na, u32 nr], k := q.k + 1 } true (bump t 1 s1) (bump t 2 s2) (bump t 3 s3) cr false), .t (.agg (G4.l ⟨v, a, r, true⟩)), .t (i64 0)], [],
        [Holds Try.prog noG 64 [memQ q, i64 t, i64 0, wT ov oa or', wT nv na nr] [.t (memT h' c1' c2' u1 u2 u3), .t (wT v a r), .t (bl true), .t (i64 0)],
          Holds Try.prog noG 66 [linesT q.fw q.cf q.cl b q.cells q.k q.kept, i64 0, wT nv na nr] [.t (linesT q.fw q.cf false true (q.cells ++ [i64 0, i64 nv, u32 na, u32 nr]) (q.k + 1) q.kept), .t (i64 0)]]) := by
    rcases ht with rfl | rfl | rfl <;> cases b <;> kernel_rfl
  exact sndC 20 _ _ _ _ _ _ h (.cons hl (.cons (store_holds _ _ _ _ _ _ _ hg _ _ _) .nil))
end Go.Proofs.Ytfceedfmjhclaaa
