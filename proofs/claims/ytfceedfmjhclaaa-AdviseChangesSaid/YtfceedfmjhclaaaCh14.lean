/- The law AdviseChanges: what a machine, a task and a wrapped task are while the picks run. -/
import Derived.Test.YtfceedfmjhclaaaCh13
namespace Go.Proofs.Ytfceedfmjhclaaa
open Go Go.RowKit Go.Va
set_option maxRecDepth 100000
set_option maxHeartbeats 400000
/-- A machine behind at most j picks. -/
def MOk (j : Nat) (q : MR) (b : Bool) : Prop := ∃ pre m k c, q.h = histT pre m k c ∧ pre.length = k * 5 ∧ k ≤ j ∧ SOk b q.cells q.k ∧ q.k ≤ j
theorem MOk.mono {j j' : Nat} {q : MR} {b : Bool} (h : MOk j q b) (hj : j ≤ j') : MOk j' q b := by
  obtain ⟨pre, m, k, c, h1, h2, h3, h4, h5⟩ := h
  exact ⟨pre, m, k, c, h1, h2, by omega, h4, by omega⟩
theorem MOk.zero : MOk 0 m0 false := ⟨[], ⟨0, 0, 0, 0, none⟩, 0, false, rfl, rfl, by omega, .inr ⟨rfl, rfl, rfl⟩, Nat.le_refl _⟩
theorem SOk.next {b : Bool} {cells : List T} {k : Nat} (h : SOk b cells k) (hk : k ≤ 1000) (v a r : Int) : SOk true (cells ++ [i64 0, i64 v, u32 a, u32 r]) (k + 1) := by
  refine .inl ⟨rfl, ?_, by omega⟩
  rcases h with ⟨_, h, _⟩ | ⟨_, rfl, rfl⟩
  · simp [h]; omega
  · simp
/-- The acts of a code of this law. -/
def AOk (a : A8) : Prop := a = .look ∨ ∃ ov oa or' nv na nr, a = ⟨6, 0, ov, oa, or', nv, na, nr⟩
theorem do_any {j : Nat} {q : MR} {b : Bool} (h : MOk j q b) (hj : j ≤ 1000) {a : A8} (ha : AOk a) (t : Nat) (ht : t = 1 ∨ t = 2 ∨ t = 3) :
    ∃ q' b' g, MOk (j + 1) q' b' ∧ ∀ (s1 s2 s3 cr : Int) (cs : Bool), Holds Try.prog noG 47 [machT q b s1 s2 s3 cr cs, i64 t, .agg a.l, i64 0] [.t (machT q' b' (bump t 1 s1) (bump t 2 s2) (bump t 3 s3) cr false), .t (.agg (G4.l g)), .t (i64 0)] := by
  obtain ⟨pre, m, k, c, h1, h2, h3, h4, h5⟩ := h
  have hm : memQ q = memT (histT pre m k c) q.c1 q.c2 q.w1 q.w2 q.w3 := by unfold memQ; rw [h1]
  rcases ha with rfl | ⟨ov, oa, or', nv, na, nr, rfl⟩
  · have hl := look_holds pre m k c q.c1 q.c2 h2 (by omega) q.w1 q.w2 q.w3 t ht
    rw [← hm] at hl
    exact ⟨{ q with h := histT pre m k c, c1 := q.c1, c2 := false, w1 := (setW t (lookV t m k q.w1 q.w2 q.w3) q.w1 q.w2 q.w3).1, w2 := (setW t (lookV t m k q.w1 q.w2 q.w3) q.w1 q.w2 q.w3).2.1, w3 := (setW t (lookV t m k q.w1 q.w2 q.w3) q.w1 q.w2 q.w3).2.2 }, b, ⟨m.v, m.a, m.r, true⟩, ⟨pre, m, k, c, rfl, h2, by omega, h4, (by simp only []; omega)⟩, fun s1 s2 s3 cr cs => do_look q b s1 s2 s3 cr cs t ht _ _ _ _ _ _ m.v m.a m.r hl⟩
  · rcases Bool.eq_false_or_eq_true (sameW m.v m.a m.r ov oa or') with hs | hs
    · obtain ⟨u1, u2, u3, y, hl⟩ := swap_works pre m k c q.c1 q.c2 h2 (by omega) q.w1 q.w2 q.w3 t ht ov oa or' nv na nr hs
      rw [← hm] at hl
      refine ⟨_, true, ⟨m.v, m.a, m.r, true⟩, ⟨pre ++ m.l, ⟨nv, na, nr, t, y⟩, k + 1, false, rfl, ?_, by omega, h4.next (by omega) nv na nr, ?_⟩, fun s1 s2 s3 cr cs => do_swap1 q b s1 s2 s3 cr cs t ht _ _ _ _ _ _ m.v m.a m.r ov oa or' nv na nr h4 hl⟩
      · have : m.l.length = 5 := rfl
        simp [h2, this]; omega
      · simp; omega
    · have hl := swap_fails pre m k c q.c1 q.c2 h2 (by omega) q.w1 q.w2 q.w3 t ht ov oa or' nv na nr hs
      rw [← hm] at hl
      exact ⟨{ q with h := histT pre m k c, c1 := q.c1, c2 := false, w1 := (setW t (lookV t m k q.w1 q.w2 q.w3) q.w1 q.w2 q.w3).1, w2 := (setW t (lookV t m k q.w1 q.w2 q.w3) q.w1 q.w2 q.w3).2.1, w3 := (setW t (lookV t m k q.w1 q.w2 q.w3) q.w1 q.w2 q.w3).2.2 }, b, ⟨m.v, m.a, m.r, false⟩, ⟨pre, m, k, c, rfl, h2, by omega, h4, (by simp only []; omega)⟩, fun s1 s2 s3 cr cs => do_swap0 q b s1 s2 s3 cr cs t ht _ _ _ _ _ _ m.v m.a m.r ov oa or' nv na nr hl⟩
/-- A code that has begun: its next act. -/
theorem next_run (s : AC) (g : G4) (hb : s.begun = true) (hd : s.done = false) : (nextM s g).1.begun = true ∧ (nextM s g).1.done = (nextM s g).2.2 ∧ ((nextM s g).2.2 = false → AOk (nextM s g).2.1) ∧ ((nextM s g).2.2 = true → (nextM s g).2.1 = .zero) := by
  refine ⟨?_, next_done s g hd, ?_, ?_⟩ <;> unfold nextM <;> simp only [hd, hb, Bool.false_eq_true, if_false, if_true] <;> cases s.swapped <;> cases g.ok <;> simp <;> (try split) <;> simp_all [AOk]
theorem told_tk (ty : Nat) (x : T) (a : A8) (d : Bool) (cells : List T) (k : Nat) (h : d = true → a = .zero) : told (.ifc ty x) a d (.sl cells k false) = .agg (tkOf d ty x a true cells k).l := by
  cases d
  · rfl
  · rw [h rfl]; rfl
/-- Give, of a task. -/
theorem give_tk (t : Nat) (f : FuncId) (htf : (t = 104 ∧ f = 110) ∨ (t = 98 ∧ f = 109)) (x : T) (a : A8) (g : G4) {b : Bool} {cells : List T} {k : Nat} (hg : GOk b cells k) (hm : k ≤ 1000) (t' : Nat) (x' : T) (a' : A8) (d : Bool) (hz : d = true → a' = .zero)
    (hn : Holds Try.prog noG f [x, .agg g.l] [.t (.ifc t' x'), .t (.agg a'.l), .t (bl d)]) :
    Holds Try.prog noG 11 [.agg (tkOf false t x a b cells k).l, .agg g.l] [.t (.agg (tkOf d t' x' a' true (cells ++ g.l) (k + 1)).l)] := by
  have h := give_g t f htf x a g hg hm t' x' a' d hn
  rw [told_tk _ _ _ _ _ _ hz] at h
  exact h
/-- A code wrapped twice, by the rests to come. -/
inductive WK (n : Int) : Nat → AC → Nat → Nat → Bool → Bool → A8 → Bool → Prop
  | out (o i : Nat) : WK n (o + 1 + i) (cA n) o i false false .zero false
  | inn (i : Nat) : WK n (i + 1) (cA n) 0 i true false .zero false
  | run (s : AC) (a : A8) (d : Bool) : WK n 0 s 0 0 true true a d
theorem next_rest98 (x : T) (left : Nat) (g : G4) (begun : Bool) (hm : left < 64) : Holds Try.prog noG 109 [wr (.ifc 98 x) (left + 1 : Nat) begun, .agg g.l] [.t (.ifc 98 (wr (.ifc 98 x) left begun)), .t (.agg A8.zero.l), .t (bl false)] := by
  have h := next_rest 98 x ((left + 1 : Nat) : Int) g begun (by omega) (by omega)
  rwa [show ((left + 1 : Nat) : Int) - 1 = left by omega] at h
theorem next_rest104 (x : T) (left : Nat) (g : G4) (begun : Bool) (hm : left < 64) : Holds Try.prog noG 109 [wr (.ifc 104 x) (left + 1 : Nat) begun, .agg g.l] [.t (.ifc 98 (wr (.ifc 104 x) left begun)), .t (.agg A8.zero.l), .t (bl false)] := by
  have h := next_rest 104 x ((left + 1 : Nat) : Int) g begun (by omega) (by omega)
  rwa [show ((left + 1 : Nat) : Int) - 1 = left by omega] at h
/-- A rest is over. -/
theorem wk_next {n : Int} {e : Nat} {s : AC} {o i : Nat} {ob ib : Bool} {a : A8} {d : Bool} (h : WK n (e + 1) s o i ob ib a d) (ho : o ≤ 60) (hi : i ≤ 60) (g : G4) :
    d = false ∧ a = .zero ∧ s = cA n ∧ ∃ s' o' i' ob' ib' a', WK n e s' o' i' ob' ib' a' false ∧ o' ≤ 60 ∧ i' ≤ 60 ∧ (0 < e → a' = .zero) ∧ (e = 0 → s' = cB n ∧ a' = .look) ∧ Holds Try.prog noG 109 [ww s.c o i ob ib, .agg g.l] [.t (.ifc 98 (ww s'.c o' i' ob' ib')), .t (.agg a'.l), .t (bl false)] := by
  generalize he : e + 1 = e1 at h
  cases h with
  | out =>
    refine ⟨rfl, rfl, rfl, ?_⟩
    cases o with
    | succ o =>
      obtain rfl : e = o + 1 + i := by omega
      exact ⟨_, o, i, false, false, .zero, .out o i, by omega, hi, fun _ => rfl, fun h => by omega, next_rest98 _ o g false (by omega)⟩
    | zero =>
      cases i with
      | succ i =>
        obtain rfl : e = i + 1 := by omega
        exact ⟨_, 0, i, true, false, .zero, .inn i, by omega, by omega, fun _ => rfl, fun h => by omega, next_wrap 98 109 (.inr ⟨rfl, rfl⟩) _ false g 98 _ .zero false (next_rest104 _ i .zero false (by omega))⟩
      | zero =>
        obtain rfl : e = 0 := by omega
        exact ⟨cB n, 0, 0, true, true, .look, .run _ _ _, by omega, by omega, fun h => by omega, fun _ => ⟨rfl, rfl⟩, next_wrap 98 109 (.inr ⟨rfl, rfl⟩) _ false g 98 _ .look false (next_first (cA n) .zero)⟩
  | inn =>
    refine ⟨rfl, rfl, rfl, ?_⟩
    cases i with
    | succ i =>
      obtain rfl : e = i + 1 := by omega
      exact ⟨_, 0, i, true, false, .zero, .inn i, by omega, by omega, fun _ => rfl, fun h => by omega, next_wrap 98 109 (.inr ⟨rfl, rfl⟩) _ true g 98 _ .zero false (next_rest104 _ i g false (by omega))⟩
    | zero =>
      obtain rfl : e = 0 := by omega
      exact ⟨cB n, 0, 0, true, true, .look, .run _ _ _, by omega, by omega, fun h => by omega, fun _ => ⟨rfl, rfl⟩, next_wrap 98 109 (.inr ⟨rfl, rfl⟩) _ true g 98 _ .look false (next_first (cA n) g)⟩
  | run => omega
theorem next_ww (s : AC) (g : G4) : Holds Try.prog noG 109 [ww s.c 0 0 true true, .agg g.l] [.t (.ifc 98 (ww (nextM s g).1.c 0 0 true true)), .t (.agg (nextM s g).2.1.l), .t (bl (nextM s g).2.2)] :=
  next_wrap 98 109 (.inr ⟨rfl, rfl⟩) _ true g 98 _ _ _ (next_inner s g)
end Go.Proofs.Ytfceedfmjhclaaa
