/- Rows of places: which words may be held; a search through a row. -/
import Derived.Test.YtaomebcmmjhplaaGreatDoorLy3
namespace Go.Proofs.YtaomebcmmjhplaaGreatDoor
open Go Go.RowKit Go.Va
set_option maxRecDepth 100000
set_option maxHeartbeats 400000
def c1 : Code → Code
  | .seq a _ => a
  | c => c
def c2 : Code → Code
  | .seq _ b => b
  | c => c
def inB : Code → Code
  | .block _ b => b
  | c => c
def inL : Code → Code
  | .loop b => b
  | c => c
def tidied (ks : List Nat) (o : Option (Ex × S × Va.Tape × List Prop)) : Option (Ex × S × Va.Tape × List Prop) :=
  match o with
  | some (x, s, tp, ps) => match tidy ks s with
    | some s' => some (x, s', tp, ps)
    | none => none
  | none => none
theorem tidied_some {ks : List Nat} {o : Option (Ex × S × Va.Tape × List Prop)} {x : Ex} {s' : S} {tp : Va.Tape} {ps : List Prop} (h : tidied ks o = some (x, s', tp, ps)) : ∃ s, o = some (x, s, tp, ps) ∧ tidy ks s = some s' := by
  unfold tidied at h
  split at h
  · split at h
    · rename_i s' ht
      cases h
      exact ⟨_, rfl, ht⟩
    · cases h
  · cases h
def tidiedP (ks : List Nat) (o : Option (S × Va.Tape × List Prop)) : Option (S × Va.Tape × List Prop) :=
  match o with
  | some (s, tp, ps) => match tidy ks s with
    | some s' => some (s', tp, ps)
    | none => none
  | none => none
theorem tidiedP_some {ks : List Nat} {o : Option (S × Va.Tape × List Prop)} {s' : S} {tp : Va.Tape} {ps : List Prop} (h : tidiedP ks o = some (s', tp, ps)) : ∃ s, o = some (s, tp, ps) ∧ tidy ks s = some s' := by
  unfold tidiedP at h
  split at h
  · split at h
    · rename_i s' ht
      cases h
      exact ⟨_, rfl, ht⟩
    · cases h
  · cases h
noncomputable abbrev PX (f nt k : Nat) : Code → S → Va.Tape → Option (S × Va.Tape × List Prop) := preX Tryz.prog gG (runX Tryz.prog gG noF 10) f nt 10 k
theorem PX_sound {f nt k : Nat} {c : Code} {s s1 s' : S} {tp tp' : Va.Tape} {x : Ex} {ps : List Prop} {ks : List Nat} (h : tidiedP ks (PX f nt k c s tp) = some (s1, tp', ps)) (hp : All ps) (hr : ExecS Tryz.prog gG nt (restC k c) s1 x s') : ExecS Tryz.prog gG nt c s x s' := by
  obtain ⟨s2, h1, h2⟩ := tidiedP_some h
  exact preX_sound mixed (sndL 10) h1 hp (ExecS.tidy h2 hr)
theorem bAdd61 (x y : Operand) (a b c : Int) (hc : a + b = c) (h0 : -9223372036854775808 ≤ c) (h1 : c < 9223372036854775808) : BinIs Tryz.prog .add 61 x y (.int .i64 a) (.int .i64 b) (.int .i64 c) := by
  have h : BinIs Tryz.prog .add 61 x y (.int .i64 a) (.int .i64 b) (.int .i64 (w64 (a + b))) := by unfold BinIs; kernel_rfl
  rwa [hc, w64_id _ h0 h1] at h
noncomputable abbrev XX (f nt : Nat) : Code → S → Va.Tape → Option (Ex × S × Va.Tape × List Prop) := execX Tryz.prog gG (runX Tryz.prog gG noF 10) f nt 10
theorem XX_sound {f nt : Nat} {c : Code} {s s' : S} {tp tp' : Va.Tape} {x : Ex} {ps : List Prop} (h : XX f nt c s tp = some (x, s', tp', ps)) (hp : All ps) : ExecS Tryz.prog gG nt c s x s' := execX_sound mixed (sndL 10) f 10 _ _ _ _ _ _ _ h hp

/-! ## redo.may -/
noncomputable def bodyM : Code := (Tryz.f41.body).getD .skip
noncomputable def loopM : Code := inL (inB (c2 (c1 (c2 (c2 bodyM)))))
theorem restM_eq : restC 2 bodyM = .seq (.seq (c1 (c1 (c2 (c2 bodyM)))) (.block 0 (.loop loopM))) (c2 (c2 (c2 bodyM))) := by kernel_rfl
def layC (t c b : Int) : Option Blk := some (.cells [.t (i64 t), .t (i64 c), .t (i64 b)] false)
def SM0 (t c b n : Int) (a : Int) : S := ⟨[(1, .loc 0 0), (3, .t (.lit (.slice none 0 0))), (6, .t (i64 n)), (7, .t (i64 a))], [layC t c b]⟩
def SM1 (t c b n : Int) (cs : List C) (k : Nat) (a : Int) : S := ⟨[(1, .loc 0 0), (3, .osl 1 k 1), (6, .t (i64 n)), (7, .t (i64 a))], [layC t c b, some (.cells cs false)]⟩
def ksM : List Nat := [1, 3, 6, 7]
noncomputable abbrev XM : Code → S → Va.Tape → Option (Ex × S × Va.Tape × List Prop) := XX 41 Tryz.f41.ntmps
theorem preM (t c b : Int) : tidiedP [1, 3] (PX 41 Tryz.f41.ntmps 2 bodyM ⟨initE [lay t c b] 0, []⟩ []) = some (⟨[(1, .loc 0 0), (3, .t (.lit (.slice none 0 0)))], [layC t c b]⟩, [], []) := by kernel_rfl
theorem startM (t c b n : Int) : tidied ksM (XM (c1 (c1 (c2 (c2 bodyM)))) ⟨[(1, .loc 0 0), (3, .t (.lit (.slice none 0 0)))], [layC t c b]⟩ [((41, 6), .call [.t (i64 n)])]) =
    some (.normal, SM0 t c b n 0, [], [HoldsL 15 [lay t c b] [.t (i64 n)]]) := by kernel_rfl
def inM (a n : Int) (d : Bool) : Prop := BinIs Tryz.prog .lss 61 (.tmp 7) (.tmp 6) (.int .i64 a) (.int .i64 n) (.bool d)
def upM (a : Int) : Prop := BinIs Tryz.prog .add 61 (.tmp 7) (.const (.int .i64 1)) (.int .i64 a) (.int .i64 1) (.int .i64 (a + 1))
theorem skipM0 {t c b : Int} (n a : Int) : tidiedO [0] [] ksM (XM loopM (SM0 t c b n a) [((41, 8), .res (.t (bl true))), ((41, 12), .call [.t (bl false)]), ((41, 17), .res (.t (i64 (a + 1))))]) =
    some (.normal, SM0 t c b n (a + 1), [], [inM a n true, HoldsL 68 [lay t c b, i64 a] [.t (bl false)], upM a], []) := by kernel_rfl
theorem skipM1 {t c b : Int} (n : Int) (cs : List C) (k : Nat) (a : Int) : tidiedO [0, 1] [1] ksM (XM loopM (SM1 t c b n cs k a) [((41, 8), .res (.t (bl true))), ((41, 12), .call [.t (bl false)]), ((41, 17), .res (.t (i64 (a + 1))))]) =
    some (.normal, SM1 t c b n cs k (a + 1), [], [inM a n true, HoldsL 68 [lay t c b, i64 a] [.t (bl false)], upM a], [some (.cells cs false)]) := by kernel_rfl
theorem takeM0 {t c b : Int} (n a : Int) : tidiedO [0, 6] [6] ksM (XM loopM (SM0 t c b n a) [((41, 8), .res (.t (bl true))), ((41, 12), .call [.t (bl true)]), ((41, 17), .res (.t (i64 (a + 1))))]) =
    some (.normal, SM1 t c b n [.t (i64 a)] 1 (a + 1), [], [inM a n true, HoldsL 68 [lay t c b, i64 a] [.t (bl true)], upM a], [some (.cells [.t (i64 a)] false)]) := by kernel_rfl
theorem takeM1 {t c b : Int} (n : Int) (cs : List C) (k : Nat) (a : Int) : tidiedO [0, 7] [7] ksM (XM loopM (SM1 t c b n cs k a) [((41, 8), .res (.t (bl true))), ((41, 12), .call [.t (bl true)]), ((41, 16), .ap), ((41, 17), .res (.t (i64 (a + 1))))]) =
    some (.normal, SM1 t c b n (cs ++ [.t (i64 a)]) (k + 1) (a + 1), [], [inM a n true, HoldsL 68 [lay t c b, i64 a] [.t (bl true)], cs.length = k * 1, roomB (k + 1) 8 = true, upM a], [some (.cells (cs ++ [.t (i64 a)]) false)]) := by kernel_rfl
theorem outM1 {t c b : Int} (n : Int) (cs : List C) (k : Nat) (a : Int) : tidiedO [1] [1] [3] (XM loopM (SM1 t c b n cs k a) [((41, 8), .res (.t (bl false)))]) =
    some (.exit 0, ⟨[(3, .osl 0 k 1)], [some (.cells cs false)]⟩, [], [inM a n false], [some (.cells cs false)]) := by kernel_rfl
theorem lastM (cs : List C) (k : Nat) : XM (c2 (c2 (c2 bodyM))) ⟨[(3, .osl 0 k 1)], [some (.cells cs false)]⟩ [] = some (.ret, ⟨[(2, .osl 0 k 1), (3, .osl 0 k 1), (18, .osl 0 k 1)], [some (.cells cs false)]⟩, [], []) := by kernel_rfl
/-- The words that may be held by a swap, below a place. -/
def mayL (t c b : Int) : Nat → List Int
  | 0 => []
  | a + 1 => if mayF t c b a then mayL t c b a ++ [(a : Int)] else mayL t c b a
def SM (t c b n : Int) (xs : List Int) (a : Int) : S := match xs with
  | [] => SM0 t c b n a
  | xs => SM1 t c b n (xs.map fun x => .t (i64 x)) xs.length a
theorem SM_ne {t c b n : Int} {xs : List Int} {a : Int} (h : xs ≠ []) : SM t c b n xs a = SM1 t c b n (xs.map fun x => .t (i64 x)) xs.length a := by
  cases xs with
  | nil => exact (h rfl).elim
  | cons x xs => rfl
theorem mayL_le (t c b : Int) : ∀ a : Nat, (mayL t c b a).length ≤ a
  | 0 => Nat.le_refl _
  | a + 1 => by
    have := mayL_le t c b a
    simp only [mayL]
    split
    · simp; omega
    · omega
theorem opq_ints (xs : List Int) (fz : Bool) : OpqB (.cells (xs.map fun x => C.t (i64 x)) fz) := ⟨xs.map i64, fz, by simp⟩
theorem inM_is (a n : Int) (d : Bool) (h : decide (a < n) = d) : inM a n d := bLss61 _ _ _ _ _ h
theorem upM_is (a : Int) (h0 : 0 ≤ a) (h1 : a ≤ 100000) : upM a := bAdd61 _ _ _ _ _ rfl (by omega) (by omega)
theorem room8 (k : Nat) (h : k ≤ 100000) : roomB (k + 1) 8 = true := by
  simp only [roomB, Bool.and_eq_true, decide_eq_true_eq]
  omega
theorem loopM_rounds {t c b : Int} (h : LV t c b) (n : Nat) (hn : n ≤ 2000) (hne : mayL t c b n ≠ []) : ∀ (m a : Nat), a + m = n →
    ∃ s', RoundsW Tryz.prog gG Tryz.f41.ntmps loopM (SM t c b n (mayL t c b a) a) (.exit 0) s' ∧ Weak gG Tryz.f41.ntmps s' ⟨[(3, .osl 0 (mayL t c b n).length 1)], [some (.cells ((mayL t c b n).map fun x => .t (i64 x)) false)]⟩
  | 0, a, he => by
    have ha : a = n := by omega
    subst ha
    rw [SM_ne hne]
    obtain ⟨s, o1, o2⟩ := tidiedO_some (G := gG) (nt := Tryz.f41.ntmps) (outM1 (t := t) (c := c) (b := b) a ((mayL t c b a).map fun x => .t (i64 x)) (mayL t c b a).length a) (by
      intro k hk
      simp only [List.mem_singleton, Option.some.injEq] at hk
      subst hk
      exact opq_ints _ _)
    exact ⟨s, .out (by simp) (XX_sound o1 (.cons (inM_is _ _ _ (by simp)) .nil)), o2⟩
  | m + 1, a, he => by
    obtain ⟨s', r1, r2⟩ := loopM_rounds h n hn hne m (a + 1) (by omega)
    refine ⟨s', ?_, r2⟩
    have hmay := may_ok h a (by omega) (by omega)
    have hin : inM a n true := inM_is _ _ _ (decide_eq_true (by omega))
    have hup : upM a := upM_is a (by omega) (by omega)
    have e1 : ((a + 1 : Nat) : Int) = (a : Int) + 1 := by omega
    rw [e1] at r1
    simp only [mayL] at r1
    rcases Bool.eq_false_or_eq_true (mayF t c b a) with hm | hm
    · rw [hm] at hmay
      rw [if_pos hm, SM_ne (by simp)] at r1
      by_cases hx : mayL t c b a = []
      · rw [hx]
        rw [hx] at r1
        obtain ⟨s, o1, o2⟩ := tidiedO_some (G := gG) (nt := Tryz.f41.ntmps) (takeM0 (t := t) (c := c) (b := b) n a) (by
          intro k hk
          simp only [List.mem_singleton, Option.some.injEq] at hk
          subst hk
          exact opq_ints [(a : Int)] _)
        exact .round (XX_sound o1 (.cons hin (.cons hmay (.cons hup .nil)))) o2 r1
      · rw [SM_ne hx]
        obtain ⟨s, o1, o2⟩ := tidiedO_some (G := gG) (nt := Tryz.f41.ntmps) (takeM1 (t := t) (c := c) (b := b) n ((mayL t c b a).map fun x => .t (i64 x)) (mayL t c b a).length a) (by
          intro k hk
          simp only [List.mem_singleton, Option.some.injEq] at hk
          subst hk
          have := opq_ints (mayL t c b a ++ [(a : Int)]) false
          simpa using this)
        have hl := mayL_le t c b a
        refine .round (XX_sound o1 (.cons hin (.cons hmay (.cons (by simp) (.cons (room8 _ (by omega)) (.cons hup .nil)))))) o2 ?_
        simpa using r1
    · rw [hm] at hmay
      rw [if_neg (by simp [hm])] at r1
      by_cases hx : mayL t c b a = []
      · rw [hx]
        rw [hx] at r1
        obtain ⟨s, o1, o2⟩ := tidiedO_some (G := gG) (nt := Tryz.f41.ntmps) (skipM0 (t := t) (c := c) (b := b) n a) (by simp)
        exact .round (XX_sound o1 (.cons hin (.cons hmay (.cons hup .nil)))) o2 r1
      · rw [SM_ne hx] at r1 ⊢
        obtain ⟨s, o1, o2⟩ := tidiedO_some (G := gG) (nt := Tryz.f41.ntmps) (skipM1 (t := t) (c := c) (b := b) n ((mayL t c b a).map fun x => .t (i64 x)) (mayL t c b a).length a) (by
          intro k hk
          simp only [List.mem_singleton, Option.some.injEq] at hk
          subst hk
          exact opq_ints _ _)
        exact .round (XX_sound o1 (.cons hin (.cons hmay (.cons hup .nil)))) o2 r1
end Go.Proofs.YtaomebcmmjhplaaGreatDoor
