/- The first words of a layout. -/
import Derived.Test.YtaomebcmmjhplaaGreatDoorLy7
namespace Go.Proofs.YtaomebcmmjhplaaGreatDoor
open Go Go.RowKit Go.Va
set_option maxRecDepth 100000
set_option maxHeartbeats 400000
def tidiedPO (ord opq ks : List Nat) (o : Option (S × Va.Tape × List Prop)) : Option (S × Va.Tape × List Prop × List (Option Blk)) :=
  match o with
  | some (s, tp, ps) => match tidyO ord opq ks s with
    | some s' => some (s', tp, ps, opq.map s.h)
    | none => none
  | none => none
theorem PXO_sound {f nt k : Nat} {c : Code} {s s1 s' : S} {tp tp' : Va.Tape} {x : Ex} {ps : List Prop} {ord opq ks : List Nat} {bs : List (Option Blk)} (h : tidiedPO ord opq ks (PX f nt k c s tp) = some (s1, tp', ps, bs)) (hb : ∀ k, some k ∈ bs → OpqB k) (hp : All ps) (hr : ExecS Tryz.prog gG nt (restC k c) s1 x s') : ExecS Tryz.prog gG nt c s x s' := by
  unfold tidiedPO at h
  split at h
  · rename_i s2 tp2 ps2 h1
    split at h
    · rename_i s3 ht
      simp only [Option.some.injEq, Prod.mk.injEq] at h
      obtain ⟨rfl, rfl, rfl, rfl⟩ := h
      exact preX_sound mixed (sndL 10) h1 hp (ExecS.weak (tidyO_weak ht fun b hb1 k hk => hb k (List.mem_map.2 ⟨b, hb1, hk⟩)) hr)
    · cases h
  · cases h
def upd (g : Nat → Int) (i : Nat) (v : Int) : Nat → Int := fun j => if j = i then v else g j
def wC (g : Nat → Int) (n : Nat) : List C := (wordsL g n).map .t
theorem wC_len (g : Nat → Int) (n : Nat) : (wC g n).length = n * 3 := by simp [wC, wordsL_len]
theorem wC_opq (g : Nat → Int) (n : Nat) (fz : Bool) : OpqB (.cells (wC g n) fz) := ⟨_, _, rfl⟩
theorem wordsL_succ (g : Nat → Int) (n : Nat) : wordsL g (n + 1) = wordsL g n ++ [i64 (g n), u32 0, u32 0] := by unfold wordsL; rw [List.range_succ, List.flatMap_append]; simp
theorem wordsL_congr {g g' : Nat → Int} : ∀ {n : Nat}, (∀ j, j < n → g j = g' j) → wordsL g n = wordsL g' n
  | 0, _ => rfl
  | n + 1, h => by rw [wordsL_succ, wordsL_succ, wordsL_congr fun j hj => h j (by omega), h n (by omega)]
theorem splice_w (g : Nat → Int) (v : Int) : ∀ (n i : Nat), i < n → splice (wC g n) (i * 3 + 0) [.t (i64 v)] = wC (upd g i v) n
  | 0, i, h => by omega
  | n + 1, i, h => by
    have e1 : wC g (n + 1) = wC g n ++ [.t (i64 (g n)), .t (u32 0), .t (u32 0)] := by simp [wC, wordsL_succ]
    have e2 : wC (upd g i v) (n + 1) = wC (upd g i v) n ++ [.t (i64 (upd g i v n)), .t (u32 0), .t (u32 0)] := by simp [wC, wordsL_succ]
    have hl := wC_len g n
    by_cases hi : i = n
    · subst hi
      have e3 : wC (upd g i v) i = wC g i := by
        have := wordsL_congr (g := upd g i v) (g' := g) (n := i) fun j hj => by unfold upd; rw [if_neg (by omega)]
        unfold wC; rw [this]
      rw [e1, e2, e3]
      unfold splice
      rw [Nat.add_zero, ← hl, List.take_left]
      have e4 : (wC g i).length + [C.t (i64 v)].length = (wC g i).length + 1 := rfl
      rw [e4, ← List.drop_drop, List.drop_left]
      simp [upd]
    · have ih := splice_w g v n i (by omega)
      have hu : upd g i v n = g n := by unfold upd; rw [if_neg (by omega)]
      rw [e1, e2, hu, ← ih]
      unfold splice
      simp only [List.length_singleton]
      rw [List.take_append_of_le_length (by omega), List.drop_append_of_le_length (by omega)]
      simp
theorem zeros_w (n : Nat) : (List.replicate n [C.t (i64 0), .t (u32 0), .t (u32 0)]).flatten = wC (fun _ => 0) n := by
  induction n with
  | zero => rfl
  | succ n ih =>
    rw [List.replicate_succ', List.flatten_append, ih]
    simp [wC, wordsL_succ]
theorem index_o (b n : Nat) (i : Nat) (x : Int) (hx : x = i) (h : i < n) : indexAddrC Tryz.prog 25 (.osl b n 3) x = some ⟨.loc b (i * 3), [], []⟩ := by
  obtain ⟨hu⟩ : Nonempty (Tryz.prog.underlying 25 = some (.slice 44)) := ⟨by kernel_rfl⟩
  obtain ⟨ii, hi, hs⟩ : ∃ ii, Tryz.prog.info? 44 = some ii ∧ ii.size = 3 := ⟨_, rfl, by kernel_rfl⟩
  subst hx
  unfold indexAddrC
  simp only [hu, hi, hs]
  rw [if_pos ⟨by omega, by omega⟩]
  simp
theorem room16 (n : Nat) (h : n ≤ 100000) : roomB n 16 = true := by
  simp only [roomB, Bool.and_eq_true, decide_eq_true_eq]
  omega
noncomputable def bodyF : Code := (Tryz.f5.body).getD .skip
noncomputable abbrev XF : Code → S → Va.Tape → Option (Ex × S × Va.Tape × List Prop) := XX 5 Tryz.f5.ntmps
noncomputable def tailF : Code := restC 4 bodyF
noncomputable def loopF1 : Code := inL (inB (c2 (c1 tailF)))
noncomputable def loopF2 : Code := inL (inB (c2 (c1 (c2 tailF))))
theorem tailF_eq : tailF = .seq (.seq (c1 (c1 tailF)) (.block 0 (.loop loopF1))) (.seq (.seq (c1 (c1 (c2 tailF))) (.block 2 (.loop loopF2))) (c2 (c2 tailF))) := by kernel_rfl
def SF0 (t c b : Int) (n : Nat) (cs : List C) : S := ⟨[(1, .loc 0 0), (3, .osl 1 n 3)], [layC t c b, some (.cells cs false)]⟩
def SF1 (t c b : Int) (n : Nat) (cs : List C) (i : Int) : S := ⟨[(1, .loc 0 0), (3, .osl 1 n 3), (4, .t (i64 i))], [layC t c b, some (.cells cs false)]⟩
def SF2 (t c b : Int) (n : Nat) (cs : List C) (i : Int) : S := ⟨[(1, .loc 0 0), (3, .osl 1 n 3), (30, .t (i64 b)), (31, .t (i64 i))], [layC t c b, some (.cells cs false)]⟩
end Go.Proofs.YtaomebcmmjhplaaGreatDoor
