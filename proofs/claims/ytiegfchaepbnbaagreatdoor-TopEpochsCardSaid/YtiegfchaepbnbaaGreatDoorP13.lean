/- maps.Clone at the views' map type; what a view says of a place. Views: With. Rows of things: what the printed runs need. Views: Join. -/
import Derived.Test.YtiegfchaepbnbaaGreatDoorP12
import Derived.WalkKit
import Derived.Laws.Externs
import Derived.MapKept
namespace Go.Proofs.YtiegfchaepbnbaaGreatDoor
open Go Go.RowKit Go.Va

section
variable {P : Program} (w : World)
theorem equalIn_map_nil (d : Nat) (t k e : TypeId) (p : Option Nat) (h : P.underlying t = some (.map k e)) :
    (Op.equalIn (d + 1) t (.map p) (.map none)).run P w = .ok p.isNone w := by
  cases p <;> simp [Op.equalIn, run_underlying h]
theorem eql_map_nil (t k e : TypeId) (p : Option Nat) (h : P.underlying t = some (.map k e)) :
    (binOp .eql t (.map p) (.map none)).run P w = .ok (.bool p.isNone) w := by
  simp only [binOp]
  simp [show Op.equal t (.map p) (.map none) = Op.equalIn (9999 + 1) t (.map p) (.map none) from rfl, equalIn_map_nil w 9999 t k e p h]
theorem typeAssert_map (t xT k e : TypeId) (v : Value) (h : P.underlying t = some (.map k e)) : (Instr.typeAssert (.iface t v) xT t false).run P w = .ok v w := by
  simp [Instr.typeAssert, run_underlying h, go_sem, Result.andThen]
theorem clone_run {r : Nat} {es : Array MapEntry} {clock : Nat} (t : TypeId) (hb : w.heap[r]? = some (.map es clock)) :
    (Extern.MapsClone.clone #[.iface t (.map (some r))]).run P w = .ok (.iface t (.map (some w.heap.size))) (w.alloc (.map es clock)) := by
  have e : Extern.MapsClone.clone #[.iface t (.map (some r))] = (getObj r >>= fun o => match o with
      | .map entries clock => (newObj (.map entries clock) >>= fun n => pure (.iface t (.map (some n))))
      | _ => stuck "maps.clone: a map expected") := rfl
  rw [e]
  simp [MapKept.run_getObj_map hb, Result.andThen, go_sem]
end

/-- What a function that copies a map does. -/
def Clones (P : Program) (f : FuncId) : Prop := ∀ (b : Nat) (es : Array MapEntry) (clock : Nat) (w : World), w.heap[b]? = some (.map es clock) →
  Calls P f #[.map (some b)] w fun e w' => e = .returned (.map (some w.heap.size)) ∧ w' = w.alloc (.map es clock)

theorem holds_clone {P : Program} {G : Nat → Option (List T)} {f : FuncId} (h : Clones P f) (ks : List Value) (vs : List T) : Holds P G f [.mp ks vs] [.omp ks vs] := by
  intro w I args hg hlt hargs
  simp only [RTs, RT] at hargs
  obtain ⟨v, rest, rfl, ⟨r, es, clk, l, rfl, hI, hb, hl, hk, hvs⟩, rfl⟩ := hargs
  refine (h r es clk w hb).mono fun e w' ⟨he, hw⟩ => ?_
  subst he; subst hw
  refine ⟨[.map (some w.heap.size)], I, [w.heap.size], rfl, (Below.refl _ w).alloc (Nat.le_refl _) _, fun b hb => hb, fun b hb => .inl hb, ?_, by simp⟩
  simp only [RR]
  refine ⟨w.heap.size, es, clk, l, [], [], rfl, rfl, alloc_new w _, hl, hk, ?_, Nat.le_refl _, fun hI => absurd (hlt _ hI) (Nat.lt_irrefl _), rfl, rfl⟩
  exact RTs.mono ⟨fun b hb => alloc_old w _ b (hlt b hb), fun _ h => h, fun b c e fr hb => ⟨c, e, fr, by rw [alloc_old w _ b (Array.getElem?_eq_some_iff.1 hb).1]; exact hb, Nat.le_refl _⟩⟩ _ _ hvs

set_option maxRecDepth 100000
set_option maxHeartbeats 1000000 in
theorem cloneV : Clones Tryz.prog 120 := by
  intro b es clock w hb
  have tm : Tryz.prog.underlying 129 = some (.map 51 3) := by kernel_rfl
  have hq := fun w => eql_map_nil (P := Tryz.prog) w 129 _ _ (some b) tm
  go_enter Tryz.func120, Tryz.ntmps120
  go_wp2
  rw [run_callFunc_extern Tryz.func106 (by kernel_rfl) (by kernel_rfl) (by kernel_rfl) (e := Extern.MapsClone.clone) (by kernel_rfl), clone_run w 129 hb]
  simp only [Result.andThen]
  rw [Oper.upon_value]
  go_wp2
  rw [typeAssert_map _ 129 20 _ _ _ tm]
  simp only [Result.andThen]
  rw [Oper.upon_value]
  go_wp2
  go_ret
  exact ⟨rfl, rfl⟩
theorem clone_some (ks : List Value) (vs : List T) : HoldsL 120 [.mp ks vs] [.omp ks vs] := holds_clone cloneV ks vs
set_option maxRecDepth 100000
set_option maxHeartbeats 400000
theorem clone_nil : HoldsL 120 [.lit (.map none)] [.t (.lit (.map none))] := by
  have e : runX Tryz.prog gG noF 10 120 [.lit (.map none)] [] = some ([.t (.lit (.map none))], [], []) := by kernel_rfl
  exact sndL 10 _ _ _ _ _ _ e .nil

/-! ## Views -/
def keysV (l : List (Int × Int)) : List Value := l.map fun p => .int .i64 p.1
def valsV (l : List (Int × Int)) : List T := l.map fun p => i64 p.2
/-- A view: its entries. -/
def viewT : List (Int × Int) → T
  | [] => .lit (.map none)
  | p :: l => .mp (keysV (p :: l)) (valsV (p :: l))
def vix (a : Int) : List (Int × Int) → Option Nat
  | [] => none
  | p :: l => if p.1 = a then some 0 else (vix a l).map (· + 1)
/-- What a view says of a place. -/
def vat (l : List (Int × Int)) (a : Int) : Int := match vix a l with
  | some i => (l[i]?.map (·.2)).getD 0
  | none => 0
theorem same_int (a b : Int) : Instr.sameNow (.int .i64) (.int .i64 a) (.int .i64 b) = some (a == b) := by simp [Instr.sameNow]
theorem findIx_v (a : Int) : ∀ (l : List (Int × Int)) (n : Nat), findIx (.int .i64) (.int .i64 a) (keysV l) n = some ((vix a l).map (· + n))
  | [], n => rfl
  | p :: l, n => by
    simp only [keysV, List.map_cons, findIx, same_int, vix]
    by_cases h : p.1 = a
    · have : (a == p.1) = true := by simp [h]
      simp [this, h]
    · have : (a == p.1) = false := by simp; exact fun e => h e.symm
      have ih := findIx_v a l (n + 1)
      unfold keysV at ih
      simp only [this, ih, if_neg h, Option.map_map]
      congr 2
      funext x
      simp; omega
theorem findK_v (a : Int) (l : List (Int × Int)) : findK (.int .i64) (.int .i64 a) (keysV l) = some (vix a l) := by
  unfold findK
  have : (keysV l).all (fun x => (Instr.sameNow (.int .i64) (.int .i64 a) x).isSome) = true := by
    rw [List.all_eq_true]
    intro x hx
    obtain ⟨p, _, rfl⟩ := List.mem_map.1 hx
    simp [same_int]
  rw [if_pos this, findIx_v]
  simp
theorem vix_get (a : Int) : ∀ (l : List (Int × Int)) (i : Nat), vix a l = some i → ∃ v, l[i]? = some (a, v)
  | [], i, h => by simp [vix] at h
  | p :: l, i, h => by
    simp only [vix] at h
    split at h
    · rename_i hp
      cases h
      exact ⟨p.2, by simp [← hp]⟩
    · cases hq : vix a l with
      | none => simp [hq] at h
      | some j =>
        simp only [hq, Option.map_some, Option.some.injEq] at h
        subst h
        obtain ⟨v, hv⟩ := vix_get a l j hq
        exact ⟨v, by simpa using hv⟩
theorem view_at (l : List (Int × Int)) (a : Int) : HoldsL 118 [.agg [viewT l], i64 a] [.t (i64 (vat l a))] := by
  cases l with
  | nil =>
    have e : runX Tryz.prog gG noF 10 118 [.agg [viewT []], i64 a] [] = some ([.t (i64 0)], [], []) := by kernel_rfl
    exact sndL 10 _ _ _ _ _ _ e .nil
  | cons p l =>
    cases h : vix a (p :: l) with
    | none =>
      have hv : vat (p :: l) a = 0 := by unfold vat; rw [h]
      rw [hv]
      have e : runX Tryz.prog gG noF 10 118 [.agg [viewT (p :: l)], i64 a] [((118, 8), .lk none)] = some ([.t (i64 0)], [], [findK (.int .i64) (.int .i64 a) (keysV (p :: l)) = some none]) := by kernel_rfl
      exact sndL 10 _ _ _ _ _ _ e (.cons (by rw [findK_v, h]) .nil)
    | some i =>
      obtain ⟨v, hv⟩ := vix_get a _ i h
      have hv' : vat (p :: l) a = v := by unfold vat; rw [h]; simp [hv]
      rw [hv']
      have e : runX Tryz.prog gG noF 10 118 [.agg [viewT (p :: l)], i64 a] [((118, 8), .lv i (.t (i64 v)))] = some ([.t (i64 v)], [], [findK (.int .i64) (.int .i64 a) (keysV (p :: l)) = some (some i), ((valsV (p :: l)).map C.t)[i]? = some (.t (i64 v))]) := by kernel_rfl
      refine sndL 10 _ _ _ _ _ _ e (.cons (by rw [findK_v, h]) (.cons ?_ .nil))
      simp only [valsV, List.map_map, List.getElem?_map, hv]
      rfl
end Go.Proofs.YtiegfchaepbnbaaGreatDoor
namespace Go.Proofs.YtiegfchaepbnbaaGreatDoor
open Go Go.RowKit Go.Va
set_option maxRecDepth 100000
set_option maxHeartbeats 400000
noncomputable abbrev XX (f nt : Nat) : Code → S → Va.Tape → Option (Ex × S × Va.Tape × List Prop) := execX Tryz.prog gG (runX Tryz.prog gG noF 10) f nt 10
theorem XX_sound {f nt : Nat} {c : Code} {s s' : S} {tp tp' : Va.Tape} {x : Ex} {ps : List Prop} (h : XX f nt c s tp = some (x, s', tp', ps)) (hp : All ps) : ExecS Tryz.prog gG nt c s x s' := execX_sound mixed (sndL 10) f 10 _ _ _ _ _ _ _ h hp
/-- A view with another entry. -/
def vput (l : List (Int × Int)) (a n : Int) : List (Int × Int) := match vix a l with
  | some i => l.set i (a, n)
  | none => l ++ [(a, n)]
noncomputable def bodyW : Code := (Tryz.f112.body).getD .skip
noncomputable abbrev XW : Code → S → Va.Tape → Option (Ex × S × Va.Tape × List Prop) := XX 112 Tryz.f112.ntmps
theorem List.set_getElem?_self' {α : Type} : ∀ {l : List α} {i : Nat} {x : α}, l[i]? = some x → l.set i x = l
  | [], i, x, h => by simp at h
  | y :: l, 0, x, h => by simp at h; simp [h]
  | y :: l, i + 1, x, h => by simp at h; simp [List.set_getElem?_self' h]
theorem bGeqL (x y : Operand) (a b : Int) (d : Bool) (h : decide (a ≥ b) = d) : BinIs Tryz.prog .geq 51 x y (.int .i64 a) (.int .i64 b) (.bool d) := by
  have : BinIs Tryz.prog .geq 51 x y (.int .i64 a) (.int .i64 b) (.bool (decide (a ≥ b))) := by unfold BinIs; kernel_rfl
  rwa [h] at this
/-- A result of one map of the call's own. -/
def SV (ks : List Value) (vs : List C) : S := ⟨[(6, .loc 0 0)], [some (.cells [.omp 1] false), some (.map ks vs false)]⟩
theorem withN1 (a n : Int) : runX Tryz.prog gG noF 10 112 [.agg [viewT []], i64 a, i64 n] [((112, 9), .res (.t (bl false))), ((112, 12), .res (.t (bl false))), ((112, 20), .res (.t (bl true)))] = some ([.t (.agg [viewT []])], [], [BinIs Tryz.prog .lss 51 (.tmp 8) (.const (.int .i64 0)) (.int .i64 a) (.int .i64 0) (.bool false), BinIs Tryz.prog .geq 51 (.tmp 11) (.const (.int .i64 4096)) (.int .i64 a) (.int .i64 4096) (.bool false), BinIs Tryz.prog .leq 3 (.tmp 15) (.tmp 19) (.int .i64 n) (.int .i64 0) (.bool true)]) := by kernel_rfl
theorem withN2 (a n : Int) : runX Tryz.prog gG noF 10 112 [.agg [viewT []], i64 a, i64 n] [((112, 9), .res (.t (bl false))), ((112, 12), .res (.t (bl false))), ((112, 20), .res (.t (bl false))), ((112, 25), .call [.t (.lit (.map none))])] = some ([.t (.agg [viewT [(a, n)]])], [], [BinIs Tryz.prog .lss 51 (.tmp 8) (.const (.int .i64 0)) (.int .i64 a) (.int .i64 0) (.bool false), BinIs Tryz.prog .geq 51 (.tmp 11) (.const (.int .i64 4096)) (.int .i64 a) (.int .i64 4096) (.bool false), BinIs Tryz.prog .leq 3 (.tmp 15) (.tmp 19) (.int .i64 n) (.int .i64 0) (.bool false), HoldsL 120 [.lit (.map none)] [.t (.lit (.map none))]]) := by kernel_rfl
theorem withS1 (p : Int × Int) (l : List (Int × Int)) (a n v : Int) (i : Nat) : runX Tryz.prog gG noF 10 112 [.agg [viewT (p :: l)], i64 a, i64 n] [((112, 9), .res (.t (bl false))), ((112, 12), .res (.t (bl false))), ((112, 19), .lv i (.t (i64 v))), ((112, 20), .res (.t (bl true)))] = some ([.t (.agg [viewT (p :: l)])], [], [BinIs Tryz.prog .lss 51 (.tmp 8) (.const (.int .i64 0)) (.int .i64 a) (.int .i64 0) (.bool false), BinIs Tryz.prog .geq 51 (.tmp 11) (.const (.int .i64 4096)) (.int .i64 a) (.int .i64 4096) (.bool false), findK (.int .i64) (.int .i64 a) (keysV (p :: l)) = some (some i), ((valsV (p :: l)).map C.t)[i]? = some (.t (i64 v)), BinIs Tryz.prog .leq 3 (.tmp 15) (.tmp 19) (.int .i64 n) (.int .i64 v) (.bool true)]) := by kernel_rfl
theorem withS2 (p : Int × Int) (l : List (Int × Int)) (a n : Int) : runX Tryz.prog gG noF 10 112 [.agg [viewT (p :: l)], i64 a, i64 n] [((112, 9), .res (.t (bl false))), ((112, 12), .res (.t (bl false))), ((112, 19), .lk none), ((112, 20), .res (.t (bl true)))] = some ([.t (.agg [viewT (p :: l)])], [], [BinIs Tryz.prog .lss 51 (.tmp 8) (.const (.int .i64 0)) (.int .i64 a) (.int .i64 0) (.bool false), BinIs Tryz.prog .geq 51 (.tmp 11) (.const (.int .i64 4096)) (.int .i64 a) (.int .i64 4096) (.bool false), findK (.int .i64) (.int .i64 a) (keysV (p :: l)) = some none, BinIs Tryz.prog .leq 3 (.tmp 15) (.tmp 19) (.int .i64 n) (.int .i64 0) (.bool true)]) := by kernel_rfl
theorem withS3 (p : Int × Int) (l : List (Int × Int)) (a n v : Int) (i : Nat) : tidiedO [1, 2] [2] [6] (XW bodyW ⟨initE [.agg [viewT (p :: l)], i64 a, i64 n] 0, []⟩ [((112, 9), .res (.t (bl false))), ((112, 12), .res (.t (bl false))), ((112, 19), .lv i (.t (i64 v))), ((112, 20), .res (.t (bl false))), ((112, 25), .call [.omp (keysV (p :: l)) (valsV (p :: l))]), ((112, 0), .up (some i))]) =
    some (.ret, SV (keysV (p :: l)) (((valsV (p :: l)).map .t).set i (.t (i64 n))), [], [BinIs Tryz.prog .lss 51 (.tmp 8) (.const (.int .i64 0)) (.int .i64 a) (.int .i64 0) (.bool false), BinIs Tryz.prog .geq 51 (.tmp 11) (.const (.int .i64 4096)) (.int .i64 a) (.int .i64 4096) (.bool false), findK (.int .i64) (.int .i64 a) (keysV (p :: l)) = some (some i), ((valsV (p :: l)).map C.t)[i]? = some (.t (i64 v)), BinIs Tryz.prog .leq 3 (.tmp 15) (.tmp 19) (.int .i64 n) (.int .i64 v) (.bool false), HoldsL 120 [viewT (p :: l)] [.omp (keysV (p :: l)) (valsV (p :: l))],
      findK (.int .i64) (.int .i64 a) (keysV (p :: l)) = some (some i), ((valsV (p :: l)).map C.t).length = (keysV (p :: l)).length], [some (.map (keysV (p :: l)) (((valsV (p :: l)).map .t).set i (.t (i64 n))) false)]) := by kernel_rfl
theorem withS4 (p : Int × Int) (l : List (Int × Int)) (a n : Int) : tidiedO [1, 2] [2] [6] (XW bodyW ⟨initE [.agg [viewT (p :: l)], i64 a, i64 n] 0, []⟩ [((112, 9), .res (.t (bl false))), ((112, 12), .res (.t (bl false))), ((112, 19), .lk none), ((112, 20), .res (.t (bl false))), ((112, 25), .call [.omp (keysV (p :: l)) (valsV (p :: l))]), ((112, 0), .up none)]) =
    some (.ret, SV (keysV (p :: l) ++ [.int .i64 a]) ((valsV (p :: l)).map .t ++ [.t (i64 n)]), [], [BinIs Tryz.prog .lss 51 (.tmp 8) (.const (.int .i64 0)) (.int .i64 a) (.int .i64 0) (.bool false), BinIs Tryz.prog .geq 51 (.tmp 11) (.const (.int .i64 4096)) (.int .i64 a) (.int .i64 4096) (.bool false), findK (.int .i64) (.int .i64 a) (keysV (p :: l)) = some none, BinIs Tryz.prog .leq 3 (.tmp 15) (.tmp 19) (.int .i64 n) (.int .i64 0) (.bool false), HoldsL 120 [viewT (p :: l)] [.omp (keysV (p :: l)) (valsV (p :: l))],
      findK (.int .i64) (.int .i64 a) (keysV (p :: l)) = some none], [some (.map (keysV (p :: l) ++ [.int .i64 a]) ((valsV (p :: l)).map .t ++ [.t (i64 n)]) false)]) := by kernel_rfl
theorem viewT_ne {l : List (Int × Int)} (h : l ≠ []) : viewT l = .mp (keysV l) (valsV l) := by
  cases l with
  | nil => exact (h rfl).elim
  | cons p l => rfl
theorem view_with (l : List (Int × Int)) (a n : Int) (h0 : 0 ≤ a) (h1 : a < 4096) : HoldsL 112 [.agg [viewT l], i64 a, i64 n] [.t (.agg [viewT (if n ≤ vat l a then l else vput l a n)])] := by
  have b1 : BinIs Tryz.prog .lss 51 (.tmp 8) (.const (.int .i64 0)) (.int .i64 a) (.int .i64 0) (.bool false) := bLss61 _ _ _ _ _ (decide_eq_false (by omega))
  have b2 : BinIs Tryz.prog .geq 51 (.tmp 11) (.const (.int .i64 4096)) (.int .i64 a) (.int .i64 4096) (.bool false) := bGeqL _ _ _ _ _ (decide_eq_false (by omega))
  have ret : ∀ (l2 : List (Int × Int)), l2 ≠ [] → retR Tryz.prog Tryz.f112 (SV (keysV l2) ((valsV l2).map .t)) = some [.t (.agg [viewT l2])] := by
    intro l2 hne
    rw [viewT_ne hne]
    exact retR_map (k := 6) (b := 0) (m := 1) (t := 131) (ts := valsV l2) rfl rfl rfl rfl Tryz.underlying131 rfl (by kernel_rfl) (by kernel_rfl)
  have fin : ∀ (l2 : List (Int × Int)) (args : List T) (ps : List Prop) (tp : Va.Tape) (bs : List (Option Blk)), args.length = 3 → l2 ≠ [] → tidiedO [1, 2] [2] [6] (XW bodyW ⟨initE args 0, []⟩ tp) = some (.ret, SV (keysV l2) ((valsV l2).map .t), [], ps, [some (.map (keysV l2) ((valsV l2).map .t) false)]) → All ps → HoldsL 112 args [.t (.agg [viewT l2])] := by
    intro l2 args ps tp bs hargs hne hrun hps
    obtain ⟨s, o1, o2⟩ := tidiedO_some' (G := gG) (nt := Tryz.f112.ntmps) hrun (by
      intro k hk
      simp only [List.mem_singleton, Option.some.injEq] at hk
      subst hk
      exact .inr ⟨_, _, _, rfl⟩)
    exact holds_of_ExecS (c := bodyW) (x := .ret) Tryz.func112 (by kernel_rfl) (by rw [hargs]; exact of_decide_eq_true (by kernel_rfl)) (ExecS.post (XX_sound o1 hps) o2) (.inr rfl) (ret l2 hne)
  cases l with
  | nil =>
    have hv : vat [] a = 0 := rfl
    rw [hv]
    by_cases hn : n ≤ 0
    · rw [if_pos hn]
      exact sndL 10 _ _ _ _ _ _ (withN1 a n) (.cons b1 (.cons b2 (.cons (bLeq _ _ _ _ _ (decide_eq_true hn)) .nil)))
    · rw [if_neg hn]
      exact sndL 10 _ _ _ _ _ _ (withN2 a n) (.cons b1 (.cons b2 (.cons (bLeq _ _ _ _ _ (decide_eq_false hn)) (.cons clone_nil .nil))))
  | cons p l =>
    cases h : vix a (p :: l) with
    | none =>
      have hv : vat (p :: l) a = 0 := by unfold vat; rw [h]
      have hk : findK (.int .i64) (.int .i64 a) (keysV (p :: l)) = some none := by rw [findK_v, h]
      rw [hv]
      by_cases hn : n ≤ 0
      · rw [if_pos hn]
        exact sndL 10 _ _ _ _ _ _ (withS2 p l a n) (.cons b1 (.cons b2 (.cons hk (.cons (bLeq _ _ _ _ _ (decide_eq_true hn)) .nil))))
      · rw [if_neg hn]
        have hp : vput (p :: l) a n = p :: l ++ [(a, n)] := by unfold vput; rw [h]
        rw [hp]
        have e1 : keysV (p :: l ++ [(a, n)]) = keysV (p :: l) ++ [.int .i64 a] := by simp [keysV]
        have e2 : (valsV (p :: l ++ [(a, n)])).map C.t = (valsV (p :: l)).map .t ++ [.t (i64 n)] := by simp [valsV]
        have hw := withS4 p l a n
        rw [← e1, ← e2] at hw
        exact fin _ _ _ _ [] rfl (by simp) hw (.cons b1 (.cons b2 (.cons hk (.cons (bLeq _ _ _ _ _ (decide_eq_false hn)) (.cons (clone_some _ _) (.cons hk .nil))))))
    | some i =>
      obtain ⟨v, hvi⟩ := vix_get a _ i h
      have hv : vat (p :: l) a = v := by unfold vat; rw [h]; simp [hvi]
      have hk : findK (.int .i64) (.int .i64 a) (keysV (p :: l)) = some (some i) := by rw [findK_v, h]
      have hg : ((valsV (p :: l)).map C.t)[i]? = some (.t (i64 v)) := by
        simp only [valsV, List.map_map, List.getElem?_map, hvi]
        rfl
      rw [hv]
      by_cases hn : n ≤ v
      · rw [if_pos hn]
        exact sndL 10 _ _ _ _ _ _ (withS1 p l a n v i) (.cons b1 (.cons b2 (.cons hk (.cons hg (.cons (bLeq _ _ _ _ _ (decide_eq_true hn)) .nil)))))
      · rw [if_neg hn]
        have hp : vput (p :: l) a n = (p :: l).set i (a, n) := by unfold vput; rw [h]
        rw [hp]
        have hks : keysV ((p :: l).set i (a, n)) = keysV (p :: l) := by
          unfold keysV
          rw [List.map_set]
          refine List.set_getElem?_self' ?_
          rw [List.getElem?_map, hvi]
          rfl
        have hvs : (valsV ((p :: l).set i (a, n))).map C.t = ((valsV (p :: l)).map .t).set i (.t (i64 n)) := by
          unfold valsV
          rw [List.map_set, List.map_set]
        have hw := withS3 p l a n v i
        rw [← hvs] at hw
        have hl : ((valsV (p :: l)).map C.t).length = (keysV (p :: l)).length := by simp [valsV, keysV]
        have hf := fin ((p :: l).set i (a, n)) [.agg [viewT (p :: l)], i64 a, i64 n]
        rw [hks] at hf
        exact hf _ _ [] rfl (by intro h; have := congrArg List.length h; simp at this) hw (.cons b1 (.cons b2 (.cons hk (.cons hg (.cons (bLeq _ _ _ _ _ (decide_eq_false hn)) (.cons (clone_some _ _) (.cons hk (.cons hl .nil))))))))
end Go.Proofs.YtiegfchaepbnbaaGreatDoor
namespace Go.Proofs.YtiegfchaepbnbaaGreatDoor
open Go Go.RowKit Go.Va
set_option maxRecDepth 100000
set_option maxHeartbeats 400000
def c1 : Code → Code
  | .seq a _ => a
  | c => c
def c2 : Code → Code
  | .seq _ b => b
  | c => c
def inB : Code → Code
  | .block _ b => b
  | c => c
def inL : Code → Code
  | .loop b => b
  | c => c
def tidied (ks : List Nat) (o : Option (Ex × S × Va.Tape × List Prop)) : Option (Ex × S × Va.Tape × List Prop) :=
  match o with
  | some (x, s, tp, ps) => match tidy ks s with
    | some s' => some (x, s', tp, ps)
    | none => none
  | none => none
def tidiedP (ks : List Nat) (o : Option (S × Va.Tape × List Prop)) : Option (S × Va.Tape × List Prop) :=
  match o with
  | some (s, tp, ps) => match tidy ks s with
    | some s' => some (s', tp, ps)
    | none => none
  | none => none
noncomputable abbrev PX (f nt k : Nat) : Code → S → Va.Tape → Option (S × Va.Tape × List Prop) := preX Tryz.prog gG (runX Tryz.prog gG noF 10) f nt 10 k
def tidiedPO (ord opq ks : List Nat) (o : Option (S × Va.Tape × List Prop)) : Option (S × Va.Tape × List Prop × List (Option Blk)) :=
  match o with
  | some (s, tp, ps) => match tidyO ord opq ks s with
    | some s' => some (s', tp, ps, opq.map s.h)
    | none => none
  | none => none
theorem PXO_sound {f nt k : Nat} {c : Code} {s s1 s' : S} {tp tp' : Va.Tape} {x : Ex} {ps : List Prop} {ord opq ks : List Nat} {bs : List (Option Blk)} (h : tidiedPO ord opq ks (PX f nt k c s tp) = some (s1, tp', ps, bs)) (hb : ∀ k, some k ∈ bs → OpqB k ∨ OpqM k) (hp : All ps) (hr : ExecS Tryz.prog gG nt (restC k c) s1 x s') : ExecS Tryz.prog gG nt c s x s' := by
  unfold tidiedPO at h
  split at h
  · rename_i s2 tp2 ps2 h1
    split at h
    · rename_i s3 ht
      simp only [Option.some.injEq, Prod.mk.injEq] at h
      obtain ⟨rfl, rfl, rfl, rfl⟩ := h
      exact preX_sound mixed (sndL 10) h1 hp (ExecS.weak (tidyO_weak ht fun b hb1 k hk => hb k (List.mem_map.2 ⟨b, hb1, hk⟩)) hr)
    · cases h
  · cases h
theorem nodup_of_map {α β : Type} (f : α → β) {l : List α} (h : (l.map f).Nodup) : l.Nodup := List.Pairwise.of_map f (fun _ _ h e => h (congrArg f e)) h
abbrev nilS : T := .lit (.slice none 0 0)
abbrev nilM : T := .lit (.map none)
abbrev nilI : T := .lit .nilIface
abbrev nilF : T := .lit .nilFunc
abbrev nilP : T := .lit (.pointer none)
def goMax (x y : Int) : Int := if y > x then y else x
def goMin (x y : Int) : Int := if y < x then y else x
def w32 : Int → Int := IntKind.u32.wrap
theorem w32_eq (n : Int) : w32 n = n % 4294967296 := by
  have e : w32 n = (if (false && decide (n % (4294967296 : Int) ≥ (2147483648 : Int))) = true then n % 4294967296 - 4294967296 else n % 4294967296) := rfl
  rw [e]
  simp
theorem w32_id (n : Int) (h0 : 0 ≤ n) (h1 : n < 4294967296) : w32 n = n := by rw [w32_eq]; omega
theorem bCmp {op : BinOp} {t : TypeId} {x y : Operand} {v1 v2 : Value} {d d' : Bool} (h : BinIs Tryz.prog op t x y v1 v2 (.bool d)) (e : d = d') : BinIs Tryz.prog op t x y v1 v2 (.bool d') := e ▸ h
theorem bAri {op : BinOp} {t : TypeId} {x y : Operand} {v1 v2 : Value} {r c : Int} (h : BinIs Tryz.prog op t x y v1 v2 (.int .i64 (w64 r))) (e : r = c) (h0 : -9223372036854775808 ≤ c) (h1 : c < 9223372036854775808) : BinIs Tryz.prog op t x y v1 v2 (.int .i64 c) := by
  subst e
  rwa [w64_id _ h0 h1] at h
theorem bAriU {op : BinOp} {t : TypeId} {x y : Operand} {v1 v2 : Value} {r c : Int} (h : BinIs Tryz.prog op t x y v1 v2 (.int .u32 (w32 r))) (e : r = c) (h0 : 0 ≤ c) (h1 : c < 4294967296) : BinIs Tryz.prog op t x y v1 v2 (.int .u32 c) := by
  subst e
  rwa [w32_id _ h0 h1] at h
theorem eqT {a b : Int} (h : a = b) : (a == b) = true := by simp [h]
theorem eqF {a b : Int} (h : a ≠ b) : (a == b) = false := by simp [h]
theorem neT {a b : Int} (h : a ≠ b) : (!(a == b)) = true := by simp [h]
theorem neF {a b : Int} (h : a = b) : (!(a == b)) = false := by simp [h]
theorem roomOk {n b : Nat} (h : n ≤ 1000000) (hb : b ≤ 1000 := by decide) : roomB n b = true := by
  have : n * b ≤ 1000000 * 1000 := Nat.mul_le_mul h hb
  simp only [roomB, Bool.and_eq_true, decide_eq_true_eq]
  omega
theorem ixSl {t elem : TypeId} {k : Nat} {ts : List T} {n : Nat} {c : Bool} {ix : Int} {off : Nat} (hu : Tryz.prog.underlying t = some (.slice elem)) (hs : (Tryz.prog.info? elem).map (·.size) = some k) (h0 : 0 ≤ ix) (h1 : ix < n) (ho : ix.toNat * k = off) :
    indexAddrC Tryz.prog t (.t (.sl ts n c)) ix = some ⟨.t (.ptr ts off), [], []⟩ := by
  obtain ⟨i, hi, rfl⟩ := Option.map_eq_some_iff.1 hs
  unfold indexAddrC
  simp only [hu, hi]
  rw [if_pos ⟨h0, h1⟩, ho]
theorem ixOsl {t elem : TypeId} {k : Nat} {b n sz : Nat} {ix : Int} {off : Nat} (hu : Tryz.prog.underlying t = some (.slice elem)) (hs : (Tryz.prog.info? elem).map (·.size) = some k) (h0 : 0 ≤ ix) (h1 : ix < n) (ho : ix.toNat * k = off) :
    indexAddrC Tryz.prog t (.osl b n sz) ix = some ⟨.loc b off, [], []⟩ := by
  obtain ⟨i, hi, rfl⟩ := Option.map_eq_some_iff.1 hs
  unfold indexAddrC
  simp only [hu, hi]
  rw [if_pos ⟨h0, h1⟩, ho]

/-! Trees that say less. -/
def TLes (a b : List T) : Prop := ∀ (h : Array Obj) (I : Nat → Prop) (vs : List Value), RTs h I a vs → RTs h I b vs
def RLes (a b : List R) : Prop := ∀ (h : Array Obj) (J : Nat → Prop) (base : Nat) (outs : List Value) (os : List Nat), RR h J base a outs os → RR h J base b outs os
theorem tle_refl (a : T) : TLe a a := fun _ _ _ h => h
theorem TLes.refl (a : List T) : TLes a a := fun _ _ _ h => h
theorem TLes.nil : TLes [] [] := fun _ _ _ h => h
theorem TLes.cons {a b : T} {xs ys : List T} (h : TLe a b) (hs : TLes xs ys) : TLes (a :: xs) (b :: ys) := fun _ _ _ hr => by
  simp only [RTs] at hr ⊢
  obtain ⟨v, rest, rfl, h1, h2⟩ := hr
  exact ⟨v, rest, rfl, h _ _ _ h1, hs _ _ _ h2⟩
theorem tle_agg {xs ys : List T} (h : TLes xs ys) : TLe (.agg xs) (.agg ys) := fun _ _ _ hr => by
  simp only [RT] at hr ⊢
  obtain ⟨vs, rfl, h1⟩ := hr
  exact ⟨vs, rfl, h _ _ _ h1⟩
theorem tle_unbox (a : T) : TLe (.box a) a := fun _ _ _ hr => by
  simp only [RT] at hr
  exact hr.1
theorem tle_box {a : T} (h : ∀ (h : Array Obj) (I : Nat → Prop) (v : Value), RT h I a v → v.oneCell' = true) : TLe a (.box a) := fun _ _ _ hr => by
  simp only [RT]
  exact ⟨hr, h _ _ _ hr⟩
theorem RLes.nil : RLes [] [] := fun _ _ _ _ _ h => h
theorem RLes.t {a b : T} {xs ys : List R} (h : TLe a b) (hs : RLes xs ys) : RLes (.t a :: xs) (.t b :: ys) := fun _ _ _ _ _ hr => by
  simp only [RR] at hr ⊢
  obtain ⟨v, rest, rfl, h1, h2⟩ := hr
  exact ⟨v, rest, rfl, h _ _ _ h1, hs _ _ _ _ _ h2⟩
theorem holds_args {f : FuncId} {xs ys : List T} {rs : List R} (h : TLes xs ys) (hh : HoldsL f ys rs) : HoldsL f xs rs := fun w I vs h1 h2 h3 => hh w I vs h1 h2 (h _ _ _ h3)
theorem holds_res {f : FuncId} {xs : List T} {rs rs' : List R} (h : RLes rs rs') (hh : HoldsL f xs rs) : HoldsL f xs rs' := fun w I vs h1 h2 h3 => (hh w I vs h1 h2 h3).mono fun _ _ ⟨outs, J, os, a1, a2, a3, a4, a5, a6⟩ => ⟨outs, J, os, a1, a2, a3, a4, h _ _ _ _ _ a5, a6⟩
/-- A view, behind a constructor. -/
def bvT (v : List (Int × Int)) : T := .box (viewT v)
theorem bv_in (v : List (Int × Int)) : TLe (bvT v) (viewT v) := tle_unbox _
theorem bv_out (v : List (Int × Int)) : TLe (viewT v) (bvT v) := tle_box fun h I u hr => by
  cases v with
  | nil => simp only [viewT, RT] at hr; rw [hr.1]; rfl
  | cons p l => simp only [viewT, RT] at hr; obtain ⟨r, es, clk, l, rfl, _⟩ := hr; rfl
theorem bv_nil : TLe nilM (bvT []) := bv_out []
theorem bview_at (l : List (Int × Int)) (a : Int) : HoldsL 118 [.agg [bvT l], i64 a] [.t (i64 (vat l a))] :=
  holds_args (.cons (tle_agg (.cons (bv_in l) .nil)) (TLes.refl _)) (view_at l a)
def vwith (v : List (Int × Int)) (a n : Int) : List (Int × Int) := if n ≤ vat v a then v else vput v a n
theorem bview_with (l : List (Int × Int)) (a n : Int) (h0 : 0 ≤ a) (h1 : a < 4096) : HoldsL 112 [.agg [bvT l], i64 a, i64 n] [.t (.agg [bvT (vwith l a n)])] :=
  holds_args (.cons (tle_agg (.cons (bv_in l) .nil)) (TLes.refl _)) (holds_res (.t (tle_agg (.cons (bv_out _) .nil)) .nil) (view_with l a n h0 h1))
/-- Each thing's cells in a row. -/
def rows {α : Type} (f : α → List T) (l : List α) : List T := l.flatMap f
section
variable {α : Type} {f : α → List T} {k : Nat}
theorem rows_cons (x : α) (l : List α) : rows f (x :: l) = f x ++ rows f l := by simp [rows]
theorem rows_append (l m : List α) : rows f (l ++ m) = rows f l ++ rows f m := by simp [rows]
theorem rows_len (hk : ∀ x, (f x).length = k) : ∀ l : List α, (rows f l).length = l.length * k
  | [] => by simp [rows]
  | x :: l => by rw [rows_cons, List.length_append, hk, rows_len hk l, List.length_cons, Nat.add_mul]; omega
theorem rows_drop (hk : ∀ x, (f x).length = k) : ∀ (l : List α) (n : Nat), (rows f l).drop (n * k) = rows f (l.drop n)
  | [], n => by simp [rows]
  | x :: l, 0 => by simp
  | x :: l, n + 1 => by
    rw [rows_cons, List.drop_succ_cons, ← rows_drop hk l n, show (n + 1) * k = (f x).length + n * k by rw [hk, Nat.add_mul]; omega, ← List.drop_drop, List.drop_left]
theorem rows_take (hk : ∀ x, (f x).length = k) : ∀ (l : List α) (n : Nat), (rows f l).take (n * k) = rows f (l.take n)
  | [], n => by simp [rows]
  | x :: l, 0 => by simp [rows]
  | x :: l, n + 1 => by
    rw [rows_cons, List.take_succ_cons, rows_cons, ← rows_take hk l n, show (n + 1) * k = (f x).length + n * k by rw [hk, Nat.add_mul]; omega, List.take_append, List.take_of_length_le (by omega)]
    simp
theorem rows_get (hk : ∀ x, (f x).length = k) {l : List α} {i : Nat} {x : α} (hx : l[i]? = some x) {j s : Nat} (hj : j + s ≤ k) : ((rows f l).drop (i * k + j)).take s = ((f x).drop j).take s := by
  have hl := (List.getElem?_eq_some_iff.1 hx).1
  have hd : l.drop i = x :: l.drop (i + 1) := by
    rw [List.drop_eq_getElem_cons hl]
    congr 1
    exact (List.getElem?_eq_some_iff.1 hx).2
  rw [← List.drop_drop, rows_drop hk, hd, rows_cons, List.drop_append_of_le_length (by rw [hk]; omega), List.take_append_of_le_length (by rw [List.length_drop, hk]; omega)]
theorem rows_split (hk : ∀ x, (f x).length = k) {l : List α} {i : Nat} {x : α} (hx : l[i]? = some x) : rows f l = rows f (l.take i) ++ (f x ++ rows f (l.drop (i + 1))) := by
  have hl := (List.getElem?_eq_some_iff.1 hx).1
  have hd : l.drop i = x :: l.drop (i + 1) := by
    rw [List.drop_eq_getElem_cons hl]
    congr 1
    exact (List.getElem?_eq_some_iff.1 hx).2
  have : l = l.take i ++ x :: l.drop (i + 1) := by rw [← hd, List.take_append_drop]
  conv => lhs; rw [this]
  rw [rows_append, rows_cons]
theorem rows_set (hk : ∀ x, (f x).length = k) {l : List α} {i : Nat} {x : α} (hx : l[i]? = some x) (x' : α) : rows f (l.set i x') = rows f (l.take i) ++ (f x' ++ rows f (l.drop (i + 1))) := by
  have hl := (List.getElem?_eq_some_iff.1 hx).1
  have h := rows_split hk (l := l.set i x') (i := i) (x := x') (by rw [List.getElem?_set_self hl])
  rwa [List.take_set_of_le (by omega), List.drop_set_of_lt (by omega)] at h
theorem rowsLe (hk : ∀ x, (f x).length = k) {l : List α} {i : Nat} {x : α} (hx : l[i]? = some x) {j m : Nat} (hj : j + m ≤ k) : i * k + j + m ≤ List.length (List.map C.t (rows f l)) := by
  have hl := (List.getElem?_eq_some_iff.1 hx).1
  rw [List.length_map, rows_len hk]
  have : (i + 1) * k ≤ l.length * k := Nat.mul_le_mul_right k hl
  rw [Nat.add_mul] at this
  omega
theorem rowsSplice (hk : ∀ x, (f x).length = k) {l : List α} {i : Nat} {x x' : α} (hx : l[i]? = some x) {j : Nat} {xs : List C} (hj : j + xs.length ≤ k)
    (hf : (f x').map C.t = ((f x).map C.t).take j ++ xs ++ ((f x).map C.t).drop (j + xs.length)) : splice (List.map C.t (rows f l)) (i * k + j) xs = List.map C.t (rows f (l.set i x')) := by
  have hl := (List.getElem?_eq_some_iff.1 hx).1
  have hp : (List.map C.t (rows f (l.take i))).length = i * k := by rw [List.length_map, rows_len hk, List.length_take, Nat.min_eq_left (by omega)]
  have hm : ((f x).map C.t).length = k := by rw [List.length_map, hk]
  rw [rows_split hk hx, rows_set hk hx, List.map_append, List.map_append, List.map_append, List.map_append, hf]
  unfold splice
  rw [← hp, List.take_append, List.take_of_length_le (by omega), show (List.map C.t (rows f (List.take i l))).length + j - (List.map C.t (rows f (List.take i l))).length = j by omega, List.take_append_of_le_length (by omega), List.append_assoc, List.append_assoc, List.append_assoc,
    Nat.add_assoc, ← List.drop_drop, List.drop_left, List.drop_append_of_le_length (by omega)]
  simp [List.append_assoc]
theorem partAgg {ty : TypeId} {s : Nat} (hd : (Tryz.prog.underlying ty).map isAggB = some true) (hs : (Tryz.prog.info? ty).map (·.size) = some s) (hk : ∀ x, (f x).length = k) {l : List α} {i : Nat} {x : α} (hx : l[i]? = some x) {j : Nat} (hj : j + s ≤ k) {cs : List C} (hc : (((f x).drop j).take s).map C.t = cs) :
    partC Tryz.prog ty (List.map C.t (rows f l)) (i * k + j) = some (.agg cs) := by
  obtain ⟨d, h1, h2⟩ := Option.map_eq_some_iff.1 hd
  obtain ⟨ii, h3, rfl⟩ := Option.map_eq_some_iff.1 hs
  have hl := (List.getElem?_eq_some_iff.1 hx).1
  unfold partC
  simp only [h1, h3, h2, if_true]
  rw [if_pos (rowsLe hk hx hj), ← List.map_drop, ← List.map_take, rows_get hk hx hj, hc]
theorem part1 {ty : TypeId} (hd : (Tryz.prog.underlying ty).map isAggB = some false) (hs : (Tryz.prog.info? ty).isSome = true) (hk : ∀ x, (f x).length = k) {l : List α} {i : Nat} {x : α} (hx : l[i]? = some x) {j : Nat} (hj : j + 1 ≤ k) {c : C} (hc : (((f x).drop j).take 1).map C.t = [c]) :
    partC Tryz.prog ty (List.map C.t (rows f l)) (i * k + j) = some c := by
  obtain ⟨d, h1, h2⟩ := Option.map_eq_some_iff.1 hd
  obtain ⟨ii, h3⟩ := Option.isSome_iff_exists.1 hs
  unfold partC
  simp only [h1, h3, h2, Bool.false_eq_true, if_false]
  have h := rows_get hk hx hj
  have h2 : (((rows f l).drop (i * k + j)).take 1).map C.t = [c] := by rw [h, hc]
  have h3 : ((((rows f l).drop (i * k + j)).take 1).map C.t)[0]? = some c := by rw [h2]; rfl
  rw [List.getElem?_map, List.getElem?_take, if_pos (by omega), List.getElem?_drop, Nat.add_zero] at h3
  rw [List.getElem?_map]
  exact h3
/-- All of a row, its capacity cut off. -/
theorem clipRows {t : TypeId} (hs : (Tryz.prog.info? t).map (·.size) = some k) (hk : ∀ x, (f x).length = k) (l : List α) (c : Bool) : sliceC Tryz.prog (fun _ => none) t (.t (.sl (rows f l) l.length c)) none (some ((l.length : Nat) : Int)) (some ((l.length : Nat) : Int)) = some ⟨.t (.sl (rows f l) l.length true), [], []⟩ := by
  obtain ⟨ii, h3, rfl⟩ := Option.map_eq_some_iff.1 hs
  have hb : bounds3 l.length none (some (l.length : Int)) (some (l.length : Int)) = some (0, l.length, some l.length) := by simp [bounds3]
  unfold sliceC
  simp only [h3, hb]
  simp [clipOf, List.take_of_length_le, rows_len hk]
/-- The first n of a row; cut off where 'm' says so. -/
theorem takeRows {t : TypeId} (hs : (Tryz.prog.info? t).map (·.size) = some k) (hk : ∀ x, (f x).length = k) (l : List α) (c : Bool) (n : Nat) (hn : n ≤ l.length) : sliceC Tryz.prog (fun _ => none) t (.t (.sl (rows f l) l.length c)) none (some ((n : Nat) : Int)) (some ((n : Nat) : Int)) = some ⟨.t (.sl (rows f (l.take n)) n true), [], []⟩ := by
  obtain ⟨ii, h3, rfl⟩ := Option.map_eq_some_iff.1 hs
  have hb : bounds3 l.length none (some (n : Int)) (some (n : Int)) = some (0, n, some n) := by simp [bounds3, hn]
  unfold sliceC
  simp only [h3, hb]
  simp [clipOf, rows_take hk]
theorem dropRows {t : TypeId} (hs : (Tryz.prog.info? t).map (·.size) = some k) (hk : ∀ x, (f x).length = k) (l : List α) (n : Nat) (hn : n ≤ l.length) (lo : Int) (hlo : lo = n) (r : Nat) (hr : l.length - n = r) : sliceC Tryz.prog (fun _ => none) t (.t (.sl (rows f l) l.length false)) (some lo) none none = some ⟨.t (.sl (rows f (l.drop n)) r false), [], []⟩ := by
  obtain ⟨ii, h3, rfl⟩ := Option.map_eq_some_iff.1 hs
  subst hlo hr
  have hb : bounds3 l.length (some (n : Int)) none none = some (n, l.length, none) := by simp [bounds3, hn]
  unfold sliceC
  simp only [h3, hb]
  simp only [clipOf, Bool.false_and, rows_drop hk, ← Nat.sub_mul]
  rw [List.take_of_length_le (by rw [rows_len hk, List.length_drop]; exact Nat.le_refl _)]
end
end Go.Proofs.YtiegfchaepbnbaaGreatDoor
namespace Go.Proofs.YtiegfchaepbnbaaGreatDoor
open Go Go.RowKit Go.Va
set_option maxRecDepth 100000
set_option maxHeartbeats 400000
/-! ## What a row of entries says -/
abbrev Vw := List (Int × Int)
def keysOk (l : Vw) : Prop := (l.map (·.1)).Nodup
def lkV : Vw → Int → Option Int
  | [], _ => none
  | p :: l, k => if p.1 = k then some p.2 else lkV l k
theorem vat_lk : ∀ (l : Vw) (k : Int), vat l k = (lkV l k).getD 0
  | [], k => rfl
  | p :: l, k => by
    have ih := vat_lk l k
    unfold vat at ih ⊢
    simp only [vix, lkV]
    by_cases h : p.1 = k
    · simp [h]
    · simp only [if_neg h]
      cases hv : vix k l with
      | none => simp [hv] at ih ⊢; exact ih
      | some i => simp [hv] at ih ⊢; exact ih
theorem lk_none : ∀ {l : Vw} {k : Int}, lkV l k = none ↔ k ∉ l.map (·.1)
  | [], k => by simp [lkV]
  | p :: l, k => by
    simp only [lkV, List.map_cons, List.mem_cons, not_or]
    by_cases h : p.1 = k
    · simp [h]
    · rw [if_neg h, lk_none]
      constructor
      · exact fun h' => ⟨fun e => h e.symm, h'⟩
      · exact fun h' => h'.2
theorem lk_mem : ∀ {l : Vw}, keysOk l → ∀ {k v : Int}, lkV l k = some v ↔ (k, v) ∈ l
  | [], _, k, v => by simp [lkV]
  | p :: l, hn, k, v => by
    unfold keysOk at hn
    simp only [List.map_cons, List.nodup_cons] at hn
    simp only [lkV, List.mem_cons]
    by_cases h : p.1 = k
    · rw [if_pos h]
      constructor
      · intro e; left; cases e; rw [← h]
      · rintro (e | e)
        · rw [← e]
        · exact (hn.1 (h ▸ List.mem_map.2 ⟨_, e, rfl⟩)).elim
    · rw [if_neg h, lk_mem hn.2]
      constructor
      · exact .inr
      · rintro (e | e)
        · exact (h (by rw [← e])).elim
        · exact e
theorem perm_of_lk {l m : Vw} (hl : keysOk l) (hm : keysOk m) (h : ∀ k, lkV l k = lkV m k) : l.Perm m := by
  have nd : ∀ {x : Vw}, keysOk x → x.Nodup := fun hx => nodup_of_map _ hx
  rw [List.perm_ext_iff_of_nodup (nd hl) (nd hm)]
  rintro ⟨k, v⟩
  rw [← lk_mem hl, ← lk_mem hm, h]
theorem vput_cons (p : Int × Int) (l : Vw) (a n : Int) : vput (p :: l) a n = if p.1 = a then (a, n) :: l else p :: vput l a n := by
  unfold vput
  simp only [vix]
  by_cases h : p.1 = a
  · simp [h]
  · simp only [if_neg h]
    cases vix a l <;> simp
theorem lk_vput (a n : Int) : ∀ (l : Vw) (k : Int), lkV (vput l a n) k = if a = k then some n else lkV l k
  | [], k => by simp [vput, vix, lkV]
  | p :: l, k => by
    rw [vput_cons]
    by_cases h : p.1 = a
    · rw [if_pos h]
      simp only [lkV, h]
      by_cases hk : a = k <;> simp [hk]
    · rw [if_neg h]
      simp only [lkV, lk_vput a n l k]
      by_cases hp : p.1 = k
      · rw [if_pos hp, if_pos hp, if_neg (fun e => h (hp.trans e.symm))]
      · rw [if_neg hp, if_neg hp]
theorem mem_vput (a n : Int) : ∀ (l : Vw) (k : Int), k ∈ (vput l a n).map (·.1) ↔ k = a ∨ k ∈ l.map (·.1)
  | [], k => by simp [vput, vix]
  | p :: l, k => by
    rw [vput_cons]
    by_cases h : p.1 = a
    · rw [if_pos h]; simp [h]
    · rw [if_neg h]
      simp only [List.map_cons, List.mem_cons, mem_vput a n l k]
      constructor
      · rintro (h | h | h) <;> simp [h]
      · rintro (h | h | h) <;> simp [h]
theorem ok_vput (a n : Int) : ∀ (l : Vw), keysOk l → keysOk (vput l a n)
  | [], _ => by simp [vput, vix, keysOk]
  | p :: l, hn => by
    unfold keysOk at hn ⊢
    simp only [List.map_cons, List.nodup_cons] at hn
    rw [vput_cons]
    by_cases h : p.1 = a
    · rw [if_pos h]
      simp only [List.map_cons, List.nodup_cons]
      exact ⟨h ▸ hn.1, hn.2⟩
    · rw [if_neg h]
      simp only [List.map_cons, List.nodup_cons, mem_vput, not_or]
      exact ⟨⟨h, hn.1⟩, ok_vput a n l hn.2⟩
theorem vput_ne (l : Vw) (a n : Int) : vput l a n ≠ [] := by
  cases l with
  | nil => simp [vput, vix]
  | cons p l => rw [vput_cons]; split <;> simp
/-- One round. -/
def jstep (m : Vw) (p : Int × Int) : Vw := vput m p.1 (goMax (vat m p.1) p.2)
def vjoin (a b : Vw) : Vw := match b with
  | [] => a
  | q :: b => a.foldl jstep (q :: b)
def jsay (td m : Vw) (k : Int) : Option Int := match lkV td k with
  | none => lkV m k
  | some n => some (goMax ((lkV m k).getD 0) n)
theorem lk_erase : ∀ {l : Vw}, keysOk l → ∀ {j : Nat} {p : Int × Int}, l[j]? = some p → ∀ k, lkV (l.eraseIdx j) k = if p.1 = k then none else lkV l k
  | [], _, j, p, h, k => by simp at h
  | q :: l, hn, 0, p, h, k => by
    simp only [List.getElem?_cons_zero, Option.some.injEq] at h
    subst h
    unfold keysOk at hn
    simp only [List.map_cons, List.nodup_cons] at hn
    simp only [List.eraseIdx_cons_zero, lkV]
    by_cases hk : q.1 = k
    · rw [if_pos hk]; exact lk_none.2 (hk ▸ hn.1)
    · rw [if_neg hk, if_neg hk]
  | q :: l, hn, j + 1, p, h, k => by
    simp only [List.getElem?_cons_succ] at h
    unfold keysOk at hn
    simp only [List.map_cons, List.nodup_cons] at hn
    simp only [List.eraseIdx_cons_succ, lkV, lk_erase hn.2 h k]
    by_cases hq : q.1 = k
    · rw [if_pos hq, if_pos hq, if_neg]
      intro e
      exact hn.1 (by rw [hq, ← e]; exact List.mem_map.2 ⟨p, List.mem_of_getElem? h, rfl⟩)
    · rw [if_neg hq, if_neg hq]
theorem lk_get {l : Vw} (hn : keysOk l) {j : Nat} {p : Int × Int} (h : l[j]? = some p) : lkV l p.1 = some p.2 := (lk_mem hn).2 (List.mem_of_getElem? h)
theorem jsay_step {td : Vw} (hn : keysOk td) (m : Vw) {j : Nat} {p : Int × Int} (h : td[j]? = some p) (k : Int) : jsay (td.eraseIdx j) (jstep m p) k = jsay td m k := by
  unfold jsay jstep
  rw [lk_erase hn h, lk_vput, vat_lk]
  by_cases hk : p.1 = k
  · subst hk
    simp [lk_get hn h]
  · simp only [if_neg hk]
theorem ok_erase {td : Vw} (hn : keysOk td) (j : Nat) : keysOk (td.eraseIdx j) := by
  unfold keysOk at hn ⊢
  exact List.Nodup.sublist (List.Sublist.map _ (List.eraseIdx_sublist td j)) hn
theorem lk_foldl : ∀ {td : Vw}, keysOk td → ∀ (m : Vw) (k : Int), lkV (td.foldl jstep m) k = jsay td m k
  | [], _, m, k => rfl
  | p :: td, hn, m, k => by
    have h1 := ok_erase hn 0
    rw [List.foldl_cons, lk_foldl (by simpa using h1) (jstep m p) k]
    have h2 := jsay_step hn m (j := 0) (p := p) rfl k
    simpa using h2
theorem ok_foldl : ∀ (td m : Vw), keysOk m → keysOk (td.foldl jstep m)
  | [], m, h => h
  | p :: td, m, h => ok_foldl td _ (ok_vput _ _ _ h)
theorem foldl_ne : ∀ (td m : Vw), m ≠ [] → td.foldl jstep m ≠ []
  | [], m, h => h
  | p :: td, m, _ => foldl_ne td _ (vput_ne _ _ _)
/-! ## The code -/
theorem rt_keys {h : Array Obj} {I : Nat → Prop} {l : Vw} {v : Value} (hr : RT h I (viewT l) v) : keysOk l := by
  cases l with
  | nil => exact List.nodup_nil
  | cons p l =>
    simp only [viewT, RT] at hr
    obtain ⟨r, es, clk, m, rfl, _, _, hm, hk, _⟩ := hr
    have h1 := hm.keys
    rw [hk] at h1
    unfold keysV at h1
    have e : ((p :: l).map fun p => Value.int .i64 p.1) = ((p :: l).map (·.1)).map fun x => Value.int .i64 x := by simp
    rw [e] at h1
    exact nodup_of_map _ h1
theorem holds_keys {f : FuncId} {a b : Vw} {rs : List R} (h : keysOk a → keysOk b → HoldsL f [.agg [viewT a], .agg [viewT b]] rs) : HoldsL f [.agg [viewT a], .agg [viewT b]] rs := by
  intro w I vs h1 h2 h3
  have h4 := h3
  simp only [RTs, RT] at h4
  obtain ⟨_, _, _, ⟨x, _, ⟨v, _, _, hv, _⟩⟩, _, _, _, ⟨y, _, ⟨u, _, _, hu, _⟩⟩, _⟩ := h4
  exact h (rt_keys hv) (rt_keys hu) w I vs h1 h2 h3
noncomputable def bodyJ : Code := (Tryz.f122.body).getD .skip
noncomputable abbrev XJ : Code → S → Va.Tape → Option (Ex × S × Va.Tape × List Prop) := XX 122 Tryz.f122.ntmps
def itV (l : Vw) : List (Value × T) := l.map fun p => (.int .i64 p.1, i64 p.2)
def SJ (td : Vw) (cu : Option (Value × T)) (m : Vw) : S := ⟨[(4, .loc 0 0), (5, .omp 1), (18, .loc 2 0)], [some (.cells [.t nilM] false), some (.map (keysV m) ((valsV m).map .t) false), some (.iter (itV td) cu)]⟩
def SE (m : Vw) : S := ⟨[(4, .loc 0 0), (5, .omp 1)], [some (.cells [.t nilM] false), some (.map (keysV m) ((valsV m).map .t) false)]⟩
noncomputable def pre3 : Code := c2 (c2 (c2 bodyJ))
noncomputable def loopJ : Code := inL (inB (c2 (c1 pre3)))
noncomputable def afterJ : Code := c2 pre3
theorem restJ_eq : restC 3 bodyJ = .seq (.seq (c1 (c1 pre3)) (.block 0 (.loop loopJ))) afterJ := by kernel_rfl
noncomputable def opsJ : Array Oper := match c1 loopJ with
  | .region _ o _ => o
  | _ => #[]
theorem loopJ_eq : loopJ = .seq (.region 5 opsJ false) (c2 loopJ) := by kernel_rfl
def SP (x : T) (m : Vw) : S := ⟨[(2, .loc 0 0), (4, .loc 1 0), (5, .omp 2)], [some (.cells [.t x] false), some (.cells [.t nilM] false), some (.map (keysV m) ((valsV m).map .t) false)]⟩
noncomputable abbrev PJ : S → Va.Tape → Option (S × Va.Tape × List Prop) := PX 122 Tryz.f122.ntmps 3 bodyJ
theorem preJ (q : Int × Int) (b : Vw) (x : T) : tidiedPO [0, 2, 3] [3] [2, 4, 5] (PJ ⟨initE [.agg [.box x], .agg [viewT (q :: b)]] 0, []⟩
    [((122, 11), .res (.t (bl false))), ((122, 15), .call [.omp (keysV (q :: b)) (valsV (q :: b))])]) =
    some (SP (.box x) (q :: b), [], [BinIs Tryz.prog .eql 3 (.tmp 10) (.const (.int .i64 0)) (.int .i64 ((keysV (q :: b)).length : Nat)) (.int .i64 0) (.bool false), HoldsL 120 [viewT (q :: b)] [.omp (keysV (q :: b)) (valsV (q :: b))]], [some (.map (keysV (q :: b)) ((valsV (q :: b)).map .t) false)]) := by kernel_rfl
theorem startJ0 (m : Vw) : tidiedO [1, 2, 3] [2] [4, 5, 18] (XJ (c1 (c1 pre3)) (SP (bvT []) m) [((122, 17), .ub)]) = some (.normal, SJ [] none m, [], [], [some (.map (keysV m) ((valsV m).map .t) false)]) := by kernel_rfl
theorem startJ1 (p : Int × Int) (a m : Vw) : tidiedO [1, 2, 3] [2] [4, 5, 18] (XJ (c1 (c1 pre3)) (SP (bvT (p :: a)) m) [((122, 17), .ub), ((122, 18), .rg (itV (p :: a)))]) = some (.normal, SJ (p :: a) none m, [], [rangeT (.mp (keysV (p :: a)) (valsV (p :: a))) = some (itV (p :: a))], [some (.map (keysV m) ((valsV m).map .t) false)]) := by kernel_rfl
/-- The loop's state behind 'next'. -/
def SN (td : Vw) (cu : Option (Value × T)) (m : Vw) (c d : C) : S := ⟨[(4, .loc 0 0), (5, .omp 1), (18, .loc 2 0), (19, c), (20, d)], [some (.cells [.t nilM] false), some (.map (keysV m) ((valsV m).map .t) false), some (.iter (itV td) cu)]⟩
noncomputable def restJ : Code := c2 loopJ
theorem outJ (cu : Option (Value × T)) (m : Vw) : tidiedO [0, 1] [1] [4, 5] (XJ restJ (SN [] cu m (.tup [goB false]) (goB false)) []) = some (.exit 0, SE m, [], [], [some (.map (keysV m) ((valsV m).map .t) false)]) := by kernel_rfl
theorem roundJ1 (td m : Vw) (a n : Int) : tidiedO [0, 1, 2] [1] [4, 5, 18] (XJ restJ (SN td (some (.int .i64 a, i64 n)) m (.tup [goB true, .t (.lit (.int .i64 a)), .t (i64 n)]) (goB true)) [((122, 28), .lk none), ((122, 0), .up none)]) =
    some (.normal, ⟨[(4, .loc 0 0), (5, .omp 1), (18, .loc 2 0)], [some (.cells [.t nilM] false), some (.map (keysV m ++ [.int .i64 a]) ((valsV m).map .t ++ [.t (i64 (goMax 0 n))]) false), some (.iter (itV td) (some (.int .i64 a, i64 n)))]⟩, [], [findK (.int .i64) (.int .i64 a) (keysV m) = some none, findK (.int .i64) (.int .i64 a) (keysV m) = some none],
      [some (.map (keysV m ++ [.int .i64 a]) ((valsV m).map .t ++ [.t (i64 (goMax 0 n))]) false)]) := by kernel_rfl
theorem roundJ2 (td m : Vw) (a n v : Int) (i : Nat) : tidiedO [0, 1, 2] [1] [4, 5, 18] (XJ restJ (SN td (some (.int .i64 a, i64 n)) m (.tup [goB true, .t (.lit (.int .i64 a)), .t (i64 n)]) (goB true)) [((122, 28), .lv i (.t (i64 v))), ((122, 0), .up (some i))]) =
    some (.normal, ⟨[(4, .loc 0 0), (5, .omp 1), (18, .loc 2 0)], [some (.cells [.t nilM] false), some (.map (keysV m) (((valsV m).map .t).set i (.t (i64 (goMax v n)))) false), some (.iter (itV td) (some (.int .i64 a, i64 n)))]⟩, [], [findK (.int .i64) (.int .i64 a) (keysV m) = some (some i), ((valsV m).map C.t)[i]? = some (.t (i64 v)), findK (.int .i64) (.int .i64 a) (keysV m) = some (some i), ((valsV m).map C.t).length = (keysV m).length],
      [some (.map (keysV m) (((valsV m).map .t).set i (.t (i64 (goMax v n)))) false)]) := by kernel_rfl
noncomputable abbrev ntJ : Nat := Tryz.f122.ntmps
theorem tidO {c : Code} {s : S} {tp : Va.Tape} {x : Ex} {s1 : S} {ps : List Prop} {k : Blk} {ord opq ks : List Nat} (h : tidiedO ord opq ks (XJ c s tp) = some (x, s1, [], ps, [some k])) (hk : OpqB k ∨ OpqM k) (hp : All ps) : ∃ s', ExecS Tryz.prog gG ntJ c s x s' ∧ Weak gG ntJ s' s1 := by
  obtain ⟨s', o1, o2⟩ := tidiedO_some' (G := gG) (nt := ntJ) h (by intro k' hk'; simp only [List.mem_singleton, Option.some.injEq] at hk'; exact hk' ▸ hk)
  exact ⟨s', XX_sound o1 hp, o2⟩
theorem itV_get {l : Vw} {j : Nat} {k : Value} {y : T} (h : (itV l)[j]? = some (k, y)) : ∃ p, l[j]? = some p ∧ k = .int .i64 p.1 ∧ y = i64 p.2 := by
  unfold itV at h
  rw [List.getElem?_map] at h
  cases hl : l[j]? with
  | none => simp [hl] at h
  | some p =>
    simp only [hl, Option.map_some, Option.some.injEq, Prod.mk.injEq] at h
    exact ⟨p, rfl, h.1.symm, h.2.symm⟩
theorem itV_erase : ∀ (l : Vw) (j : Nat), (itV l).eraseIdx j = itV (l.eraseIdx j)
  | [], j => by simp [itV]
  | p :: l, 0 => by simp [itV]
  | p :: l, j + 1 => by
    have := itV_erase l j
    unfold itV at this ⊢
    simp [this]
theorem jstep_exec (td m : Vw) (p : Int × Int) : ∃ s', ExecS Tryz.prog gG ntJ restJ (SN td (some (.int .i64 p.1, i64 p.2)) m (.tup [goB true, .t (.lit (.int .i64 p.1)), .t (i64 p.2)]) (goB true)) .normal s' ∧ Weak gG ntJ s' (SJ td (some (.int .i64 p.1, i64 p.2)) (jstep m p)) := by
  cases h : vix p.1 m with
  | none =>
    have hk : findK (.int .i64) (.int .i64 p.1) (keysV m) = some none := by rw [findK_v, h]
    have hv : vat m p.1 = 0 := by unfold vat; rw [h]
    have hj : jstep m p = m ++ [(p.1, goMax 0 p.2)] := by unfold jstep vput; rw [hv, h]
    rw [hj]
    obtain ⟨s', h1, h2⟩ := tidO (roundJ1 td m p.1 p.2) (.inr ⟨keysV m ++ [.int .i64 p.1], valsV m ++ [i64 (goMax 0 p.2)], false, by simp⟩) (.cons hk (.cons hk .nil))
    refine ⟨s', h1, ?_⟩
    have e1 : keysV (m ++ [(p.1, goMax 0 p.2)]) = keysV m ++ [.int .i64 p.1] := by simp [keysV]
    have e2 : (valsV (m ++ [(p.1, goMax 0 p.2)])).map C.t = (valsV m).map .t ++ [.t (i64 (goMax 0 p.2))] := by simp [valsV]
    unfold SJ
    rw [e1, e2]
    exact h2
  | some i =>
    obtain ⟨v, hvi⟩ := vix_get p.1 _ i h
    have hv : vat m p.1 = v := by unfold vat; rw [h]; simp [hvi]
    have hk : findK (.int .i64) (.int .i64 p.1) (keysV m) = some (some i) := by rw [findK_v, h]
    have hg : ((valsV m).map C.t)[i]? = some (.t (i64 v)) := by
      simp only [valsV, List.map_map, List.getElem?_map, hvi]
      rfl
    have hl : ((valsV m).map C.t).length = (keysV m).length := by simp [valsV, keysV]
    have hj : jstep m p = m.set i (p.1, goMax v p.2) := by unfold jstep vput; rw [hv, h]
    rw [hj]
    obtain ⟨s', h1, h2⟩ := tidO (roundJ2 td m p.1 p.2 v i) (.inr ⟨keysV m, (valsV m).set i (i64 (goMax v p.2)), false, by simp⟩) (.cons hk (.cons hg (.cons hk (.cons hl .nil))))
    refine ⟨s', h1, ?_⟩
    have e1 : keysV (m.set i (p.1, goMax v p.2)) = keysV m := by
      unfold keysV
      rw [List.map_set]
      refine List.set_getElem?_self' ?_
      rw [List.getElem?_map, hvi]
      rfl
    have e2 : (valsV (m.set i (p.1, goMax v p.2))).map C.t = ((valsV m).map .t).set i (.t (i64 (goMax v p.2))) := by
      unfold valsV
      rw [List.map_set, List.map_set]
    unfold SJ
    rw [e1, e2]
    exact h2
theorem opsJ_eq : ∃ o1 l2, opsJ.toList = o1 :: l2 ∧ o1.op = .next (.tmp 18) false ∧ o1.guard = none ∧ o1.dst = some 19 ∧
    (∀ cu m, runO Tryz.prog gG nobody ntJ opsJ l2 3 ⟨ins 19 (.tup [goB false]) (SJ [] cu m).env, (SJ [] cu m).heap ++ List.replicate (total l2) none⟩ = some (SN [] cu m (.tup [goB false]) (goB false), [([], [])])) ∧
    (∀ td td' cu cu' m k y, runO Tryz.prog gG nobody ntJ opsJ l2 3 ⟨ins 19 (.tup [goB true, .t (.lit k), .t y]) (SJ td cu m).env, setAt (SJ td cu m).heap 2 (some (.iter (itV td') cu')) ++ List.replicate (total l2) none⟩ = some (SN td' cu' m (.tup [goB true, .t (.lit k), .t y]) (goB true), [([], [])])) :=
  ⟨_, _, rfl, rfl, rfl, rfl, fun _ _ => by kernel_rfl, fun _ _ _ _ _ _ _ => by kernel_rfl⟩
theorem sj_perm {td : Vw} {cu : Option (Value × T)} {m m' : Vw} (h : m.Perm m') : Weak gG ntJ (SE m) (SE m') :=
  weak_perm (s := SE m) (i := 1) (f := fun p : Int × Int => .int .i64 p.1) (g := fun p : Int × Int => .t (i64 p.2)) (l := m) (l' := m') (fz := false) (by simp [SE, keysV, valsV]) h |> fun hw => by
    have e : (SE m').heap = (SE m).heap.set 1 (some (.map (m'.map fun p : Int × Int => .int .i64 p.1) (m'.map fun p : Int × Int => .t (i64 p.2)) false)) := by simp [SE, keysV, valsV]
    have e2 : SE m' = ⟨(SE m).env, (SE m).heap.set 1 (some (.map (m'.map fun p : Int × Int => .int .i64 p.1) (m'.map fun p : Int × Int => .t (i64 p.2)) false))⟩ := by rw [← e]; rfl
    rw [e2]
    exact hw
theorem loopJ_exec (fin : Vw) (hf : keysOk fin) {td m : Vw} {cu : Option (Value × T)} (h1 : keysOk td) (h2 : keysOk m) (h3 : ∀ k, lkV fin k = jsay td m k) : ExecS Tryz.prog gG ntJ (.loop loopJ) (SJ td cu m) (.exit 0) (SE fin) := by
  refine loopM (by simp) (fun k s => ∃ td cu m, k = td.length ∧ s = SJ td cu m ∧ keysOk td ∧ keysOk m ∧ ∀ k, lkV fin k = jsay td m k) ?_ ⟨td, cu, m, rfl, rfl, h1, h2, h3⟩
  rintro k s ⟨td, cu, m, rfl, rfl, g1, g2, g3⟩
  rw [loopJ_eq]
  obtain ⟨o1, l2, q1, q2, q3, q4, q5, q6⟩ := opsJ_eq
  refine ExecM.nextAny (b := 2) q1 q2 q3 q4 (of_decide_eq_true (by kernel_rfl)) (td := itV td) (cu := cu) rfl rfl (by simp [SJ]) (fun h0 => ?_) fun j k y hj _ => ?_
  · have htd : td = [] := by
      cases td with
      | nil => rfl
      | cons p l => simp [itV] at h0
    subst htd
    refine ⟨_, _, q5 cu m, ?_⟩
    obtain ⟨s', e1, e2⟩ := tidO (outJ cu m) (.inr ⟨keysV m, valsV m, false, rfl⟩) .nil
    refine ExecM.of e1 (.inl ⟨rfl, e2.trans (sj_perm (td := []) (cu := none) ?_)⟩)
    exact perm_of_lk g2 hf fun k => (g3 k).symm
  · obtain ⟨p, p1, rfl, rfl⟩ := itV_get hj
    rw [itV_erase]
    refine ⟨_, _, q6 td (td.eraseIdx j) cu _ m _ _, ?_⟩
    obtain ⟨s', e1, e2⟩ := jstep_exec (td.eraseIdx j) m p
    refine ExecM.of e1 (.inr ⟨rfl, (td.eraseIdx j).length, _, ?_, e2, _, _, _, rfl, rfl, ok_erase g1 j, ok_vput _ _ _ g2, fun k => ?_⟩)
    · have := (List.getElem?_eq_some_iff.1 p1).1
      rw [List.length_eraseIdx_of_lt this]
      omega
    · rw [g3, jsay_step g1 m p1]
theorem rangeV (p : Int × Int) (l : Vw) : rangeT (.mp (keysV (p :: l)) (valsV (p :: l))) = some (itV (p :: l)) := by
  have h : (keysV (p :: l)).length = (valsV (p :: l)).length ∧ (keysV (p :: l)).all flat = true := by
    refine ⟨by simp [keysV, valsV], ?_⟩
    rw [List.all_eq_true]
    intro x hx
    obtain ⟨q, _, rfl⟩ := List.mem_map.1 hx
    rfl
  simp only [rangeT]
  rw [if_pos h]
  unfold keysV valsV itV
  rw [List.zip_map, List.zip_eq_zipWith]
  simp [List.zipWith_self]
theorem afterJ_run (m : Vw) : tidiedO [0] [] [4] (XJ afterJ (SE m) [((122, 32), .fz [(1, valsV m)])]) = some (.ret, ⟨[(4, .loc 0 0)], [some (.cells [.t (.mp (keysV m) (valsV m))] false)]⟩, [], [(valsV m).map C.t = (valsV m).map C.t], []) := by kernel_rfl
theorem retJ (ks : List Value) (vs : List T) : retR Tryz.prog Tryz.f122 ⟨[(4, .loc 0 0)], [some (.cells [.t (.mp ks vs)] false)]⟩ = some [.t (.agg [.mp ks vs])] := by kernel_rfl
theorem lenEq (q : Int × Int) (b : Vw) : BinIs Tryz.prog .eql 3 (.tmp 10) (.const (.int .i64 0)) (.int .i64 ((keysV (q :: b)).length : Nat)) (.int .i64 0) (.bool false) := by
  refine bCmp (d := ((((keysV (q :: b)).length : Nat) : Int) == 0)) (by unfold BinIs; kernel_rfl) (eqF ?_)
  simp [keysV]
  omega
theorem view_join (a b : Vw) : HoldsL 122 [.agg [viewT a], .agg [viewT b]] [.t (.agg [viewT (vjoin a b)])] := by
  refine holds_keys fun ka kb => ?_
  cases b with
  | nil =>
    have e : runX Tryz.prog gG noF 10 122 [.agg [bvT a], .agg [viewT []]] [] = some ([.t (.agg [bvT a])], [], []) := by kernel_rfl
    have h : HoldsL 122 [.agg [bvT a], .agg [viewT []]] [.t (.agg [bvT a])] := sndL 10 _ _ _ _ _ _ e .nil
    exact holds_args (.cons (tle_agg (.cons (bv_out a) .nil)) (TLes.refl _)) (holds_res (.t (tle_agg (.cons (bv_in _) .nil)) .nil) h)
  | cons q b =>
    have hne := foldl_ne a (q :: b) (by simp)
    have hv : viewT (vjoin a (q :: b)) = .mp (keysV (vjoin a (q :: b))) (valsV (vjoin a (q :: b))) := viewT_ne hne
    have hkf : keysOk (vjoin a (q :: b)) := ok_foldl _ _ kb
    rw [hv]
    obtain ⟨s2, e1, e2⟩ : ∃ s2, ExecS Tryz.prog gG ntJ afterJ (SE (vjoin a (q :: b))) .ret s2 ∧ Weak gG ntJ s2 ⟨[(4, .loc 0 0)], [some (.cells [.t (.mp (keysV (vjoin a (q :: b))) (valsV (vjoin a (q :: b))))] false)]⟩ := by
      obtain ⟨s', o1, o2⟩ := tidiedO_some' (G := gG) (nt := ntJ) (afterJ_run (vjoin a (q :: b))) (by intro k hk; cases hk)
      exact ⟨s', XX_sound o1 (.cons rfl .nil), o2⟩
    refine holds_args (.cons (tle_agg (.cons (bv_out a) .nil)) (TLes.refl _)) ?_
    refine holds_of_ExecS (args := [.agg [bvT a], .agg [viewT (q :: b)]]) (c := bodyJ) (x := .ret) Tryz.func122 (by kernel_rfl) (of_decide_eq_true (by kernel_rfl)) ?_ (.inr rfl) (retJ _ _)
    have start : ∃ s3, ExecS Tryz.prog gG ntJ (c1 (c1 pre3)) (SP (bvT a) (q :: b)) .normal s3 ∧ Weak gG ntJ s3 (SJ a none (q :: b)) := by
      cases a with
      | nil => exact tidO (startJ0 (q :: b)) (.inr ⟨keysV (q :: b), valsV (q :: b), false, rfl⟩) .nil
      | cons p a => exact tidO (startJ1 p a (q :: b)) (.inr ⟨keysV (q :: b), valsV (q :: b), false, rfl⟩) (.cons (rangeV p a) .nil)
    obtain ⟨s3, g1, g2⟩ := start
    refine PXO_sound (preJ q b (viewT a)) (by intro k hk; simp only [List.mem_singleton, Option.some.injEq] at hk; exact hk ▸ .inr ⟨_, valsV (q :: b), false, rfl⟩) (.cons (lenEq q b) (.cons (clone_some _ _) .nil)) ?_
    rw [restJ_eq]
    exact .seq (.seq g1 (ExecS.weak g2 (.blockIn (loopJ_exec _ hkf ka kb fun k => lk_foldl ka _ k)))) (ExecS.post e1 e2)
theorem bview_join (a b : Vw) : HoldsL 122 [.agg [bvT a], .agg [bvT b]] [.t (.agg [bvT (vjoin a b)])] :=
  holds_args (.cons (tle_agg (.cons (bv_in a) .nil)) (.cons (tle_agg (.cons (bv_in b) .nil)) .nil)) (holds_res (.t (tle_agg (.cons (bv_out _) .nil)) .nil) (view_join a b))
end Go.Proofs.YtiegfchaepbnbaaGreatDoor
