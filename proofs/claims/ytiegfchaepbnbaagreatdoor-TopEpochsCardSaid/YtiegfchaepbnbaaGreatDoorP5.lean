/- Each operation of the interpreter is what the model does: append, copy. Calls, and every operation. Every operation of the interpreter is what the model does. -/
import Derived.Test.YtiegfchaepbnbaaGreatDoorP4
namespace Go.Va
open Go Go.RowKit

section
variable {P : Program} {G : Nat → Option (List T)} {base nt : Nat} {w0 : Base} {w : World} {ρ : Nat → Option Nat} {I : Nat → Prop} {e : Nat → Option C} {H : Nat → Option Blk} {a : Act}

theorem room_fits {n bytes : Nat} (h : roomB n bytes = true) : n * bytes ≤ 140737488355328 ∧ (n : Int) ≤ 9223372036854775807 := by
  unfold roomB at h
  simp only [Bool.and_eq_true, decide_eq_true_eq] at h
  omega

/-- What an append that lays a new row leaves. -/
theorem step_grown (hs : SimH G base w0 ρ I H w) (hb : base ≤ w0.w.heap.size) {id hi : Nat} (hid : ρ id = none) (hlt : id < hi) (el : TypeId) {cs : List C} {olds news : List Value} {z : Array Value} {n cap sz : Nat} {fp : List Nat}
    (h1 : RCs ρ w.heap I cs (olds ++ news)) (h2 : ones (olds ++ news)) (hn : cs.length = n * sz) (hz : z.size = sz) (hcap : n ≤ cap) :
    Step G base w0 ρ I H w id hi ⟨.osl id n sz, [(id, some (.cells cs false))], fp⟩ (.slice (some ⟨w.heap.size, 0, none⟩) n cap)
      (upR ρ id w.heap.size) I (w.drew.alloc (.cells (olds.toArray ++ news.toArray ++ Builtin.zeroCells z (cap - n)) el)) := by
  have hl := h1.length
  have hw : win (olds.toArray ++ news.toArray ++ Builtin.zeroCells z (cap - n)) 0 cs.length = olds ++ news := by
    simp only [win, List.drop_zero, Array.toList_append]
    rw [List.take_append_of_le_length (by simp at hl ⊢; omega)]
    rw [List.take_of_length_le (by simp at hl ⊢; omega)]
  have := step_row (w := w.drew) (fp := fp) hs.drew hb hid hlt (olds.toArray ++ news.toArray ++ Builtin.zeroCells z (cap - n)) el (cs := cs) (c := .osl id n sz) (v := .slice (some ⟨w.heap.size, 0, none⟩) n cap)
    (by simp at hl ⊢; omega) (by rw [hw]; exact h1) (by rw [hw]; exact h2) (by
      simp only [RC]
      refine ⟨w.heap.size, cap, _, el, (0, 0), by simp [upR], rfl, hcap, alloc_new w.drew _, ?_⟩
      simp only [Array.size_append, List.size_toArray, zeroCells_length, hz]
      have e1 : olds.length + news.length = n * sz := by simp at hl; omega
      have e2 : cap * sz = n * sz + (cap - n) * sz := by rw [← Nat.add_mul]; congr 1; omega
      omega)
  exact ⟨this.ext, this.rho, this.out, this.val, this.mem⟩

theorem append_sound (hs : Sim G base w0 nt ρ I e H a w) (hb : base ≤ w0.w.heap.size) {id hi : Nat} (hid : ρ id = none) (hlt : id < hi) {t elem : TypeId} {i : TypeInfo} {z : List C} (hu : P.underlying t = some (.slice elem)) (hi' : P.info? elem = some i)
    (hz : zeroL P elem = some z) (hzl : z.length = i.size) {cd cx : C} {vd vx : Value} (hvd : RC ρ w.heap I cd vd) (hvx : RC ρ w.heap I cx vx) {eff : Eff} (h : appendC H id i.size i.bytes cd cx = some eff) (ty : TypeId) :
    ∃ v w', (Builtin.append_ #[t, t] ty #[vd, vx]).run P w = .ok v w' ∧ ∃ ρ' I', Step G base w0 ρ I H w id hi eff v ρ' I' w' := by
  obtain ⟨i2, zv, z1, z2, _, _, z5⟩ := zeroL_sound (ρ := ρ) (w := w) (I := I) hz
  have hii : i = i2 := eq_of_some hi' z1
  subst hii
  have hzs : zv.cells.size = i.size := by omega
  unfold appendC at h
  split at h
  case h_2 => cases h
  rename_i src k fp hsrc
  split at h
  case isFalse => cases h
  rename_i hc
  obtain ⟨hc1, hc2⟩ := hc
  obtain ⟨news, s1, s2, s3⟩ := src_sound hs hsrc hvx
  have hnl : news.length = k * i.size := by rw [s1.length, hc1]
  have hlen : (Builtin.lenOf vx).run P w = .ok k w := by
    rcases s3 with ⟨rfl, rfl, _⟩ | ⟨x, c, rfl, _⟩ <;> simp [Builtin.lenOf]
  -- nothing to append
  have nothing : ∀ (x : Option Addr) (n cap : Nat), vd = .slice x n cap → n ≤ cap → k = 0 → RC ρ w.heap I cd vd → ∀ fp, ∃ v w', (Builtin.append_ #[t, t] ty #[vd, vx]).run P w = .ok v w' ∧ ∃ ρ' I', Step G base w0 ρ I H w id hi ⟨cd, [], fp⟩ v ρ' I' w' := by
    intro x n cap hd hn hk hrc fp
    subst hk
    have hf : (Builtin.firstCells i.size 0 vx).run P w = .ok #[] w := by
      rcases s3 with ⟨rfl, _⟩ | ⟨y, c, rfl, _⟩
      · simp [Builtin.firstCells]
      · simp [Builtin.firstCells, loadCells, loadCellsFrom]
    refine ⟨vd, w, ?_, ρ, I, Step.still hs.mem hrc⟩
    subst hd
    cases x <;> simp [Builtin.append_, run_underlying hu, run_sizeOf' hi', hlen, hn, hf, storeCells]
  split at h
  · -- onto nil
    simp only [RC, RT] at hvd
    split at h
    · rename_i hk
      cases h
      exact nothing none 0 0 hvd.1 (Nat.le_refl _) hk (by simp only [RC, RT]; exact hvd) fp
    · rename_i hk
      split at h
      · rename_i hroom
        cases h
        obtain ⟨r1, r2⟩ := room_fits hroom
        rcases s3 with ⟨_, hk0, _⟩ | ⟨x, c, rfl, hcell⟩
        · exact (hk hk0).elim
        · refine ⟨_, _, ?_, _, _, step_grown (olds := []) (news := news) (z := zv.cells) hs.mem hb hid hlt elem (by simpa using s1) (by simpa using s2) hc1 hzs (grown_le w elem (old := 0))⟩
          rw [hvd.1, run_append_nil w t ty elem i zv hu hi' z2 x k c news hnl hcell (by omega) (by simpa using r2) (by omega)]
          simp
      · cases h
  · rename_i ts n clip
    have hvd0 := hvd
    simp only [RC, RT] at hvd
    obtain ⟨b, lo, cap, c, el, fr, hd, _, hbb, h1, h2, h3, h4⟩ := hvd
    split at h
    · rename_i hk
      cases h
      exact nothing _ n cap hd h3 hk hvd0 fp
    · rename_i hk
      split at h
      · rename_i hcond
        simp only [Bool.and_eq_true, beq_iff_eq] at hcond
        obtain ⟨⟨hclip, hroom⟩, hts⟩ := hcond
        cases h
        obtain ⟨r1, r2⟩ := room_fits hroom
        have hcap := h4 hclip
        rcases s3 with ⟨_, hk0, _⟩ | ⟨x, c', rfl, hcell⟩
        · exact (hk hk0).elim
        · have hol : (win c lo ts.length).length = n * i.size := by rw [h1.length, hts]
          refine ⟨_, _, ?_, _, _, step_grown (olds := win c lo ts.length) (news := news) (z := zv.cells) (n := n + k) (sz := i.size) hs.mem hb hid hlt elem ((RCs.of_RTs h1).append s1) ?_ ?_ hzs (grown_le w elem (old := cap))⟩
          · rw [hd]
            exact run_append_grow w t ty elem i zv hu hi' z2 ⟨b, lo, none⟩ n cap (win c lo ts.length) hol (fun j v hv => by
              rw [addr_add, cell_of_row w b _ c el fr hbb]
              exact (win_get hv).2) x k c' news hnl hcell (by omega) r2 (growslice_fits (by omega) r1)
          · intro v hv
            rcases List.mem_append.1 hv with hv | hv
            · exact h2 v hv
            · exact s2 v hv
          · simp [hts, hc1, Nat.add_mul]
      · cases h
  · rename_i b n sz
    have hvd0 := hvd
    simp only [RC] at hvd
    obtain ⟨r, cap, c0, e0, fr0, hr, hd, h3, hc0, hc0s⟩ := hvd
    split at h
    · rename_i hk
      cases h
      exact nothing _ n cap hd h3 hk hvd0 fp
    · rename_i hk
      split at h
      · rename_i cs hbk
        split at h
        · rename_i hcond
          obtain ⟨rfl, hcs, hroom⟩ := hcond
          cases h
          obtain ⟨r1, r2⟩ := room_fits hroom
          obtain ⟨c, el, g1, g2, g3, g4⟩ := blk_cells hs.mem hbk hr
          rw [g1] at hc0
          simp only [Option.some.injEq, Obj.cells.injEq] at hc0
          obtain ⟨hcc, _⟩ := hc0
          subst hcc
          rcases s3 with ⟨_, hk0, _⟩ | ⟨x, c', rfl, hcell⟩
          · exact (hk hk0).elim
          · have hwl := g3.length
            have hkill := hs.mem.kill b
            by_cases hroom2 : n + k ≤ cap
            · -- in place
              have hfit : n * i.size + news.length ≤ c.size := by
                rw [hnl, ← Nat.add_mul]
                exact Nat.le_trans (Nat.mul_le_mul_right _ hroom2) hc0s
              have hf := run_firstCells_some (P := P) w i.size k x k c' news hnl hcell
              have hst := run_storeCells_at P r (n * i.size) el news 0 c w g1 (by omega) s2
              simp only [Nat.add_zero] at hst
              generalize hnew : (c.toList.take (n * i.size) ++ news ++ c.toList.drop (n * i.size + news.length)).toArray = c2 at hst
              have hsz : c2.size = c.size := by rw [← hnew]; simp; omega
              have hwin : win c2 0 (cs ++ src).length = win c 0 cs.length ++ news := by
                rw [← hnew]
                simp only [win, List.drop_zero, List.length_append, hcs, hc1, ← hnl]
                rw [List.take_append_of_le_length (by simp; omega)]
                rw [List.take_of_length_le (by simp; omega)]
              obtain ⟨q1, q2⟩ := hs.mem.setRow hbk hr g1 c2 hsz (cs' := cs ++ src) (by rw [hsz]; simp [hcs, hc1]; omega)
                (by
                  rw [hwin]
                  intro v hv
                  rcases List.mem_append.1 hv with hv | hv
                  · exact g4 v hv
                  · exact s2 v hv)
                (by rw [hwin]; exact g3.append s1)
              refine ⟨.slice (some ⟨r, 0, none⟩) (n + k) cap, w.setRow r c2, ?_, upR ρ id r, I, ?_⟩
              · rw [hd]
                simp [Builtin.append_, run_underlying hu, run_sizeOf' hi', Builtin.lenOf, hroom2, hf, addr_add, hst]
              · have hup := rho_alloc (ρ := ρ) (r := r) hid
                have hne : b ≠ id := by rintro rfl; rw [hid] at hr; cases hr
                refine ⟨q1, hup, fun y hy => ?_, ?_, ?_⟩
                · unfold upR
                  rw [if_neg]
                  rintro rfl
                  exact hy ⟨Nat.le_refl _, hlt⟩
                · simp only [RC]
                  refine ⟨r, cap, c2, el, (0, 0), by simp [upR], rfl, hroom2, setRow_heap w r c c2 el (0, 0) g1, by omega⟩
                · refine ⟨q2.below, q2.ilt, q2.glob, fun y ky hy => ?_, fun y1 y2 k1 k2 rr e1 e2 e3 e4 => ?_, fun y rr hy => ?_, q2.io, fun b r h => hup b r (q2.keep b r h)⟩
                  · simp only [updH] at hy
                    by_cases hyi : y = id
                    · subst hyi
                      rw [if_pos rfl] at hy
                      cases hy
                      obtain ⟨r', t1, t2, t3, t4⟩ := q2.blk b (.cells (cs ++ src) false) (by simp [updH])
                      have := eq_of_some hr t1
                      subst this
                      exact ⟨r, by simp [upR], t2, RB.mono (Ext.refl _ _) hup rfl t3, t4⟩
                    · rw [if_neg hyi] at hy
                      by_cases hyb : y = b
                      · subst hyb; simp at hy
                      · rw [if_neg hyb] at hy
                        obtain ⟨r', t1, t2, t3, t4⟩ := q2.blk y ky (by simp only [updH]; rw [if_neg hyb]; exact hy)
                        exact ⟨r', hup _ _ t1, t2, RB.mono (Ext.refl _ _) hup rfl t3, t4⟩
                  · simp only [updH] at e1 e2
                    unfold upR at e3 e4
                    by_cases w1 : y1 = id <;> by_cases w2 : y2 = id
                    · rw [w1, w2]
                    · rw [if_pos w1] at e3
                      rw [if_neg w2] at e2 e4
                      by_cases w3 : y2 = b
                      · rw [if_pos w3] at e2; cases e2
                      · rw [if_neg w3] at e2
                        cases e3
                        exact (w3 (hs.mem.inj y2 b _ _ _ e2 hbk e4 hr)).elim
                    · rw [if_pos w2] at e4
                      rw [if_neg w1] at e1 e3
                      by_cases w3 : y1 = b
                      · rw [if_pos w3] at e1; cases e1
                      · rw [if_neg w3] at e1
                        cases e4
                        exact (w3 (hs.mem.inj y1 b _ _ _ e1 hbk e3 hr)).elim
                    · rw [if_neg w1] at e1 e3
                      rw [if_neg w2] at e2 e4
                      by_cases w3 : y1 = b
                      · rw [if_pos w3] at e1; cases e1
                      · by_cases w4 : y2 = b
                        · rw [if_pos w4] at e2; cases e2
                        · rw [if_neg w3] at e1
                          rw [if_neg w4] at e2
                          exact hs.mem.inj y1 y2 k1 k2 rr e1 e2 e3 e4
                  · unfold upR at hy
                    split at hy
                    · cases hy; exact q2.rlt b r hr
                    · exact q2.rlt y rr hy
            · -- a new row
              have hol : (win c 0 cs.length).length = n * i.size := by rw [hwl, hcs]
              have hst := step_grown (fp := b :: fp) (olds := win c 0 cs.length) (news := news) (z := zv.cells) (n := n + k) (sz := i.size) (cs := cs ++ src) hkill hb hid hlt elem (g3.append s1) (by
                intro v hv
                rcases List.mem_append.1 hv with hv | hv
                · exact g4 v hv
                · exact s2 v hv) (by simp [hcs, hc1, Nat.add_mul]) hzs (grown_le w elem (old := cap))
              refine ⟨_, _, ?_, _, _, ⟨hst.ext, hst.rho, hst.out, hst.val, hst.mem⟩⟩
              rw [hd]
              exact run_append_grow w t ty elem i zv hu hi' z2 ⟨r, 0, none⟩ n cap (win c 0 cs.length) hol (fun j v hv => by
                rw [addr_add, cell_of_row w r _ c el (0, 0) g1]
                exact (win_get hv).2) x k c' news hnl hcell (by omega) r2 (growslice_fits (by omega) r1)
        · cases h
      · cases h
  · cases h

theorem copy_sound (hs : Sim G base w0 nt ρ I e H a w) {t t2 elem : TypeId} {i : TypeInfo} (hu : P.underlying t = some (.slice elem)) (hi' : P.info? elem = some i) {b n sz : Nat} {cx : C} {vd vx : Value} {cs src : List C} {k : Nat} {fp : List Nat} (lo hi : Nat)
    (hvd : RC ρ w.heap I (.osl b n sz) vd) (hvx : RC ρ w.heap I cx vx) (hsrc : srcL H cx = some (src, k, fp)) (hbk : H b = some (.cells cs false)) (hsz : sz = i.size) (hsl : src.length = k * sz) (hcs : n * sz ≤ cs.length) (ty : TypeId) :
    ∃ v w', (Builtin.copy_ #[t, t2] ty #[vd, vx]).run P w = .ok v w' ∧ ∃ ρ' I', Step G base w0 ρ I H w lo hi ⟨goI (min k n : Nat), [(b, some (.cells (splice cs 0 (src.take (min k n * sz))) false))], b :: fp⟩ v ρ' I' w' := by
  subst hsz
  obtain ⟨news, s1, s2, s3⟩ := src_sound hs hsrc hvx
  simp only [RC] at hvd
  obtain ⟨r, cap, c0, e0, fr0, hr, hd, h3, hc0, hc0s⟩ := hvd
  obtain ⟨c, el, g1, g2, g3, g4⟩ := blk_cells hs.mem hbk hr
  have hnl : news.length = k * i.size := by rw [s1.length, hsl]
  have hwl := g3.length
  have hm : min k n * i.size ≤ n * i.size := Nat.mul_le_mul_right _ (Nat.min_le_right _ _)
  have hmk : min k n * i.size ≤ k * i.size := Nat.mul_le_mul_right _ (Nat.min_le_left _ _)
  have htl : (news.take (min k n * i.size)).length = min k n * i.size := by rw [List.length_take]; omega
  have htl2 : (src.take (min k n * i.size)).length = min k n * i.size := by rw [List.length_take]; omega
  have hlen : (Builtin.lenOf vx).run P w = .ok k w := by
    rcases s3 with ⟨rfl, rfl, _⟩ | ⟨x, c, rfl, _⟩ <;> simp [Builtin.lenOf]
  have hf : (Builtin.firstCells i.size (min k n) vx).run P w = .ok (news.take (min k n * i.size)).toArray w := by
    rcases s3 with ⟨rfl, rfl, _⟩ | ⟨x, c, rfl, hcell⟩
    · have : news = [] := List.length_eq_zero_iff.1 (by rw [hnl]; simp)
      subst this
      simp [Builtin.firstCells]
    · have hl := run_loadCells_list (P := P) w x (news.take (min k n * i.size)) (fun j u hu => hcell j u (by
        rw [List.getElem?_take] at hu
        split at hu
        · exact hu
        · cases hu))
      rw [htl] at hl
      simp only [Builtin.firstCells, hl]
  have hones : ones (news.take (min k n * i.size)) := ones_sub s2 fun v hv => List.mem_of_mem_take hv
  have hst := run_storeCells_at P r 0 el (news.take (min k n * i.size)) 0 c w g1 (by omega) hones
  simp only [Nat.add_zero, List.take_zero, List.nil_append, Nat.zero_add] at hst
  generalize hnew : (news.take (min k n * i.size) ++ c.toList.drop (news.take (min k n * i.size)).length).toArray = c2 at hst
  have hsz : c2.size = c.size := by rw [← hnew]; simp only [List.size_toArray, List.length_append, htl, List.length_drop, Array.length_toList]; omega
  have hspl : (splice cs 0 (src.take (min k n * i.size))).length = cs.length := splice_length (by omega)
  have hwin : win c2 0 (splice cs 0 (src.take (min k n * i.size))).length = (win c 0 cs.length).take 0 ++ news.take (min k n * i.size) ++ (win c 0 cs.length).drop (0 + (src.take (min k n * i.size)).length) := by
    rw [hspl, ← hnew]
    simp only [win, List.drop_zero, List.take_zero, List.nil_append, htl, htl2, Nat.zero_add]
    rw [List.take_append, htl, List.take_of_length_le (by omega), List.drop_take]
  obtain ⟨q1, q2⟩ := hs.mem.setRow hbk hr g1 c2 hsz (cs' := splice cs 0 (src.take (min k n * i.size))) (by rw [hspl, hsz]; exact g2)
    (by
      rw [hwin]
      intro v hv
      simp only [List.take_zero, List.nil_append] at hv
      rcases List.mem_append.1 hv with hv | hv
      · exact hones v hv
      · exact g4 v (List.mem_of_mem_drop hv))
    (by
      rw [hwin]
      exact ((g3.take 0).append (s1.take _)).append (g3.drop _))
  refine ⟨goInt (min k n : Nat), w.setRow r c2, ?_, ρ, I, q1, fun _ _ h => h, fun _ _ => rfl, RC_lit rfl, q2⟩
  rw [hd]
  have hmin : Nat.min k n = min k n := rfl
  simp [Builtin.copy_, run_underlying hu, run_sizeOf' hi', hlen, hmin, hf, hst]
end
end Go.Va
namespace Go.Va
open Go Go.RowKit

/-- The results in memory: 'os': the blocks that nobody else holds. -/
def RR (h : Array Obj) (J : Nat → Prop) (base : Nat) : List R → List Value → List Nat → Prop
  | [], vs, os => vs = [] ∧ os = []
  | .t x :: rs, vs, os => ∃ v rest, vs = v :: rest ∧ RT h J x v ∧ RR h J base rs rest os
  | .osl cells n sz :: rs, vs, os => ∃ r cap c e rest os', vs = .slice (some ⟨r, 0, none⟩) n cap :: rest ∧ os = r :: os' ∧ n ≤ cap ∧ cap * sz ≤ c.size ∧ h[r]? = some (.cells c e (0, 0)) ∧ cells.length ≤ c.size ∧
      RTs h J cells (win c 0 cells.length) ∧ ones (win c 0 cells.length) ∧ base ≤ r ∧ ¬ J r ∧ RR h J base rs rest os'
  | .omp ks us :: rs, vs, os => ∃ r es clk l rest os', vs = .map (some r) :: rest ∧ os = r :: os' ∧ h[r]? = some (.map es clk) ∧ MapOf es clk l ∧ l.map (·.key) = ks ∧ RTs h J us (l.map (·.val)) ∧ base ≤ r ∧ ¬ J r ∧ RR h J base rs rest os'

def retV : List Value → Value
  | [v] => v
  | vs => .tuple vs.toArray

/-- THE CONTRACT: handed these trees, function f hands back these results, whatever memory it is called in; what was there is as it was. -/
def Holds (P : Program) (G : Nat → Option (List T)) (f : FuncId) (args : List T) (rs : List R) : Prop :=
  ∀ (w : World) (I : Nat → Prop) (vs : List Value), (∀ g cells, G g = some cells → RT w.heap I (.ptr cells 0) (.pointer (some ⟨g, 0, none⟩))) → (∀ b, I b → b < w.heap.size) → RTs w.heap I args vs →
    Calls P f vs.toArray w fun en w' => ∃ outs J os, en = .returned (retV outs) ∧ Below w.heap.size w w' ∧ (∀ b, I b → J b) ∧ (∀ b, J b → I b ∨ (w.heap.size ≤ b ∧ b < w'.heap.size)) ∧
      RR w'.heap J w.heap.size rs outs os ∧ os.Nodup

section
variable {P : Program} {G : Nat → Option (List T)} {base nt : Nat} {w0 : Base} {w : World} {ρ : Nat → Option Nat} {I : Nat → Prop} {e : Nat → Option C} {H : Nat → Option Blk} {a : Act}

theorem SimH.adopt (hs : SimH G base w0 ρ I H w) {id r : Nat} (hid : ρ id = none) (hr : ∀ b, ρ b ≠ some r) (hbr : base ≤ r) {k : Blk} (hfz : isFz k = false) (hI : ¬ I r) (hk : RB (upR ρ id r) w.heap I r k) :
    SimH G base w0 (upR ρ id r) I (updH H [(id, some k)]) w := by
  have hup := rho_alloc (ρ := ρ) (r := r) hid
  refine ⟨hs.below, hs.ilt, hs.glob, fun y ky hy => ?_, fun y1 y2 k1 k2 rr e1 e2 e3 e4 => ?_, fun y rr hy => ?_, hs.io, fun b r h => hup b r (hs.keep b r h)⟩
  · simp only [updH] at hy
    by_cases hyi : y = id
    · subst hyi
      rw [if_pos rfl] at hy
      cases hy
      exact ⟨r, by simp [upR], .inl hbr, hk, (fun h => by rw [hfz] at h; cases h), fun _ => hI⟩
    · rw [if_neg hyi] at hy
      obtain ⟨r', t1, t2, t3, t4⟩ := hs.blk y ky hy
      exact ⟨r', hup _ _ t1, t2, RB.mono (Ext.refl _ _) hup rfl t3, t4⟩
  · simp only [updH] at e1 e2
    unfold upR at e3 e4
    by_cases w1 : y1 = id <;> by_cases w2 : y2 = id
    · rw [w1, w2]
    · rw [if_pos w1] at e3
      rw [if_neg w2] at e4
      cases e3
      exact (hr _ e4).elim
    · rw [if_pos w2] at e4
      rw [if_neg w1] at e3
      cases e4
      exact (hr _ e3).elim
    · rw [if_neg w1] at e1 e3
      rw [if_neg w2] at e2 e4
      exact hs.inj y1 y2 k1 k2 rr e1 e2 e3 e4
  · unfold upR at hy
    split at hy
    · cases hy; exact hk.lt
    · exact hs.rlt y rr hy

theorem place_sound {wsz : Nat} : ∀ {rs : List R} {ρ : Nat → Option Nat} {H : Nat → Option Blk} {id hi id' : Nat} {outs : List Value} {os : List Nat} {cs : List C} {ss : List (Nat × Option Blk)},
    RR w.heap I wsz rs outs os → os.Nodup → SimH G base w0 ρ I H w → base ≤ wsz → (∀ o, o ∈ os → ∀ b, ρ b ≠ some o) → (∀ b, id ≤ b → b < hi → ρ b = none) → place rs id = (cs, ss, id') → id' ≤ hi →
    id ≤ id' ∧ ∃ ρ', (∀ b r, ρ b = some r → ρ' b = some r) ∧ (∀ b, ¬ (id ≤ b ∧ b < id') → ρ' b = ρ b) ∧ RCs ρ' w.heap I cs outs ∧ SimH G base w0 ρ' I (updH H ss) w
  | [], ρ, H, id, hi, id', outs, os, cs, ss, hr, hn, hs, hbw, ho, hf, hp, hle => by
    simp only [place, Prod.mk.injEq] at hp
    obtain ⟨rfl, rfl, rfl⟩ := hp
    simp only [RR] at hr
    obtain ⟨rfl, rfl⟩ := hr
    exact ⟨Nat.le_refl _, ρ, fun _ _ h => h, fun _ _ => rfl, by simp only [RCs], hs⟩
  | .t x :: rs, ρ, H, id, hi, id', outs, os, cs, ss, hr, hn, hs, hbw, ho, hf, hp, hle => by
    simp only [place, place1] at hp
    cases hq : place rs id with
    | mk cs1 q =>
      obtain ⟨ss1, id1⟩ := q
      simp only [hq, Prod.mk.injEq] at hp
      obtain ⟨rfl, rfl, rfl⟩ := hp
      simp only [RR] at hr
      obtain ⟨v, rest, rfl, h1, h2⟩ := hr
      obtain ⟨g0, ρ', g1, g2, g3, g4⟩ := place_sound h2 hn hs hbw ho hf hq hle
      exact ⟨g0, ρ', g1, g2, by simp only [RCs, RC]; exact ⟨v, rest, rfl, h1, g3⟩, by simpa using g4⟩
  | .osl cells n sz :: rs, ρ, H, id, hi, id', outs, os, cs, ss, hr, hn, hs, hbw, ho, hf, hp, hle => by
    simp only [place, place1] at hp
    cases hq : place rs (id + 1) with
    | mk cs1 q =>
      obtain ⟨ss1, id1⟩ := q
      simp only [hq, Prod.mk.injEq] at hp
      obtain ⟨rfl, rfl, rfl⟩ := hp
      simp only [RR] at hr
      obtain ⟨r, cap, c, el, rest, os', rfl, rfl, h1, h2, h3, h4, h5, h6, h7, h8, h9⟩ := hr
      simp only [List.nodup_cons] at hn
      have hge : id + 1 ≤ id1 := by
        have : ∀ (rs : List R) (k : Nat), k ≤ (place rs k).2.2 := fun rs => by
          induction rs with
          | nil => intro k; simp [place]
          | cons x rs ih => intro k; cases x <;> simp only [place, place1] <;> first | exact ih k | exact Nat.le_trans (Nat.le_succ k) (ih (k + 1))
        have := this rs (id + 1)
        rw [hq] at this
        exact this
      have hid : ρ id = none := hf id (Nat.le_refl _) (by omega)
      have hup := rho_alloc (ρ := ρ) (r := r) hid
      have hs1 := hs.adopt (id := id) (r := r) (k := .cells (cells.map .t) false) hid (ho r List.mem_cons_self) (by omega) rfl h8 (by
        simp only [RB]
        exact ⟨c, el, h3, by simpa using h4, by rw [List.length_map]; exact RCs.of_RTs h5, by rw [List.length_map]; exact h6⟩)
      obtain ⟨g0, ρ', g1, g2, g3, g4⟩ := place_sound h9 hn.2 hs1 hbw (fun o ho' b hb => by
        unfold upR at hb
        split at hb
        · cases hb; exact hn.1 ho'
        · exact ho o (List.mem_cons_of_mem _ ho') b hb) (fun b hb1 hb2 => by
        unfold upR
        rw [if_neg (by omega)]
        exact hf b (by omega) hb2) hq hle
      refine ⟨by omega, ρ', fun b x hx => g1 _ _ (hup _ _ hx), fun b hb => ?_, ?_, by rw [List.singleton_append]; simp only [updH] at g4 ⊢; exact g4⟩
      · rw [g2 b (by omega)]
        unfold upR
        rw [if_neg]
        rintro rfl
        exact hb ⟨Nat.le_refl _, by omega⟩
      · simp only [RCs, RC]
        exact ⟨_, rest, rfl, ⟨r, cap, c, el, (0, 0), g1 id r (by simp [upR]), rfl, h1, h3, h2⟩, g3⟩
  | .omp ks us :: rs, ρ, H, id, hi, id', outs, os, cs, ss, hr, hn, hs, hbw, ho, hf, hp, hle => by
    simp only [place, place1] at hp
    cases hq : place rs (id + 1) with
    | mk cs1 q =>
      obtain ⟨ss1, id1⟩ := q
      simp only [hq, Prod.mk.injEq] at hp
      obtain ⟨rfl, rfl, rfl⟩ := hp
      simp only [RR] at hr
      obtain ⟨r, es, clk, l, rest, os', rfl, rfl, h3, hl, h4, h5, h7, h8, h9⟩ := hr
      simp only [List.nodup_cons] at hn
      have hge : id + 1 ≤ id1 := by
        have : ∀ (rs : List R) (k : Nat), k ≤ (place rs k).2.2 := fun rs => by
          induction rs with
          | nil => intro k; simp [place]
          | cons x rs ih => intro k; cases x <;> simp only [place, place1] <;> first | exact ih k | exact Nat.le_trans (Nat.le_succ k) (ih (k + 1))
        have := this rs (id + 1)
        rw [hq] at this
        exact this
      have hid : ρ id = none := hf id (Nat.le_refl _) (by omega)
      have hup := rho_alloc (ρ := ρ) (r := r) hid
      have hs1 := hs.adopt (id := id) (r := r) (k := .map ks (us.map .t) false) hid (ho r List.mem_cons_self) (by omega) rfl h8 (by
        simp only [RB]
        exact ⟨es, clk, l, h3, hl, h4, RCs.of_RTs h5⟩)
      obtain ⟨g0, ρ', g1, g2, g3, g4⟩ := place_sound h9 hn.2 hs1 hbw (fun o ho' b hb => by
        unfold upR at hb
        split at hb
        · cases hb; exact hn.1 ho'
        · exact ho o (List.mem_cons_of_mem _ ho') b hb) (fun b hb1 hb2 => by
        unfold upR
        rw [if_neg (by omega)]
        exact hf b (by omega) hb2) hq hle
      refine ⟨by omega, ρ', fun b x hx => g1 _ _ (hup _ _ hx), fun b hb => ?_, ?_, by rw [List.singleton_append]; simp only [updH] at g4 ⊢; exact g4⟩
      · rw [g2 b (by omega)]
        unfold upR
        rw [if_neg]
        rintro rfl
        exact hb ⟨Nat.le_refl _, by omega⟩
      · simp only [RCs, RC]
        exact ⟨_, rest, rfl, ⟨r, g1 id r (by simp [upR]), rfl⟩, g3⟩

theorem retC_sound {h : Array Obj} {cs : List C} {vs : List Value} (hr : RCs ρ h I cs vs) : RC ρ h I (retC cs) (retV vs) := by
  match cs, vs, hr with
  | [], vs, hr => simp only [RCs] at hr; subst hr; simp only [retC, retV, RC]; exact ⟨_, rfl, by simp only [RCs]⟩
  | [c], vs, hr =>
    simp only [RCs] at hr
    obtain ⟨v, rest, rfl, h1, rfl⟩ := hr
    exact h1
  | c :: d :: cs, vs, hr =>
    have hr0 := hr
    simp only [RCs] at hr
    obtain ⟨v, rest, rfl, h1, u, rest', rfl, h2, h3⟩ := hr
    simp only [retC, retV, RC]
    exact ⟨_, rfl, by simpa using hr0⟩

/-- A call under its contract, all that is handed over made immutable. -/
theorem callF_sound {rc : FuncId → List T → Option (List R)} (hrc : ∀ f args rs, rc f args = some rs → Holds P G f args rs) (hs : SimH G base w0 ρ I H w) (hb : base ≤ w0.w.heap.size) {id : Nat} (hid : ∀ b, id ≤ b → b < id + many → ρ b = none)
    {f : FuncId} {args : List C} {vs : List Value} {eff : Eff} (hargs : RCs ρ w.heap I args vs) (h : callF P rc H id f args = some eff) :
    (callFunc f vs.toArray).run P w = .ok (.enter f vs.toArray) w ∧
    Calls P f vs.toArray w fun en w' => ∃ v, en = .returned v ∧ ∃ ρ' I', Step G base w0 ρ I H w id (id + many) eff v ρ' I' w' := by
  unfold callF at h
  split at h
  case h_2 => cases h
  rename_i fn hfn
  split at h
  case isTrue => cases h
  rename_i hnm
  split at h
  case h_2 => cases h
  rename_i ts ms hf
  split at h
  case h_2 => cases h
  rename_i rs hrs
  cases hp : place rs id with
  | mk cs q =>
    obtain ⟨ss, id'⟩ := q
    simp only [hp] at h
    split at h
    case isFalse => cases h
    rename_i hle
    cases h
    simp only [Bool.or_eq_true, not_or, Bool.not_eq_true] at hnm
    have e1 : ¬ fn.name = "runtime.NumGoroutine" := by simpa using hnm.1
    have e2 : ¬ fn.body = none := by intro h; rw [h] at hnm; simp at hnm
    refine ⟨by simp [callFunc, hfn, e1, e2], ?_⟩
    obtain ⟨d1, _, d2⟩ := frzL_sound (frz_sound hs deep) args ts ms hf
    have hs1 := hs.marks d1
    refine (hrc f ts rs hrs w (J ρ I ms) vs hs1.glob hs1.ilt (d2 vs hargs)).mono ?_
    rintro en w' ⟨outs, K, os, rfl, hbel, hIK, hK, hRR, hnd⟩
    refine ⟨_, rfl, ?_⟩
    have hold : ∀ b, b < w.heap.size → w'.heap[b]? = w.heap[b]? := fun b hb => hbel.block b hb
    have hx : Ext (J ρ I ms) K w.heap w'.heap := ⟨fun b hb => hold b (hs1.ilt b hb), hIK, fun b c el fr hb => ⟨c, el, fr, by rw [hold b (Array.getElem?_eq_some_iff.1 hb).1]; exact hb, Nat.le_refl _⟩⟩
    have hs2 : SimH G base w0 ρ K (updH H (marks H ms)) w' := by
      refine ⟨hs1.below.trans (BelowX.of hbel (hs.base_le hb)), fun b hb => ?_, fun g cells hg => RT.mono hx _ _ (hs1.glob g cells hg), fun b k hk => ?_, hs1.inj, fun b r hr => Nat.lt_of_lt_of_le (hs1.rlt b r hr) hbel.size, ⟨fun b hb => hIK _ (hs1.io.1 b hb), fun b hb => ?_⟩, hs1.keep⟩
      · rcases hK b hb with h | h
        · exact Nat.lt_of_lt_of_le (hs1.ilt b h) hbel.size
        · exact h.2
      · obtain ⟨r, t1, t2, t3, t4, t5⟩ := hs1.blk b k hk
        refine ⟨r, t1, t2, RB.mono hx (fun _ _ h => h) (hold r t3.lt) t3, fun h => hIK _ (t4 h), fun h hKr => ?_⟩
        rcases hK r hKr with h' | h'
        · exact t5 h h'
        · have := t3.lt; omega
      · rcases hK b hb with h | h
        · exact hs1.io.2 b h
        · have := hs.base_le ‹base ≤ w0.w.heap.size›; exact .inr (.inl (by omega))
    have hos : ∀ o, o ∈ os → ∀ b, ρ b ≠ some o := by
      have : ∀ (rs : List R) (outs : List Value) (os : List Nat), RR w'.heap K w.heap.size rs outs os → ∀ o, o ∈ os → w.heap.size ≤ o := by
        intro rs
        induction rs with
        | nil => intro outs os h o ho; simp only [RR] at h; rw [h.2] at ho; cases ho
        | cons x rs ih =>
          intro outs os h o ho
          cases x with
          | t x => simp only [RR] at h; obtain ⟨_, rest, _, _, h2⟩ := h; exact ih _ _ h2 o ho
          | osl cells n sz =>
            simp only [RR] at h
            obtain ⟨r, cap, c, el, rest, os', _, rfl, _, _, _, _, _, _, h7, _, h9⟩ := h
            rcases List.mem_cons.1 ho with rfl | ho
            · exact h7
            · exact ih _ _ h9 o ho
          | omp ks us =>
            simp only [RR] at h
            obtain ⟨r, es, clk, l, rest, os', _, rfl, _, _, _, _, h7, _, h9⟩ := h
            rcases List.mem_cons.1 ho with rfl | ho
            · exact h7
            · exact ih _ _ h9 o ho
      intro o ho b hb
      have h1 := this rs outs os hRR o ho
      have h2 := hs.rlt b o hb
      omega
    obtain ⟨g0, ρ', g1, g2, g3, g4⟩ := place_sound hRR hnd hs2 (hs.base_le hb) hos hid hp hle
    refine ⟨ρ', K, ⟨(ext_J w ms).trans hx, g1, fun b hb => g2 b (by omega), retC_sound g3, ?_⟩⟩
    rw [updH_append]
    exact g4

theorem method_sound {t : TypeId} {name : String} {f : FuncId} (h : methodF P t name = some f) (v : Value) (n : Nat) : (method (n + 1) t v name).run P w = .ok (f, v) w := by
  unfold methodF at h
  split at h
  case h_2 => cases h
  rename_i i d hi hd
  split at h
  case h_2 => cases h
  rename_i m hm
  split at h
  case isFalse => cases h
  rename_i hpath
  have hinfo : (typeInfo t).run P w = .ok i w := by simp [typeInfo, hi]
  have hpl : m.path.toList = [] := by simpa using hpath
  cases hfu : m.func with
  | none => simp [hfu] at h
  | some q =>
    obtain ⟨f', pr⟩ := q
    cases pr <;> cases d <;> simp only [hfu, Option.some.injEq, reduceCtorEq] at h <;> subst h <;> simp [method, hinfo, hm, hpl, follow, hfu, receiverAt, run_underlying hd, Place.get]

/-- What an operation that calls leaves. -/
def CallRes (P : Program) (o : Oper) (a : Act) (w : World) (K : Value → World → Prop) : Prop :=
  ∃ f args, (execOp a.eval o).run P w = .ok (.enter f args) w ∧ Calls P f args w fun en w' => ∃ v, en = .returned v ∧ K v w'

theorem callV_sound {rc : FuncId → List T → Option (List R)} (hrc : ∀ f args rs, rc f args = some rs → Holds P G f args rs) (hs : SimH G base w0 ρ I H w) (hb : base ≤ w0.w.heap.size) {id : Nat} (hid : ∀ b, id ≤ b → b < id + many → ρ b = none)
    {fn : Fn} {all capt : List C} {vs us : List Value} {eff : Eff} (h1 : RCs ρ w.heap I all vs) (h2 : RCs ρ w.heap I capt us) (h : callV P rc H id fn all capt = some eff) :
    ∃ f args, (invoke (.fn fn us.toArray) vs.toArray).run P w = .ok (.enter f args) w ∧ Calls P f args w fun en w' => ∃ v, en = .returned v ∧ ∃ ρ' I', Step G base w0 ρ I H w id (id + many) eff v ρ' I' w' := by
  unfold callV at h
  split at h
  · rename_i f
    obtain ⟨g1, g2⟩ := callF_sound hrc hs hb hid (h1.append h2) h
    refine ⟨f, (vs ++ us).toArray, ?_, g2⟩
    simp only [invoke]
    rw [← g1]
    simp
  · rename_i name
    split at h
    case h_2 => cases h
    rename_i t x rest
    split at h
    case h_2 => cases h
    rename_i f hf
    simp only [RCs, RC, RT] at h1
    obtain ⟨v, rest', rfl, ⟨u, rfl, hu⟩, hr⟩ := h1
    have hargs : RCs ρ w.heap I (.t x :: rest) (u :: rest') := by simp only [RCs, RC]; exact ⟨u, rest', rfl, hu, hr⟩
    obtain ⟨g1, g2⟩ := callF_sound hrc hs hb hid hargs h
    refine ⟨f, (u :: rest').toArray, ?_, g2⟩
    have hm := method_sound (w := w) hf u (P.types.size + 99)
    have hm' : (method (P.types.size + Made.depth) t u name).run P w = .ok (f, u) w := hm
    simp only [invoke, callMethod]
    simp only [List.getElem?_toArray, List.getElem?_cons_zero, Sem.run_bind, run_program, Result.andThen_ok, hm']
    rw [← g1]
    congr 1
    simp
  · cases h
end
end Go.Va
namespace Go.Va
open Go Go.RowKit

section
variable {P : Program} {G : Nat → Option (List T)} {base nt : Nat} {w0 : Base} {w : World} {ρ : Nat → Option Nat} {I : Nat → Prop} {e : Nat → Option C} {H : Nat → Option Blk} {a : Act}

theorem wp_of_res {o : Oper} {K : Value → World → Prop} {next : Act → World → Prop} {Q : Exit → Act → World → Prop} (h : Res P o a w K) (hn : ∀ v w', K v w' → next (a.put o.dst v) w') : o.wp P a w next Q := by
  unfold Oper.wp
  rcases h with ⟨v, w', h1, h2⟩ | ⟨w', h1, h2⟩
  · rw [h1]; exact hn v w' h2
  · rw [h1]; exact hn undef w' h2
theorem wp_of_call {o : Oper} {K : Value → World → Prop} {next : Act → World → Prop} {Q : Exit → Act → World → Prop} (h : CallRes P o a w K) (hn : ∀ v w', K v w' → next (a.put o.dst v) w') : o.wp P a w next Q := by
  unfold Oper.wp
  obtain ⟨f, args, h1, h2⟩ := h
  rw [h1, Oper.upon_enter]
  refine h2.mono ?_
  rintro en w' ⟨v, rfl, hk⟩
  exact hn v w' hk

theorem builtin_sound (hs : Sim G base w0 nt ρ I e H a w) (hb : base ≤ w0.w.heap.size) {o : Oper} {c : Call} (ho : o.op = .call c) {b : Builtin} (hc : c.callee = .builtin b) {id : Nat} (hid : ∀ x, id ≤ x → x < id + nalloc o → ρ x = none)
    {args : List C} (hargs : evs G e c.args.toList = some args) {eff : Eff} (h : builtinC P H id b c.argTypes args = some eff) :
    Res P o a w fun v w' => ∃ ρ' I', Step G base w0 ρ I H w id (id + nalloc o) eff v ρ' I' w' := by
  have hvs := evs_sound hs hargs
  have hmap : (c.args.map a.eval).toList = c.args.toList.map a.eval := by simp
  have hex : ∀ n, builtin b c.argTypes o.type (c.args.map fun | .const _ => true | _ => false) (c.args.map a.eval) = n → (execOp a.eval o).run P w = n.run P w := by
    intro n hn
    rw [← hn]
    simp only [execOp, ho, resolve, hc, Sem.run_bind, Sem.run_pure, Result.andThen_ok, invoke]
    rfl
  unfold builtinC at h
  split at h
  · rename_i cx
    simp only [RCs] at hvs
    obtain ⟨v, rest, he, hv, rfl⟩ := hvs
    have ha : c.args.map a.eval = #[v] := Array.ext' (by rw [hmap, he])
    split at h
    · rename_i d hd
      obtain ⟨t, ht, hd⟩ := Option.bind_eq_some_iff.1 hd
      cases hl : lenC H d cx with
      | none => simp [hl] at h
      | some q =>
        obtain ⟨n, fp⟩ := q
        simp only [hl, Option.map_some, Option.some.injEq] at h
        subst h
        refine .inl ⟨goInt n, w, ?_, ρ, I, Step.still hs.mem (RC_lit rfl)⟩
        rw [hex _ rfl, ha]
        simp only [builtin, Sem.run_bind, len_sound hs hd hv hl c.argTypes ht o.type, Result.andThen_ok, Sem.run_pure]
    · cases h
  · rename_i cd cx
    simp only [RCs] at hvs
    obtain ⟨vd, rest, he, hvd, vx, rest', rfl, hvx, rfl⟩ := hvs
    have ha : c.args.map a.eval = #[vd, vx] := Array.ext' (by rw [hmap, he])
    split at h
    case h_2 => cases h
    rename_i t1 t2 hts
    split at h
    case isFalse => cases h
    rename_i htt
    subst htt
    have hat : c.argTypes = #[t1, t1] := Array.ext' (by rw [hts])
    split at h
    case h_2 => cases h
    rename_i elem hu
    split at h
    case h_2 => cases h
    rename_i i z hi hz
    split at h
    case isFalse => cases h
    rename_i hzl
    have hna : nalloc o = 1 := by simp [nalloc, ho, hc]
    obtain ⟨v, w', g1, g2⟩ := append_sound (hi := id + nalloc o) hs hb (hid id (Nat.le_refl _) (by omega)) (by omega) hu hi hz hzl hvd hvx h o.type
    refine .inl ⟨v, w', ?_, g2⟩
    rw [hex _ rfl, ha, hat]
    simp only [builtin, Sem.run_bind, g1, Result.andThen_ok, Sem.run_pure]
  · rename_i cd cx
    simp only [RCs] at hvs
    obtain ⟨vd, rest, he, hvd, vx, rest', rfl, hvx, rfl⟩ := hvs
    have ha : c.args.map a.eval = #[vd, vx] := Array.ext' (by rw [hmap, he])
    split at h
    case h_2 => cases h
    rename_i elem src k fp hd hsrc
    split at h
    case h_2 => cases h
    rename_i i c2 n sz hi
    split at h
    case h_2 => cases h
    rename_i cs hbk
    split at h
    case isFalse => cases h
    rename_i hcond
    cases h
    obtain ⟨t, ht, hu⟩ := Option.bind_eq_some_iff.1 hd
    obtain ⟨v, w', g1, g2⟩ := copy_sound (P := P) (t2 := t) (lo := id) (hi := id + nalloc o) hs hu hi hvd hvx hsrc hbk hcond.1 hcond.2.1 hcond.2.2 o.type
    refine .inl ⟨v, w', ?_, g2⟩
    rw [hex _ rfl, ha]
    have : Builtin.copy_ c.argTypes o.type #[vd, vx] = Builtin.copy_ #[t, t] o.type #[vd, vx] := by
      unfold Builtin.copy_
      simp only [ht]
      rfl
    simp only [builtin, Sem.run_bind, this, g1, Result.andThen_ok, Sem.run_pure]
  · rename_i cm ck
    simp only [RCs] at hvs
    obtain ⟨vd, rest, he, hvd, vx, rest', rfl, hvx, rfl⟩ := hvs
    have ha : c.args.map a.eval = #[vd, vx] := Array.ext' (by rw [hmap, he])
    split at h
    case h_2 => cases h
    rename_i t ht
    obtain ⟨v, w', g1, g2⟩ := delete_sound (lo := id) (hi := id + nalloc o) hs hvd hvx h c.argTypes ht o.type
    refine .inl ⟨v, w', ?_, g2⟩
    rw [hex _ rfl, ha]
    simp only [builtin, Sem.run_bind, g1, Result.andThen_ok, Sem.run_pure]
  · cases h

theorem opc_sound {rc : FuncId → List T → Option (List R)} (hrc : ∀ f args rs, rc f args = some rs → Holds P G f args rs) (hs : Sim G base w0 nt ρ I e H a w) (hb : base ≤ w0.w.heap.size) {o : Oper} {id : Nat}
    (hid : ∀ b, id ≤ b → b < id + nalloc o → ρ b = none) {eff : Eff} (h : opc P G rc o e H id = some eff) {next : Act → World → Prop} {Q : Exit → Act → World → Prop}
    (hn : ∀ v ρ' I' w', Step G base w0 ρ I H w id (id + nalloc o) eff v ρ' I' w' → next (a.put o.dst v) w') : o.wp P a w next Q := by
  have hn1 : ∀ v w', (∃ ρ' I', Step G base w0 ρ I H w id (id + nalloc o) eff v ρ' I' w') → next (a.put o.dst v) w' := fun v w' ⟨ρ', I', h⟩ => hn v ρ' I' w' h
  have hn0 : ∀ v w', Step G base w0 ρ I H w id (id + nalloc o) eff v ρ I w' → next (a.put o.dst v) w' := fun v w' h => hn v ρ I w' h
  have one : nalloc o = 1 → ρ id = none ∧ id < id + nalloc o := fun h => ⟨hid id (Nat.le_refl _) (by omega), by omega⟩
  unfold opc at h
  split at h
  · rename_i x ho; exact wp_of_res (move_sound hs (.inl ho) _ _ h) hn0
  · rename_i x ho; exact wp_of_res (move_sound hs (.inr ho) _ _ h) hn0
  · rename_i c x y ho; exact wp_of_res (pick_sound hs ho _ _ h) hn0
  · rename_i ty ho; have h1 := one (by simp [nalloc, ho]); exact wp_of_res (alloc_sound hs hb ho h1.1 h1.2 h) hn1
  · rename_i ty x ho; have h1 := one (by simp [nalloc, ho]); exact wp_of_res (box_sound hs hb ho h1.1 h1.2 h) hn1
  · rename_i ty parts ho; exact wp_of_res (build_sound hs ho _ _ h) hn0
  · rename_i ty len parts ho; have h1 := one (by simp [nalloc, ho]); exact wp_of_res (buildSlice_sound hs hb ho h1.1 h1.2 h) hn1
  · rename_i ty x ho; exact wp_of_res (load_sound hs ho _ _ h) hn0
  · rename_i ty x y ho; exact wp_of_res (store_sound hs ho _ _ h) hn0
  · rename_i x ho; exact wp_of_res (nilCheck_sound hs ho _ _ h) hn0
  · rename_i ty x ho; exact wp_of_res (makeInterface_sound hs ho _ _ h) hn1
  · rename_i fn first capt ho; exact wp_of_res (makeFunc_sound hs ho _ _ h) hn0
  · rename_i ty ho; have h1 := one (by simp [nalloc, ho]); cases h; exact wp_of_res (makeMap_sound hs hb ho h1.1 h1.2) hn1
  · rename_i ty l c ho; have h1 := one (by simp [nalloc, ho]); exact wp_of_res (makeSlice_sound hs hb ho h1.1 h1.2 h) hn1
  · rename_i ty x lo hi mx ho
    split at h
    · rename_i elem c hu hx
      split at h
      · rename_i l' h' m' h1 h2 h3
        exact wp_of_res (slice_sound hs ho _ _ hu hx h1 h2 h3 h) hn1
      · cases h
    · rename_i n elem b hu hx; exact wp_of_res (arrSlice_sound hs ho _ _ hu hx h) hn0
    · exact wp_of_res (flatOp_sound hs _ _ (by simp [ho]) h) hn0
  · rename_i s x f ho; exact wp_of_res (fieldAddr_sound hs ho _ _ h) hn0
  · rename_i s x f ho; exact wp_of_res (field_sound hs ho _ _ h) hn0
  · rename_i t x i ho
    split at h
    · rename_i c n hx hi; exact wp_of_res (indexAddr_sound hs ho _ _ hx hi h) hn0
    · cases h
  · rename_i t x i ho
    split at h
    · rename_i len elem hu; exact wp_of_res (index_sound hs ho _ _ hu h) hn0
    · exact wp_of_res (flatOp_sound hs _ _ (by simp [ho]) h) hn0
  · rename_i t m k ok ho
    split at h
    · rename_i cm ck hm hk; exact wp_of_res (lookup_sound hs ho _ _ hm hk h) hn0
    · cases h
  · rename_i t m k x ho
    split at h
    · rename_i cm ck cx hm hk hx; exact wp_of_res (update_sound hs (.inl ho) _ _ hm hk hx h) hn1
    · cases h
  · rename_i t m k x ho
    split at h
    · rename_i cm ck cx hm hk hx; exact wp_of_res (update_sound hs (.inr ho) _ _ hm hk hx h) hn1
    · cases h
  · rename_i x xt asserted ok ho; exact wp_of_res (typeAssert_sound hs ho _ _ h) hn0
  · rename_i t ix ho; exact wp_of_res (extract_sound hs ho _ _ h) hn0
  · rename_i op t x y yt ho; exact wp_of_res (binOp_sound hs ho _ _ h) hn0
  · rename_i c ho
    split at h
    · rename_i b hc
      have hfl : flatOp P G e o = some eff → o.wp P a w next Q := fun h => wp_of_res (flatOp_sound hs _ _ (by simp [ho]) h) hn0
      split at h
      all_goals first
        | exact hfl h
        | (split at h
           · rename_i args hargs; exact wp_of_res (builtin_sound hs hb ho hc hid hargs h) hn1
           · cases h)
    · rename_i r name hc
      split at h
      · rename_i rv args hr hargs
        have hna : nalloc o = many := by simp [nalloc, ho, hc]
        rw [hna] at hid hn1
        obtain ⟨f, as, g1, g2⟩ := callV_sound (us := []) hrc hs.mem hb hid (by simp only [RCs]; exact ⟨_, _, rfl, ev_sound hs hr, evs_sound hs hargs⟩) (by simp only [RCs]) h
        refine wp_of_call ⟨f, as, ?_, g2⟩ hn1
        simp only [execOp, ho, resolve, hc, Sem.run_bind, Sem.run_pure, Result.andThen_ok]
        rw [← g1]
        congr 2
        simp
      · cases h
    · rename_i fv hc
      have hna : nalloc o = many := by simp [nalloc, ho, hc]
      rw [hna] at hid hn1
      split at h
      · rename_i fn first capt args hf hargs
        have hv := ev_sound hs hf
        simp only [RC] at hv
        obtain ⟨as, bs, hv, h1, h2⟩ := hv
        obtain ⟨f, as', g1, g2⟩ := callV_sound hrc hs.mem hb hid (h1.append (evs_sound hs hargs)) h2 h
        refine wp_of_call ⟨f, as', ?_, g2⟩ hn1
        simp only [execOp, ho, resolve, hc, hv, Deferred.ofValue, Sem.run_bind, Sem.run_pure, Result.andThen_ok]
        rw [← g1]
        congr 2
        exact Array.ext' (by simp)
      · rename_i fn first capt args hf hargs
        have hv := ev_sound hs hf
        simp only [RC, RT] at hv
        obtain ⟨as, bs, hv, h1, h2⟩ := hv
        obtain ⟨f, as', g1, g2⟩ := callV_sound hrc hs.mem hb hid ((RCs.of_RTs h1).append (evs_sound hs hargs)) (RCs.of_RTs h2) h
        refine wp_of_call ⟨f, as', ?_, g2⟩ hn1
        simp only [execOp, ho, resolve, hc, hv, Deferred.ofValue, Sem.run_bind, Sem.run_pure, Result.andThen_ok]
        rw [← g1]
        congr 2
        exact Array.ext' (by simp)
      · cases h
  · rename_i op t x ho; exact wp_of_res (flatOp_sound hs _ _ (by simp [ho]) h) hn0
  · rename_i s d x ho; exact wp_of_res (flatOp_sound hs _ _ (by simp [ho]) h) hn0
  · rename_i t x ho
    have h1 := one (by simp [nalloc, ho])
    split at h
    · rename_i c hx; exact wp_of_res (range_sound hs hb ho h1.1 h1.2 hx h) hn1
    · cases h
  · rename_i x s ho
    split at h
    · rename_i c hx; exact wp_of_res (next_sound hs ho _ _ hx h) hn0
    · cases h
  · rename_i x ho
    split at h
    · rename_i c hx; exact wp_of_res (entry_sound hs ho _ _ hx h) hn0
    · cases h
  · rename_i arr x ho; exact wp_of_res (arrPtr_sound hs ho _ _ h) hn0
  · cases h
end
end Go.Va
