/- Each operation of the interpreter is what the model does: append, copy. -/
import Derived.Test.YtaomebcmmjhplaaGreatDoorVa8
namespace Go.Va
open Go Go.RowKit

section
variable {P : Program} {G : Nat → Option (List T)} {base nt : Nat} {w0 : Base} {w : World} {ρ : Nat → Option Nat} {I : Nat → Prop} {e : Nat → Option C} {H : Nat → Option Blk} {a : Act}

theorem room_fits {n bytes : Nat} (h : roomB n bytes = true) : n * bytes ≤ 140737488355328 ∧ (n : Int) ≤ 9223372036854775807 := by
  unfold roomB at h
  simp only [Bool.and_eq_true, decide_eq_true_eq] at h
  omega

/-- What an append that lays a new row leaves. -/
theorem step_grown (hs : SimH G base w0 ρ I H w) (hb : base ≤ w0.w.heap.size) {id hi : Nat} (hid : ρ id = none) (hlt : id < hi) (el : TypeId) {cs : List C} {olds news : List Value} {z : Array Value} {n cap sz : Nat} {fp : List Nat}
    (h1 : RCs ρ w.heap I cs (olds ++ news)) (h2 : ones (olds ++ news)) (hn : cs.length = n * sz) (hz : z.size = sz) (hcap : n ≤ cap) :
    Step G base w0 ρ I H w id hi ⟨.osl id n sz, [(id, some (.cells cs false))], fp⟩ (.slice (some ⟨w.heap.size, 0, none⟩) n cap)
      (upR ρ id w.heap.size) I (w.drew.alloc (.cells (olds.toArray ++ news.toArray ++ Builtin.zeroCells z (cap - n)) el)) := by
  have hl := h1.length
  have hw : win (olds.toArray ++ news.toArray ++ Builtin.zeroCells z (cap - n)) 0 cs.length = olds ++ news := by
    simp only [win, List.drop_zero, Array.toList_append]
    rw [List.take_append_of_le_length (by simp at hl ⊢; omega)]
    rw [List.take_of_length_le (by simp at hl ⊢; omega)]
  have := step_row (w := w.drew) (fp := fp) hs.drew hb hid hlt (olds.toArray ++ news.toArray ++ Builtin.zeroCells z (cap - n)) el (cs := cs) (c := .osl id n sz) (v := .slice (some ⟨w.heap.size, 0, none⟩) n cap)
    (by simp at hl ⊢; omega) (by rw [hw]; exact h1) (by rw [hw]; exact h2) (by
      simp only [RC]
      refine ⟨w.heap.size, cap, _, el, (0, 0), by simp [upR], rfl, hcap, alloc_new w.drew _, ?_⟩
      simp only [Array.size_append, List.size_toArray, zeroCells_length, hz]
      have e1 : olds.length + news.length = n * sz := by simp at hl; omega
      have e2 : cap * sz = n * sz + (cap - n) * sz := by rw [← Nat.add_mul]; congr 1; omega
      omega)
  exact ⟨this.ext, this.rho, this.out, this.val, this.mem⟩

theorem append_sound (hs : Sim G base w0 nt ρ I e H a w) (hb : base ≤ w0.w.heap.size) {id hi : Nat} (hid : ρ id = none) (hlt : id < hi) {t elem : TypeId} {i : TypeInfo} {z : List C} (hu : P.underlying t = some (.slice elem)) (hi' : P.info? elem = some i)
    (hz : zeroL P elem = some z) (hzl : z.length = i.size) {cd cx : C} {vd vx : Value} (hvd : RC ρ w.heap I cd vd) (hvx : RC ρ w.heap I cx vx) {eff : Eff} (h : appendC H id i.size i.bytes cd cx = some eff) (ty : TypeId) :
    ∃ v w', (Builtin.append_ #[t, t] ty #[vd, vx]).run P w = .ok v w' ∧ ∃ ρ' I', Step G base w0 ρ I H w id hi eff v ρ' I' w' := by
  obtain ⟨i2, zv, z1, z2, _, _, z5⟩ := zeroL_sound (ρ := ρ) (w := w) (I := I) hz
  have hii : i = i2 := eq_of_some hi' z1
  subst hii
  have hzs : zv.cells.size = i.size := by omega
  unfold appendC at h
  split at h
  case h_2 => cases h
  rename_i src k fp hsrc
  split at h
  case isFalse => cases h
  rename_i hc
  obtain ⟨hc1, hc2⟩ := hc
  obtain ⟨news, s1, s2, s3⟩ := src_sound hs hsrc hvx
  have hnl : news.length = k * i.size := by rw [s1.length, hc1]
  have hlen : (Builtin.lenOf vx).run P w = .ok k w := by
    rcases s3 with ⟨rfl, rfl, _⟩ | ⟨x, c, rfl, _⟩ <;> simp [Builtin.lenOf]
  -- nothing to append
  have nothing : ∀ (x : Option Addr) (n cap : Nat), vd = .slice x n cap → n ≤ cap → k = 0 → RC ρ w.heap I cd vd → ∀ fp, ∃ v w', (Builtin.append_ #[t, t] ty #[vd, vx]).run P w = .ok v w' ∧ ∃ ρ' I', Step G base w0 ρ I H w id hi ⟨cd, [], fp⟩ v ρ' I' w' := by
    intro x n cap hd hn hk hrc fp
    subst hk
    have hf : (Builtin.firstCells i.size 0 vx).run P w = .ok #[] w := by
      rcases s3 with ⟨rfl, _⟩ | ⟨y, c, rfl, _⟩
      · simp [Builtin.firstCells]
      · simp [Builtin.firstCells, loadCells, loadCellsFrom]
    refine ⟨vd, w, ?_, ρ, I, Step.still hs.mem hrc⟩
    subst hd
    cases x <;> simp [Builtin.append_, run_underlying hu, run_sizeOf' hi', hlen, hn, hf, storeCells]
  split at h
  · -- onto nil
    simp only [RC, RT] at hvd
    split at h
    · rename_i hk
      cases h
      exact nothing none 0 0 hvd.1 (Nat.le_refl _) hk (by simp only [RC, RT]; exact hvd) fp
    · rename_i hk
      split at h
      · rename_i hroom
        cases h
        obtain ⟨r1, r2⟩ := room_fits hroom
        rcases s3 with ⟨_, hk0, _⟩ | ⟨x, c, rfl, hcell⟩
        · exact (hk hk0).elim
        · refine ⟨_, _, ?_, _, _, step_grown (olds := []) (news := news) (z := zv.cells) hs.mem hb hid hlt elem (by simpa using s1) (by simpa using s2) hc1 hzs (grown_le w elem (old := 0))⟩
          rw [hvd.1, run_append_nil w t ty elem i zv hu hi' z2 x k c news hnl hcell (by omega) (by simpa using r2) (by omega)]
          simp
      · cases h
  · rename_i ts n clip
    have hvd0 := hvd
    simp only [RC, RT] at hvd
    obtain ⟨b, lo, cap, c, el, fr, hd, _, hbb, h1, h2, h3, h4⟩ := hvd
    split at h
    · rename_i hk
      cases h
      exact nothing _ n cap hd h3 hk hvd0 fp
    · rename_i hk
      split at h
      · rename_i hcond
        simp only [Bool.and_eq_true, beq_iff_eq] at hcond
        obtain ⟨⟨hclip, hroom⟩, hts⟩ := hcond
        cases h
        obtain ⟨r1, r2⟩ := room_fits hroom
        have hcap := h4 hclip
        rcases s3 with ⟨_, hk0, _⟩ | ⟨x, c', rfl, hcell⟩
        · exact (hk hk0).elim
        · have hol : (win c lo ts.length).length = n * i.size := by rw [h1.length, hts]
          refine ⟨_, _, ?_, _, _, step_grown (olds := win c lo ts.length) (news := news) (z := zv.cells) (n := n + k) (sz := i.size) hs.mem hb hid hlt elem ((RCs.of_RTs h1).append s1) ?_ ?_ hzs (grown_le w elem (old := cap))⟩
          · rw [hd]
            exact run_append_grow w t ty elem i zv hu hi' z2 ⟨b, lo, none⟩ n cap (win c lo ts.length) hol (fun j v hv => by
              rw [addr_add, cell_of_row w b _ c el fr hbb]
              exact (win_get hv).2) x k c' news hnl hcell (by omega) r2 (growslice_fits (by omega) r1)
          · intro v hv
            rcases List.mem_append.1 hv with hv | hv
            · exact h2 v hv
            · exact s2 v hv
          · simp [hts, hc1, Nat.add_mul]
      · cases h
  · rename_i b n sz
    have hvd0 := hvd
    simp only [RC] at hvd
    obtain ⟨r, cap, c0, e0, fr0, hr, hd, h3, hc0, hc0s⟩ := hvd
    split at h
    · rename_i hk
      cases h
      exact nothing _ n cap hd h3 hk hvd0 fp
    · rename_i hk
      split at h
      · rename_i cs hbk
        split at h
        · rename_i hcond
          obtain ⟨rfl, hcs, hroom⟩ := hcond
          cases h
          obtain ⟨r1, r2⟩ := room_fits hroom
          obtain ⟨c, el, g1, g2, g3, g4⟩ := blk_cells hs.mem hbk hr
          rw [g1] at hc0
          simp only [Option.some.injEq, Obj.cells.injEq] at hc0
          obtain ⟨hcc, _⟩ := hc0
          subst hcc
          rcases s3 with ⟨_, hk0, _⟩ | ⟨x, c', rfl, hcell⟩
          · exact (hk hk0).elim
          · have hwl := g3.length
            have hkill := hs.mem.kill b
            by_cases hroom2 : n + k ≤ cap
            · -- in place
              have hfit : n * i.size + news.length ≤ c.size := by
                rw [hnl, ← Nat.add_mul]
                exact Nat.le_trans (Nat.mul_le_mul_right _ hroom2) hc0s
              have hf := run_firstCells_some (P := P) w i.size k x k c' news hnl hcell
              have hst := run_storeCells_at P r (n * i.size) el news 0 c w g1 (by omega) s2
              simp only [Nat.add_zero] at hst
              generalize hnew : (c.toList.take (n * i.size) ++ news ++ c.toList.drop (n * i.size + news.length)).toArray = c2 at hst
              have hsz : c2.size = c.size := by rw [← hnew]; simp; omega
              have hwin : win c2 0 (cs ++ src).length = win c 0 cs.length ++ news := by
                rw [← hnew]
                simp only [win, List.drop_zero, List.length_append, hcs, hc1, ← hnl]
                rw [List.take_append_of_le_length (by simp; omega)]
                rw [List.take_of_length_le (by simp; omega)]
              obtain ⟨q1, q2⟩ := hs.mem.setRow hbk hr g1 c2 hsz (cs' := cs ++ src) (by rw [hsz]; simp [hcs, hc1]; omega)
                (by
                  rw [hwin]
                  intro v hv
                  rcases List.mem_append.1 hv with hv | hv
                  · exact g4 v hv
                  · exact s2 v hv)
                (by rw [hwin]; exact g3.append s1)
              refine ⟨.slice (some ⟨r, 0, none⟩) (n + k) cap, w.setRow r c2, ?_, upR ρ id r, I, ?_⟩
              · rw [hd]
                simp [Builtin.append_, run_underlying hu, run_sizeOf' hi', Builtin.lenOf, hroom2, hf, addr_add, hst]
              · have hup := rho_alloc (ρ := ρ) (r := r) hid
                have hne : b ≠ id := by rintro rfl; rw [hid] at hr; cases hr
                refine ⟨q1, hup, fun y hy => ?_, ?_, ?_⟩
                · unfold upR
                  rw [if_neg]
                  rintro rfl
                  exact hy ⟨Nat.le_refl _, hlt⟩
                · simp only [RC]
                  refine ⟨r, cap, c2, el, (0, 0), by simp [upR], rfl, hroom2, setRow_heap w r c c2 el (0, 0) g1, by omega⟩
                · refine ⟨q2.below, q2.ilt, q2.glob, fun y ky hy => ?_, fun y1 y2 k1 k2 rr e1 e2 e3 e4 => ?_, fun y rr hy => ?_, q2.io⟩
                  · simp only [updH] at hy
                    by_cases hyi : y = id
                    · subst hyi
                      rw [if_pos rfl] at hy
                      cases hy
                      obtain ⟨r', t1, t2, t3, t4⟩ := q2.blk b (.cells (cs ++ src) false) (by simp [updH])
                      have := eq_of_some hr t1
                      subst this
                      exact ⟨r, by simp [upR], t2, RB.mono (Ext.refl _ _) hup rfl t3, t4⟩
                    · rw [if_neg hyi] at hy
                      by_cases hyb : y = b
                      · subst hyb; simp at hy
                      · rw [if_neg hyb] at hy
                        obtain ⟨r', t1, t2, t3, t4⟩ := q2.blk y ky (by simp only [updH]; rw [if_neg hyb]; exact hy)
                        exact ⟨r', hup _ _ t1, t2, RB.mono (Ext.refl _ _) hup rfl t3, t4⟩
                  · simp only [updH] at e1 e2
                    unfold upR at e3 e4
                    by_cases w1 : y1 = id <;> by_cases w2 : y2 = id
                    · rw [w1, w2]
                    · rw [if_pos w1] at e3
                      rw [if_neg w2] at e2 e4
                      by_cases w3 : y2 = b
                      · rw [if_pos w3] at e2; cases e2
                      · rw [if_neg w3] at e2
                        cases e3
                        exact (w3 (hs.mem.inj y2 b _ _ _ e2 hbk e4 hr)).elim
                    · rw [if_pos w2] at e4
                      rw [if_neg w1] at e1 e3
                      by_cases w3 : y1 = b
                      · rw [if_pos w3] at e1; cases e1
                      · rw [if_neg w3] at e1
                        cases e4
                        exact (w3 (hs.mem.inj y1 b _ _ _ e1 hbk e3 hr)).elim
                    · rw [if_neg w1] at e1 e3
                      rw [if_neg w2] at e2 e4
                      by_cases w3 : y1 = b
                      · rw [if_pos w3] at e1; cases e1
                      · by_cases w4 : y2 = b
                        · rw [if_pos w4] at e2; cases e2
                        · rw [if_neg w3] at e1
                          rw [if_neg w4] at e2
                          exact hs.mem.inj y1 y2 k1 k2 rr e1 e2 e3 e4
                  · unfold upR at hy
                    split at hy
                    · cases hy; exact q2.rlt b r hr
                    · exact q2.rlt y rr hy
            · -- a new row
              have hol : (win c 0 cs.length).length = n * i.size := by rw [hwl, hcs]
              have hst := step_grown (fp := b :: fp) (olds := win c 0 cs.length) (news := news) (z := zv.cells) (n := n + k) (sz := i.size) (cs := cs ++ src) hkill hb hid hlt elem (g3.append s1) (by
                intro v hv
                rcases List.mem_append.1 hv with hv | hv
                · exact g4 v hv
                · exact s2 v hv) (by simp [hcs, hc1, Nat.add_mul]) hzs (grown_le w elem (old := cap))
              refine ⟨_, _, ?_, _, _, ⟨hst.ext, hst.rho, hst.out, hst.val, hst.mem⟩⟩
              rw [hd]
              exact run_append_grow w t ty elem i zv hu hi' z2 ⟨r, 0, none⟩ n cap (win c 0 cs.length) hol (fun j v hv => by
                rw [addr_add, cell_of_row w r _ c el (0, 0) g1]
                exact (win_get hv).2) x k c' news hnl hcell (by omega) r2 (growslice_fits (by omega) r1)
        · cases h
      · cases h
  · cases h

theorem copy_sound (hs : Sim G base w0 nt ρ I e H a w) {t t2 elem : TypeId} {i : TypeInfo} (hu : P.underlying t = some (.slice elem)) (hi' : P.info? elem = some i) {b n sz : Nat} {cx : C} {vd vx : Value} {cs src : List C} {k : Nat} {fp : List Nat} (lo hi : Nat)
    (hvd : RC ρ w.heap I (.osl b n sz) vd) (hvx : RC ρ w.heap I cx vx) (hsrc : srcL H cx = some (src, k, fp)) (hbk : H b = some (.cells cs false)) (hsz : sz = i.size) (hsl : src.length = k * sz) (hcs : n * sz ≤ cs.length) (ty : TypeId) :
    ∃ v w', (Builtin.copy_ #[t, t2] ty #[vd, vx]).run P w = .ok v w' ∧ ∃ ρ' I', Step G base w0 ρ I H w lo hi ⟨goI (min k n : Nat), [(b, some (.cells (splice cs 0 (src.take (min k n * sz))) false))], b :: fp⟩ v ρ' I' w' := by
  subst hsz
  obtain ⟨news, s1, s2, s3⟩ := src_sound hs hsrc hvx
  simp only [RC] at hvd
  obtain ⟨r, cap, c0, e0, fr0, hr, hd, h3, hc0, hc0s⟩ := hvd
  obtain ⟨c, el, g1, g2, g3, g4⟩ := blk_cells hs.mem hbk hr
  have hnl : news.length = k * i.size := by rw [s1.length, hsl]
  have hwl := g3.length
  have hm : min k n * i.size ≤ n * i.size := Nat.mul_le_mul_right _ (Nat.min_le_right _ _)
  have hmk : min k n * i.size ≤ k * i.size := Nat.mul_le_mul_right _ (Nat.min_le_left _ _)
  have htl : (news.take (min k n * i.size)).length = min k n * i.size := by rw [List.length_take]; omega
  have htl2 : (src.take (min k n * i.size)).length = min k n * i.size := by rw [List.length_take]; omega
  have hlen : (Builtin.lenOf vx).run P w = .ok k w := by
    rcases s3 with ⟨rfl, rfl, _⟩ | ⟨x, c, rfl, _⟩ <;> simp [Builtin.lenOf]
  have hf : (Builtin.firstCells i.size (min k n) vx).run P w = .ok (news.take (min k n * i.size)).toArray w := by
    rcases s3 with ⟨rfl, rfl, _⟩ | ⟨x, c, rfl, hcell⟩
    · have : news = [] := List.length_eq_zero_iff.1 (by rw [hnl]; simp)
      subst this
      simp [Builtin.firstCells]
    · have hl := run_loadCells_list (P := P) w x (news.take (min k n * i.size)) (fun j u hu => hcell j u (by
        rw [List.getElem?_take] at hu
        split at hu
        · exact hu
        · cases hu))
      rw [htl] at hl
      simp only [Builtin.firstCells, hl]
  have hones : ones (news.take (min k n * i.size)) := ones_sub s2 fun v hv => List.mem_of_mem_take hv
  have hst := run_storeCells_at P r 0 el (news.take (min k n * i.size)) 0 c w g1 (by omega) hones
  simp only [Nat.add_zero, List.take_zero, List.nil_append, Nat.zero_add] at hst
  generalize hnew : (news.take (min k n * i.size) ++ c.toList.drop (news.take (min k n * i.size)).length).toArray = c2 at hst
  have hsz : c2.size = c.size := by rw [← hnew]; simp only [List.size_toArray, List.length_append, htl, List.length_drop, Array.length_toList]; omega
  have hspl : (splice cs 0 (src.take (min k n * i.size))).length = cs.length := splice_length (by omega)
  have hwin : win c2 0 (splice cs 0 (src.take (min k n * i.size))).length = (win c 0 cs.length).take 0 ++ news.take (min k n * i.size) ++ (win c 0 cs.length).drop (0 + (src.take (min k n * i.size)).length) := by
    rw [hspl, ← hnew]
    simp only [win, List.drop_zero, List.take_zero, List.nil_append, htl, htl2, Nat.zero_add]
    rw [List.take_append, htl, List.take_of_length_le (by omega), List.drop_take]
  obtain ⟨q1, q2⟩ := hs.mem.setRow hbk hr g1 c2 hsz (cs' := splice cs 0 (src.take (min k n * i.size))) (by rw [hspl, hsz]; exact g2)
    (by
      rw [hwin]
      intro v hv
      simp only [List.take_zero, List.nil_append] at hv
      rcases List.mem_append.1 hv with hv | hv
      · exact hones v hv
      · exact g4 v (List.mem_of_mem_drop hv))
    (by
      rw [hwin]
      exact ((g3.take 0).append (s1.take _)).append (g3.drop _))
  refine ⟨goInt (min k n : Nat), w.setRow r c2, ?_, ρ, I, q1, fun _ _ h => h, fun _ _ => rfl, RC_lit rfl, q2⟩
  rw [hd]
  have hmin : Nat.min k n = min k n := rfl
  simp [Builtin.copy_, run_underlying hu, run_sizeOf' hi', hlen, hmin, hf, hst]
end
end Go.Va
