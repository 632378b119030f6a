/- The law: its loops, joined. The law, given awake. -/
import Derived.Test.YtiegfchaepbnbaaGreatDoorP28
namespace Go.Proofs.YtiegfchaepbnbaaGreatDoor
open Go Go.RowKit Go.Va
set_option maxRecDepth 100000
set_option maxHeartbeats 400000
noncomputable abbrev ntL : Nat := Tryz.f3.ntmps
def Goes (c : Code) (s : S) (z : Ex) (s1 : S) : Prop := ∃ s', ExecS Tryz.prog gG ntL c s z s' ∧ Weak gG ntL s' s1
def Rds (b : Code) (s : S) (z : Ex) (s1 : S) : Prop := ∃ s', RoundsW Tryz.prog gG ntL b s z s' ∧ Weak gG ntL s' s1
theorem Goes.seq {c d : Code} {s s1 s2 : S} {z : Ex} (h : Goes c s .normal s1) (h' : Goes d s1 z s2) : Goes (.seq c d) s z s2 := by
  obtain ⟨a, a1, a2⟩ := h
  obtain ⟨b, b1, b2⟩ := h'
  exact ⟨b, .seq a1 (ExecS.weak a2 b1), b2⟩
theorem Goes.blockIn {id : Nat} {c : Code} {s s1 : S} (h : Goes c s (.exit id) s1) : Goes (.block id c) s .normal s1 := by
  obtain ⟨a, a1, a2⟩ := h
  exact ⟨a, .blockIn a1, a2⟩
theorem Goes.block {id : Nat} {c : Code} {s s1 : S} {z : Ex} (hz : z ≠ .exit id) (h : Goes c s z s1) : Goes (.block id c) s z s1 := by
  obtain ⟨a, a1, a2⟩ := h
  exact ⟨a, .block hz a1, a2⟩
theorem Rds.round {c : Code} {s s1 s2 : S} {z : Ex} (h : Goes c s .normal s1) (h' : Rds c s1 z s2) : Rds c s z s2 := by
  obtain ⟨a, a1, a2⟩ := h
  obtain ⟨b, b1, b2⟩ := h'
  exact ⟨b, .round a1 a2 b1, b2⟩
theorem Rds.out {c : Code} {s s1 : S} {z : Ex} (hz : z ≠ .normal) (h : Goes c s z s1) : Rds c s z s1 := by
  obtain ⟨a, a1, a2⟩ := h
  exact ⟨a, .out hz a1, a2⟩
theorem Rds.loop {c : Code} {s s1 : S} {z : Ex} (h : Rds c s z s1) : Goes (.loop c) s z s1 := by
  obtain ⟨a, a1, a2⟩ := h
  exact ⟨a, a1.loop, a2⟩
structure Ok (x : Wld) (s : ES) (N : Nat) : Prop where
  hw : ∃ m, WOk x s N m
  hs : SInv s (N + 1 : Nat)
  ho : s.w.ops.length ≤ 12
def S67 (w : Wld) : S := ⟨[(6, (C.t (bl false))), (7, (C.loc 0 0))], [some (.cells (wlC w) false)]⟩
theorem ok_step {x : Wld} {s : ES} {N : Nat} (h : Ok x s N) (hN : N < 40000) (t c : Int) : ∃ x' s' b, Ok x' s' (N + 1) ∧ stepT x t c x' b := by
  obtain ⟨⟨m, hx⟩, hs, ho⟩ := h
  obtain ⟨l0, l1, l2, h1, h2, h3, h4⟩ := hx.tasks
  have stay : stepT x t c x false → ∃ x' s' b, Ok x' s' (N + 1) ∧ stepT x t c x' b := fun h => ⟨x, s, false, ⟨⟨m, hx.mono (by omega)⟩, hs.mono (by omega), ho⟩, h⟩
  by_cases t1 : t = 1
  · subst t1
    by_cases hc : s.w.c = .fin
    · exact stay (wstay x s.f N 0 tyW (wtT s.w) s.w.act l0 hx.q (by omega) (by rw [h1]; simp only [tkW, fin_w' hc]; rfl) (by rw [h1]; rfl) hx.stopped c)
    · obtain ⟨x', gn, g1, g2, _, g3⟩ := step_W hx hs hN hc
      exact ⟨x', _, true, ⟨⟨_, g1⟩, g2, Nat.le_trans (wr_dec hs.w hc).2 ho⟩, g3 c⟩
  · by_cases t2 : t = 2
    · subst t2
      by_cases hc : s.a.c = .fin
      · exact stay (wstay x s.f N 1 tyR (rdT 2 s.a) (s.a.act 2) l1 hx.q (by omega) (by rw [h1]; simp only [tkA, fin_r' hc]; rfl) (by rw [h1]; rfl) hx.stopped c)
      · obtain ⟨x', g1, g2, g3⟩ := step_A hx hs hN hc
        exact ⟨x', _, true, ⟨⟨_, g1⟩, g2, ho⟩, g3 c⟩
    · by_cases t3 : t = 3
      · subst t3
        by_cases hc : s.b.c = .fin
        · exact stay (wstay x s.f N 2 tyR (rdT 3 s.b) (s.b.act 3) l2 hx.q (by omega) (by rw [h1]; simp only [tkB, fin_r' hc]; rfl) (by rw [h1]; rfl) hx.stopped c)
        · obtain ⟨x', g1, g2, g3⟩ := step_B hx hs hN hc
          exact ⟨x', _, true, ⟨⟨_, g1⟩, g2, ho⟩, g3 c⟩
      · exact stay (wout x s.f N t hx.q (by rw [h1]; rfl) (by omega) c)
theorem Ok.mono {x : Wld} {s : ES} {N N' : Nat} (h : Ok x s N) (hn : N ≤ N') : Ok x s N' := by
  obtain ⟨⟨m, hx⟩, hs, ho⟩ := h
  exact ⟨⟨m, hx.mono hn⟩, hs.mono (by omega), ho⟩
theorem Ok.safe {x : Wld} {s : ES} {N : Nat} (h : Ok x s N) (hN : N < 40000) : HoldsL 7 [worldT x] [.t (bl true)] := by
  obtain ⟨⟨m, hx⟩, hs, ho⟩ := h
  exact safe_holds x s N m hx hs hN
theorem lp_loop (l : List Pk) (hl : l.length ≤ 250) : ∀ (j i : Nat) (x : Wld) (s : ES), i + j = l.length → Ok x s i → ∃ x' s', Ok x' s' l.length ∧ Rds (inL (inB (c2 (c1 (c2 (c2 (c2 (c2 (c2 bodyLw))))))))) (SL1 x l i) (.exit 0) (S67 x')
  | 0, i, x, s, hi, h => by
    have : i = l.length := by omega
    subst this
    exact ⟨x, s, h, .out (by simp) (lp_out x l _ (Nat.le_refl _))⟩
  | j + 1, i, x, s, hi, h => by
    have hp := List.getElem?_eq_getElem (l := l) (i := i) (by omega)
    by_cases hk : (l[i]'(by omega)).k = 0
    · obtain ⟨x1, s1, b, h1, h2⟩ := ok_step h (by omega) (l[i]'(by omega)).t (l[i]'(by omega)).c
      obtain ⟨x2, s2, h3, h4⟩ := lp_loop l hl j (i + 1) x1 s1 (by omega) h1
      exact ⟨x2, s2, h3, .round (lp_step x l hl i _ hp x1 b hk (by rw [hk]; exact h2) (h1.safe (by omega))) h4⟩
    · obtain ⟨x2, s2, h3, h4⟩ := lp_loop l hl j (i + 1) x s (by omega) (h.mono (by omega))
      exact ⟨x2, s2, h3, .round (lp_skip x l hl i _ hp hk) h4⟩
theorem fin_A : ∀ (M n N : Nat) (x : Wld) (s : ES), Ok x s N → (s.a.c ≠ .fin → rM (s.f 1).v s.a ≤ M) → n + M ≤ 1500 → N + M < 30000 → ∃ x' s' N', Ok x' s' N' ∧ N' ≤ N + M ∧ (s'.b = s.b ∧ s'.a.c = .fin) ∧ Rds (inL (inB (c2 (c2 (inB (c1 (c2 (c2 (inL (inB (c2 (c1 (c2 (c2 (c2 (c2 (c2 (c2 bodyLw)))))))))))))))))) (SN0 x n) (.exit 4) (SM0 x') := by
  intro M
  induction M with
  | zero =>
    intro n N x s h hM hn hN
    have h' := h
    obtain ⟨⟨m, hx⟩, hs, ho⟩ := h
    obtain ⟨l0, l1, l2, h1, h2, h3, h4⟩ := hx.tasks
    have htl : x.tasks.length = 3 := by rw [h1]; rfl
    have hk : x.tasks[1]? = some (tkA s l1) := by rw [h1]; rfl
    by_cases hc : s.a.c = .fin
    · exact ⟨x, s, N, h', by omega, ⟨rfl, hc⟩, .out (by simp) (n0_out x n _ htl hk (by have := done_told tyR (rdT 2 s.a) (s.a.act 2) s.a.fin l1; rw [fin_r' hc] at this; simp only [tkA, fin_r' hc]; exact this))⟩
    · exfalso
      have hM := hM hc
      have := rd_dec hs.a hc; omega
  | succ M fin_A =>
    intro n N x s h hM hn hN
    have h' := h
    obtain ⟨⟨m, hx⟩, hs, ho⟩ := h
    obtain ⟨l0, l1, l2, h1, h2, h3, h4⟩ := hx.tasks
    have htl : x.tasks.length = 3 := by rw [h1]; rfl
    have hk : x.tasks[1]? = some (tkA s l1) := by rw [h1]; rfl
    by_cases hc : s.a.c = .fin
    · exact ⟨x, s, N, h', by omega, ⟨rfl, hc⟩, .out (by simp) (n0_out x n _ htl hk (by have := done_told tyR (rdT 2 s.a) (s.a.act 2) s.a.fin l1; rw [fin_r' hc] at this; simp only [tkA, fin_r' hc]; exact this))⟩
    · have hM := hM hc
      have hN' : N < 40000 := by omega
      have hd : s.a.fin = false := fin_r hc
      have hdone := done_told tyR (rdT 2 s.a) (s.a.act 2) s.a.fin l1
      obtain ⟨x1, g1, g2, g3⟩ := step_A hx hs hN' hc
      have hdec := rd_dec hs.a hc
      have he : memOf s.f (s.a.act 2) 1 = s.f 1 := rd_mem s.a 2 s.f 1 (by decide)
      have h1' : Ok x1 s.goA (N + 1) := ⟨⟨_, g1⟩, g2, ho⟩
      have hM' : rM (s.goA.f 1).v s.goA.a ≤ M := by
        have : rM (s.goA.f 1).v s.goA.a < rM (s.f 1).v s.a := by
          show rM (memOf s.f (s.a.act 2) 1).v _ < _
          rw [he]; exact hdec
        omega
      obtain ⟨x2, s2, N2, r1, r2, ⟨r3, r4⟩, r6⟩ := fin_A (n + 1) (N + 1) x1 s.goA h1' (fun _ => hM') (by omega) (by omega)
      exact ⟨x2, s2, N2, r1, by omega, ⟨r3, r4⟩, .round (n0_step x n _ htl hk (hd ▸ hdone) x1 true (by omega) (g3 0) (h1'.safe (by omega))) r6⟩
theorem fin_B : ∀ (M n N : Nat) (x : Wld) (s : ES), Ok x s N → (s.b.c ≠ .fin → rM (s.f 1).v s.b ≤ M) → n + M ≤ 1500 → N + M < 30000 → ∃ x' s' N', Ok x' s' N' ∧ N' ≤ N + M ∧ (s'.a = s.a ∧ s'.b.c = .fin) ∧ Rds (inL (inB (c2 (c2 (inB (c1 (c2 (c2 (inL (inB (c2 (c1 (c2 (c2 (c2 (c2 (c2 (c2 bodyLw)))))))))))))))))) (SN1 x n) (.exit 4) (SM1 x') := by
  intro M
  induction M with
  | zero =>
    intro n N x s h hM hn hN
    have h' := h
    obtain ⟨⟨m, hx⟩, hs, ho⟩ := h
    obtain ⟨l0, l1, l2, h1, h2, h3, h4⟩ := hx.tasks
    have htl : x.tasks.length = 3 := by rw [h1]; rfl
    have hk : x.tasks[2]? = some (tkB s l2) := by rw [h1]; rfl
    by_cases hc : s.b.c = .fin
    · exact ⟨x, s, N, h', by omega, ⟨rfl, hc⟩, .out (by simp) (n1_out x n _ htl hk (by have := done_told tyR (rdT 3 s.b) (s.b.act 3) s.b.fin l2; rw [fin_r' hc] at this; simp only [tkB, fin_r' hc]; exact this))⟩
    · exfalso
      have hM := hM hc
      have := rd_dec hs.b hc; omega
  | succ M fin_B =>
    intro n N x s h hM hn hN
    have h' := h
    obtain ⟨⟨m, hx⟩, hs, ho⟩ := h
    obtain ⟨l0, l1, l2, h1, h2, h3, h4⟩ := hx.tasks
    have htl : x.tasks.length = 3 := by rw [h1]; rfl
    have hk : x.tasks[2]? = some (tkB s l2) := by rw [h1]; rfl
    by_cases hc : s.b.c = .fin
    · exact ⟨x, s, N, h', by omega, ⟨rfl, hc⟩, .out (by simp) (n1_out x n _ htl hk (by have := done_told tyR (rdT 3 s.b) (s.b.act 3) s.b.fin l2; rw [fin_r' hc] at this; simp only [tkB, fin_r' hc]; exact this))⟩
    · have hM := hM hc
      have hN' : N < 40000 := by omega
      have hd : s.b.fin = false := fin_r hc
      have hdone := done_told tyR (rdT 3 s.b) (s.b.act 3) s.b.fin l2
      obtain ⟨x1, g1, g2, g3⟩ := step_B hx hs hN' hc
      have hdec := rd_dec hs.b hc
      have he : memOf s.f (s.b.act 3) 1 = s.f 1 := rd_mem s.b 3 s.f 1 (by decide)
      have h1' : Ok x1 s.goB (N + 1) := ⟨⟨_, g1⟩, g2, ho⟩
      have hM' : rM (s.goB.f 1).v s.goB.b ≤ M := by
        have : rM (s.goB.f 1).v s.goB.b < rM (s.f 1).v s.b := by
          show rM (memOf s.f (s.b.act 3) 1).v _ < _
          rw [he]; exact hdec
        omega
      obtain ⟨x2, s2, N2, r1, r2, ⟨r3, r4⟩, r6⟩ := fin_B (n + 1) (N + 1) x1 s.goB h1' (fun _ => hM') (by omega) (by omega)
      exact ⟨x2, s2, N2, r1, by omega, ⟨r3, r4⟩, .round (n1_step x n _ htl hk (hd ▸ hdone) x1 true (by omega) (g3 0) (h1'.safe (by omega))) r6⟩
theorem fin_W : ∀ (M n N : Nat) (x : Wld) (s : ES), Ok x s N → (s.w.c ≠ .fin → wM s.w ≤ M) → n + M ≤ 1500 → N + M < 30000 → ∃ x' s' N', Ok x' s' N' ∧ N' ≤ N + M ∧ (s'.a = s.a ∧ s'.b = s.b ∧ s'.w.c = .fin) ∧ Rds (inL (inB (c2 (c2 (inB (c1 (c2 (c2 (inL (inB (c2 (c1 (c2 (c2 (c2 (c2 (c2 (c2 bodyLw)))))))))))))))))) (SN2 x n) (.exit 4) (SM2 x') := by
  intro M
  induction M with
  | zero =>
    intro n N x s h hM hn hN
    have h' := h
    obtain ⟨⟨m, hx⟩, hs, ho⟩ := h
    obtain ⟨l0, l1, l2, h1, h2, h3, h4⟩ := hx.tasks
    have htl : x.tasks.length = 3 := by rw [h1]; rfl
    have hk : x.tasks[0]? = some (tkW s l0) := by rw [h1]; rfl
    by_cases hc : s.w.c = .fin
    · exact ⟨x, s, N, h', by omega, ⟨rfl, rfl, hc⟩, .out (by simp) (n2_out x n _ htl hk (by have := done_told tyW (wtT s.w) s.w.act s.w.fin l0; rw [fin_w' hc] at this; simp only [tkW, fin_w' hc]; exact this))⟩
    · exfalso
      have hM := hM hc
      have := (wr_dec (g := gotOf s.f s.w.act) (gn := []) hs.w hc).1; omega
  | succ M fin_W =>
    intro n N x s h hM hn hN
    have h' := h
    obtain ⟨⟨m, hx⟩, hs, ho⟩ := h
    obtain ⟨l0, l1, l2, h1, h2, h3, h4⟩ := hx.tasks
    have htl : x.tasks.length = 3 := by rw [h1]; rfl
    have hk : x.tasks[0]? = some (tkW s l0) := by rw [h1]; rfl
    by_cases hc : s.w.c = .fin
    · exact ⟨x, s, N, h', by omega, ⟨rfl, rfl, hc⟩, .out (by simp) (n2_out x n _ htl hk (by have := done_told tyW (wtT s.w) s.w.act s.w.fin l0; rw [fin_w' hc] at this; simp only [tkW, fin_w' hc]; exact this))⟩
    · have hM := hM hc
      have hN' : N < 40000 := by omega
      have hd : s.w.fin = false := fin_w hc
      have hdone := done_told tyW (wtT s.w) s.w.act s.w.fin l0
      obtain ⟨x1, gn, g1, g2, _, g3⟩ := step_W hx hs hN' hc
      have hdec := (wr_dec (g := gotOf s.f s.w.act) (gn := gn) hs.w hc)
      have h1' : Ok x1 (s.goW gn) (N + 1) := ⟨⟨_, g1⟩, g2, Nat.le_trans hdec.2 ho⟩
      have hM' : wM (s.goW gn).w ≤ M := by have : wM (s.goW gn).w < wM s.w := hdec.1; omega
      obtain ⟨x2, s2, N2, r1, r2, ⟨r3, r4, r5⟩, r6⟩ := fin_W (n + 1) (N + 1) x1 (s.goW gn) h1' (fun _ => hM') (by omega) (by omega)
      exact ⟨x2, s2, N2, r1, by omega, ⟨r3, r4, r5⟩, .round (n2_step x n _ htl hk (hd ▸ hdone) x1 true (by omega) (g3 0) (h1'.safe (by omega))) r6⟩
end Go.Proofs.YtiegfchaepbnbaaGreatDoor
namespace Go.Proofs.YtiegfchaepbnbaaGreatDoor
open Go Go.RowKit Go.Va
set_option maxRecDepth 100000
set_option maxHeartbeats 400000
theorem B2_eq : (inL (inB (c2 (c1 (c2 (c2 (c2 (c2 (c2 (c2 bodyLw)))))))))) = .seq (c1 (inL (inB (c2 (c1 (c2 (c2 (c2 (c2 (c2 (c2 bodyLw))))))))))) (.seq (c1 (c2 (inL (inB (c2 (c1 (c2 (c2 (c2 (c2 (c2 (c2 bodyLw)))))))))))) (.seq (.block 3 (.seq (c1 (inB (c1 (c2 (c2 (inL (inB (c2 (c1 (c2 (c2 (c2 (c2 (c2 (c2 bodyLw))))))))))))))) (.seq (c1 (c2 (inB (c1 (c2 (c2 (inL (inB (c2 (c1 (c2 (c2 (c2 (c2 (c2 (c2 bodyLw)))))))))))))))) (.block 4 (.loop (inL (inB (c2 (c2 (inB (c1 (c2 (c2 (inL (inB (c2 (c1 (c2 (c2 (c2 (c2 (c2 (c2 bodyLw))))))))))))))))))))))) (c2 (c2 (c2 (inL (inB (c2 (c1 (c2 (c2 (c2 (c2 (c2 (c2 bodyLw))))))))))))))) := by kernel_rfl
theorem bodyLw_eq : bodyLw = .seq (c1 bodyLw) (.seq (c1 (c2 bodyLw)) (.seq (c1 (c2 (c2 bodyLw))) (.seq (c1 (c2 (c2 (c2 bodyLw)))) (.seq (c1 (c2 (c2 (c2 (c2 bodyLw))))) (.seq (c1 (c2 (c2 (c2 (c2 (c2 bodyLw)))))) (.seq (c1 (c2 (c2 (c2 (c2 (c2 (c2 bodyLw))))))) (c2 (c2 (c2 (c2 (c2 (c2 (c2 bodyLw))))))))))))) := by kernel_rfl
theorem A5_eq : (c1 (c2 (c2 (c2 (c2 (c2 bodyLw)))))) = .seq (c1 (c1 (c2 (c2 (c2 (c2 (c2 bodyLw))))))) (.block 0 (.loop (inL (inB (c2 (c1 (c2 (c2 (c2 (c2 (c2 bodyLw))))))))))) := by kernel_rfl
theorem A6_eq : (c1 (c2 (c2 (c2 (c2 (c2 (c2 bodyLw))))))) = .seq (c1 (c1 (c2 (c2 (c2 (c2 (c2 (c2 bodyLw)))))))) (.block 2 (.loop (inL (inB (c2 (c1 (c2 (c2 (c2 (c2 (c2 (c2 bodyLw)))))))))))) := by kernel_rfl
theorem round_0 (x x' : Wld) (h : Rds (inL (inB (c2 (c2 (inB (c1 (c2 (c2 (inL (inB (c2 (c1 (c2 (c2 (c2 (c2 (c2 (c2 bodyLw)))))))))))))))))) (SN0 x 0) (.exit 4) (SM0 x')) : Goes (inL (inB (c2 (c1 (c2 (c2 (c2 (c2 (c2 (c2 bodyLw)))))))))) (SM0 x) .normal (SM1 x') := by
  rw [B2_eq]
  exact Goes.seq (m0_1 x) (Goes.seq (m0_2 x) (Goes.seq (Goes.block (by simp) (Goes.seq (m0_3 x) (Goes.seq (m0_4 x) (Goes.blockIn (Rds.loop h))))) (m0_5 x')))
theorem round_1 (x x' : Wld) (h : Rds (inL (inB (c2 (c2 (inB (c1 (c2 (c2 (inL (inB (c2 (c1 (c2 (c2 (c2 (c2 (c2 (c2 bodyLw)))))))))))))))))) (SN1 x 0) (.exit 4) (SM1 x')) : Goes (inL (inB (c2 (c1 (c2 (c2 (c2 (c2 (c2 (c2 bodyLw)))))))))) (SM1 x) .normal (SM2 x') := by
  rw [B2_eq]
  exact Goes.seq (m1_1 x) (Goes.seq (m1_2 x) (Goes.seq (Goes.block (by simp) (Goes.seq (m1_3 x) (Goes.seq (m1_4 x) (Goes.blockIn (Rds.loop h))))) (m1_5 x')))
theorem round_2 (x x' : Wld) (h : Rds (inL (inB (c2 (c2 (inB (c1 (c2 (c2 (inL (inB (c2 (c1 (c2 (c2 (c2 (c2 (c2 (c2 bodyLw)))))))))))))))))) (SN2 x 0) (.exit 4) (SM2 x')) : Goes (inL (inB (c2 (c1 (c2 (c2 (c2 (c2 (c2 (c2 bodyLw)))))))))) (SM2 x) .normal (SM3 x') := by
  rw [B2_eq]
  exact Goes.seq (m2_1 x) (Goes.seq (m2_2 x) (Goes.seq (Goes.block (by simp) (Goes.seq (m2_3 x) (Goes.seq (m2_4 x) (Goes.blockIn (Rds.loop h))))) (m2_5 x')))
def SEnd : S := ⟨[(6, (C.t (bl true)))], []⟩
theorem way000 (i : It) : wayB i [0, 0, 0] = false := by simp [wayB, livesB]
theorem end_holds (x : Wld) (s : ES) (N : Nat) (h : Ok x s N) (hc : s.w.c = .fin) : Goes (c2 (c2 (c2 (c2 (c2 (c2 (c2 bodyLw))))))) (S67 x) .ret SEnd := by
  obtain ⟨⟨m, hx⟩, hs, ho⟩ := h
  obtain ⟨l0, l1, l2, h1, h2, h3, h4⟩ := hx.tasks
  have htl : x.tasks.length = 3 := by rw [h1]; rfl
  have hk : x.tasks[0]? = some ⟨.ifc tyW ((T.agg [(i64 3), (i64 8), (i64 0), (T.box s.w.oc), (i64 0), nilI, (bsT itL s.w.bag), (T.sl (rows i1L s.w.free) s.w.free.length false), (i64 (s.w.gen 0)), (i64 (s.w.gen 1)), (i64 (s.w.gen 2)), (i64 (s.w.gen 3)), (i64 (s.w.birth 0)), (i64 (s.w.birth 1)), (i64 (s.w.birth 2)), (i64 (s.w.birth 3)), (i64 s.w.root.v), (u32 s.w.root.a), (u32 s.w.root.r), (i64 s.w.old), (bsT i1L s.w.seen), (bl false)])), nilF, ac0, l0⟩ := by
    rw [h1]
    show some (tkW s l0) = _
    have e1 : s.w.phase = 0 := by unfold WR.phase; rw [hc]
    have e2 : s.w.now = nilI := by unfold WR.now; rw [hc]
    simp only [tkW, fin_w' hc, told, wtT, e1, e2]
    rfl
  have hlen := hs.w.len
  have hbl : s.w.blocks = s.w.cur :: s.w.rest := by unfold WR.blocks; rw [hc]
  rw [hbl] at hlen
  simp only [List.length_cons, WR.rest, List.length_append, List.length_map] at hlen
  obtain ⟨gn, _, hsw⟩ := sweep_any s.w.bag (by omega) 0 0 0
  have hf : (s.w.bag.filter fun i => wayB i [0, 0, 0]) = [] := by simp [way000]
  rw [hf] at hsw
  cases gn with
  | nil => exact end_e x s.w nilF ac0 l0 htl hk (by omega) hsw
  | cons a gn => exact end_g x s.w nilF ac0 l0 htl hk (a :: gn) (by omega) hsw
theorem tail_holds (x : Wld) (s : ES) (N : Nat) (h : Ok x s N) (hN : N ≤ 300) : Goes (.seq (c1 (c2 (c2 (c2 (c2 (c2 (c2 bodyLw))))))) (c2 (c2 (c2 (c2 (c2 (c2 (c2 bodyLw)))))))) (S67 x) .ret SEnd := by
  obtain ⟨x1, s1, N1, h1, n1, ⟨k1, f1⟩, r1⟩ := fin_A 200 0 N x s h (fun hc => rM_le h.hs.a hc) (by omega) (by omega)
  obtain ⟨x2, s2, N2, h2, n2, ⟨k2, f2⟩, r2⟩ := fin_B 200 0 N1 x1 s1 h1 (fun hc => rM_le h1.hs.b hc) (by omega) (by omega)
  obtain ⟨x3, s3, N3, h3, n3, ⟨k3, k4, f3⟩, r3⟩ := fin_W 200 0 N2 x2 s2 h2 (fun _ => by have := wM_le s2.w h2.ho; omega) (by omega) (by omega)
  refine Goes.seq ?_ (end_holds x3 s3 N3 h3 f3)
  rw [A6_eq]
  exact Goes.seq (l2_go x) (Goes.blockIn (Rds.loop (.round (round_0 x x1 r1) (.round (round_1 x1 x2 r2) (.round (round_2 x2 x3 r3) (.out (by simp) (l2_out x3)))))))
def pkZ (z : Bool) (l : List Pk) : T := match z with
  | true => nilS
  | false => .sl (rows pkL l) l.length false
theorem start_ok (z : Bool) (o : List Int) (ho : o.length ≤ 12) (r0 r1 : Int) (h0 : 0 ≤ r0) (h1 : 0 ≤ r1) : Ok (startX (startS z o r0 r1)) (startS z o r0 r1) 0 := by
  refine ⟨⟨0, wok00 z o r0 r1⟩, sinv00 z o r0 r1 h0 h1, ?_⟩
  cases z with
  | true => show ([] : List Int).length ≤ 12; simp
  | false => show (w00 o).begin.ops.length ≤ 12; rw [(begin_M _).2]; exact ho
theorem law_of_goes {ts : List T} (h : Goes bodyLw ⟨initE ts 0, []⟩ .ret SEnd) (hl : ts.length ≤ ntL) : HoldsL 3 ts [.t (bl true)] := by
  obtain ⟨s', h1, h2⟩ := h
  exact holds_of_ExecS (c := bodyLw) (x := .ret) (s' := SEnd) Tryz.func3 (by kernel_rfl) hl (ExecS.post h1 h2) (.inr rfl) (by kernel_rfl)
theorem law_nn (r0 r1 : Int) (h0 : 0 ≤ r0) (h1 : 0 ≤ r1) (haw : HoldsL 4 [] [.t (bl true)]) : HoldsL 3 [nilS, .agg [.lit (.int .u8 r0), .lit (.int .u8 r1)], nilS] [.t (bl true)] := by
  have hs := start_ok true [] (by simp) r0 r1 h0 h1
  have h2 := hs
  refine law_of_goes ?_ (of_decide_eq_true (by kernel_rfl))
  rw [bodyLw_eq]
  exact Goes.seq (lw0_nn r0 r1) (Goes.seq (lw1_nn r0 r1 haw) (Goes.seq (lw2_nn r0 r1) (Goes.seq (lw3_nn r0 r1 _ (epochWorld_holds true [] r0 r1)) (Goes.seq (lw4_nn _ ) (Goes.seq (lp_nil _) (tail_holds _ _ _ h2 (by omega)))))))
theorem law_sn (o : List Int) (ho : o.length ≤ 12) (r0 r1 : Int) (h0 : 0 ≤ r0) (h1 : 0 ≤ r1) (haw : HoldsL 4 [] [.t (bl true)]) : HoldsL 3 [(opsS o), .agg [.lit (.int .u8 r0), .lit (.int .u8 r1)], nilS] [.t (bl true)] := by
  have hs := start_ok false o ho r0 r1 h0 h1
  have h2 := hs
  refine law_of_goes ?_ (of_decide_eq_true (by kernel_rfl))
  rw [bodyLw_eq]
  exact Goes.seq (lw0_sn o ho r0 r1) (Goes.seq (lw1_sn o ho r0 r1 haw) (Goes.seq (lw2_sn o ho r0 r1) (Goes.seq (lw3_sn o ho r0 r1 _ (epochWorld_holds false o r0 r1)) (Goes.seq (lw4_sn _ o ho ) (Goes.seq (lp_nil _) (tail_holds _ _ _ h2 (by omega)))))))
theorem law_ns (l : List Pk) (hl : l.length ≤ 250) (r0 r1 : Int) (h0 : 0 ≤ r0) (h1 : 0 ≤ r1) (haw : HoldsL 4 [] [.t (bl true)]) : HoldsL 3 [nilS, .agg [.lit (.int .u8 r0), .lit (.int .u8 r1)], (.sl (rows pkL l) l.length false)] [.t (bl true)] := by
  have hs := start_ok true [] (by simp) r0 r1 h0 h1
  obtain ⟨x1, s1, h2, h3⟩ := lp_loop l hl l.length 0 _ _ (by omega) hs
  refine law_of_goes ?_ (of_decide_eq_true (by kernel_rfl))
  rw [bodyLw_eq]
  exact Goes.seq (lw0_ns l hl r0 r1) (Goes.seq (lw1_ns l hl r0 r1 haw) (Goes.seq (lw2_ns l hl r0 r1) (Goes.seq (lw3_ns l hl r0 r1 _ (epochWorld_holds true [] r0 r1)) (Goes.seq (lw4_ns _ l hl ) (Goes.seq (by rw [A5_eq]; exact Goes.seq (lp_go _ l) (Goes.blockIn (Rds.loop h3))) (tail_holds x1 s1 _ h2 (by omega)))))))
theorem law_ss (o : List Int) (ho : o.length ≤ 12) (l : List Pk) (hl : l.length ≤ 250) (r0 r1 : Int) (h0 : 0 ≤ r0) (h1 : 0 ≤ r1) (haw : HoldsL 4 [] [.t (bl true)]) : HoldsL 3 [(opsS o), .agg [.lit (.int .u8 r0), .lit (.int .u8 r1)], (.sl (rows pkL l) l.length false)] [.t (bl true)] := by
  have hs := start_ok false o ho r0 r1 h0 h1
  obtain ⟨x1, s1, h2, h3⟩ := lp_loop l hl l.length 0 _ _ (by omega) hs
  refine law_of_goes ?_ (of_decide_eq_true (by kernel_rfl))
  rw [bodyLw_eq]
  exact Goes.seq (lw0_ss o ho l hl r0 r1) (Goes.seq (lw1_ss o ho l hl r0 r1 haw) (Goes.seq (lw2_ss o ho l hl r0 r1) (Goes.seq (lw3_ss o ho l hl r0 r1 _ (epochWorld_holds false o r0 r1)) (Goes.seq (lw4_ss _ o ho l hl ) (Goes.seq (by rw [A5_eq]; exact Goes.seq (lp_go _ l) (Goes.blockIn (Rds.loop h3))) (tail_holds x1 s1 _ h2 (by omega)))))))
theorem law_true (zo zl : Bool) (o : List Int) (l : List Pk) (r0 r1 : Int) (h0 : 0 ≤ r0) (h1 : 0 ≤ r1) (haw : HoldsL 4 [] [.t (bl true)]) : HoldsL 3 [opsZ zo o, .agg [.lit (.int .u8 r0), .lit (.int .u8 r1)], pkZ zl l] [.t (bl true)] := by
  cases zo with
  | true => cases zl with
    | true => exact law_nn r0 r1 h0 h1 haw
    | false =>
      by_cases hl : l.length ≤ 250
      · exact law_ns l hl r0 r1 h0 h1 haw
      · exact long_nl l (by omega) r0 r1 haw
  | false => cases zl with
    | true =>
      by_cases ho : o.length ≤ 12
      · exact law_sn o ho r0 r1 h0 h1 haw
      · exact long_sn o (by omega) r0 r1 haw
    | false =>
      by_cases ho : o.length ≤ 12
      · by_cases hl : l.length ≤ 250
        · exact law_ss o ho l hl r0 r1 h0 h1 haw
        · exact long_sl o ho l (by omega) r0 r1 haw
      · exact long_ss o (by omega) l r0 r1 haw
end Go.Proofs.YtiegfchaepbnbaaGreatDoor
