/- Rows of places: what redo.may, statuses and own hand back; a search through a row. -/
import Derived.Test.YtaomebcmmjhplaaGreatDoorLy4
namespace Go.Proofs.YtaomebcmmjhplaaGreatDoor
open Go Go.RowKit Go.Va
set_option maxRecDepth 100000
set_option maxHeartbeats 400000
theorem mayL_mem (t c b : Int) : ∀ (n : Nat) (x : Int), x ∈ mayL t c b n ↔ ∃ a : Nat, a < n ∧ x = a ∧ mayF t c b a = true
  | 0, x => by simp [mayL]
  | n + 1, x => by
    simp only [mayL]
    split
    · rename_i hm
      rw [List.mem_append, mayL_mem t c b n x, List.mem_singleton]
      constructor
      · rintro (⟨a, h1, h2, h3⟩ | rfl)
        · exact ⟨a, by omega, h2, h3⟩
        · exact ⟨n, by omega, rfl, hm⟩
      · rintro ⟨a, h1, rfl, h3⟩
        by_cases ha : a = n
        · subst ha; exact .inr rfl
        · exact .inl ⟨a, by omega, rfl, h3⟩
    · rename_i hm
      rw [mayL_mem t c b n x]
      constructor
      · rintro ⟨a, h1, h2, h3⟩; exact ⟨a, by omega, h2, h3⟩
      · rintro ⟨a, h1, rfl, h3⟩
        by_cases ha : a = n
        · subst ha; exact absurd h3 hm
        · exact ⟨a, by omega, rfl, h3⟩
theorem may_holds {t c b : Int} (h : LV t c b) (n : Nat) (hn : fromF t c b 7 = n) : HoldsL 41 [lay t c b] [.t (.sl ((mayL t c b n).map i64) (mayL t c b n).length false)] := by
  have hs := size_le h
  have hf3 : 0 ≤ fromF t c b 3 ∧ fromF t c b 3 < n := by
    have := fromF_range h 3
    refine ⟨this.1, ?_⟩
    rw [← hn]
    obtain ⟨h1, h2, h3, h4, h5, h6⟩ := h
    have := long3_le c h3 h4
    have := long5_le b
    simp only [fromF]
    omega
  have hne : mayL t c b n ≠ [] := by
    intro he
    have : fromF t c b 3 ∈ mayL t c b n := (mayL_mem t c b n _).2 ⟨(fromF t c b 3).toNat, by omega, by omega, by
      unfold mayF
      have h1 := h.c1
      have e : (((fromF t c b 3).toNat : Nat) : Int) = fromF t c b 3 := by omega
      rw [e]
      simp
      omega⟩
    rw [he] at this
    cases this
  obtain ⟨s', r1, r2⟩ := loopM_rounds h n (by omega) hne n 0 (by omega)
  obtain ⟨s1, o1, o2⟩ := tidied_some (startM t c b n)
  refine Holds.freeze1 (sz := 1) ?_
  have hsz := size_ok h
  rw [hn] at hsz
  refine holds_of_ExecS (c := bodyM) (x := .ret) (s' := ⟨[(2, .osl 0 (mayL t c b n).length 1), (3, .osl 0 (mayL t c b n).length 1), (18, .osl 0 (mayL t c b n).length 1)], [some (.cells ((mayL t c b n).map fun x => .t (i64 x)) false)]⟩) Tryz.func41 (by kernel_rfl) (of_decide_eq_true (by kernel_rfl)) ?_ (.inr rfl) ?_
  · refine PX_sound (preM t c b) .nil ?_
    rw [restM_eq]
    exact .seq (.seq (XX_sound o1 (.cons hsz .nil)) (ExecS.weak (tidy_weak o2) (.blockIn r1.loop))) (ExecS.weak r2 (XX_sound (lastM _ _) .nil))
  · exact retR_osl (ts := (mayL t c b n).map i64) rfl rfl (by simp [S.h, Function.comp_def]) (by simp)
end Go.Proofs.YtaomebcmmjhplaaGreatDoor
