/- What the codes and the tasks do: the retry loop of one word, the wrapped code, the task. -/
import Derived.Test.YtfceedfmjhclaaaAd1
namespace Go.Proofs.Ytfceedfmjhclaaa
open Go Go.RowKit Go.Va
def i64 (n : Int) : T := .lit (.int .i64 n)
def u32 (n : Int) : T := .lit (.int .u32 n)
def bl (b : Bool) : T := .lit (.bool b)
/-- A memory operation. -/
structure A8 where
  op : Int
  at' : Int
  ov : Int
  oa : Int
  or' : Int
  nv : Int
  na : Int
  nr : Int
def A8.l (a : A8) : List T := [i64 a.op, i64 a.at', i64 a.ov, u32 a.oa, u32 a.or', i64 a.nv, u32 a.na, u32 a.nr]
def A8.zero : A8 := ⟨0, 0, 0, 0, 0, 0, 0, 0⟩
def A8.look : A8 := ⟨5, 0, 0, 0, 0, 0, 0, 0⟩
/-- What an operation gave. -/
structure G4 where
  v : Int
  a : Int
  r : Int
  ok : Bool
def G4.l (g : G4) : List T := [i64 g.v, u32 g.a, u32 g.r, bl g.ok]
def G4.zero : G4 := ⟨0, 0, 0, false⟩
def nextT (c : T) : T := .fn (.method "Next") [c] []
def tsk (c : T) (a : A8) (gots : T) : T := .agg ([c, nextT c] ++ a.l ++ [gots])
def tskD (c : T) (gots : T) : T := .agg ([c, .lit .nilFunc] ++ A8.zero.l ++ [gots])
/-- The code of an addition. -/
structure AC where
  n : Int
  tries : Int
  ans : Int
  begun : Bool
  swapped : Bool
  done : Bool
def AC.t (s : AC) : T := .agg [i64 0, i64 0, i64 s.n, bl s.begun, bl s.swapped, bl s.done, i64 s.tries, i64 s.ans]
def AC.c (s : AC) : T := .ifc 104 s.t
def w64 : Int → Int := IntKind.i64.wrap
theorem w64_id (n : Int) (h0 : 0 ≤ n) (h1 : n < 9223372036854775808) : w64 n = n := by
  have e : w64 n = (if (true && decide (n % (18446744073709551616 : Int) ≥ (9223372036854775808 : Int))) = true then n % 18446744073709551616 - 18446744073709551616 else n % 18446744073709551616) := rfl
  have h : n % (18446744073709551616 : Int) = n := Int.emod_eq_of_lt h0 (by omega)
  rw [e]
  simp only [h, Bool.true_and, decide_eq_true_eq]
  rw [if_neg (by omega)]
def nextM (s : AC) (g : G4) : AC × A8 × Bool :=
  if s.done then (s, .zero, true)
  else if s.begun then
    let s1 : AC := if s.swapped then { s with tries := w64 (s.tries + 1) } else s
    if s.swapped && g.ok then ({ s1 with done := true, ans := g.v }, .zero, true)
    else if w64 (g.v + s.n) == g.v then ({ s1 with done := true, ans := g.v }, .zero, true)
    else ({ s1 with swapped := true }, ⟨6, 0, g.v, g.a, g.r, w64 (g.v + s.n), g.a, g.r⟩, false)
  else ({ s with begun := true }, .look, false)

set_option maxRecDepth 100000
set_option maxHeartbeats 400000
theorem next_atom (s : AC) (g : G4) : Holds Try.prog noG 110 [s.t, .agg g.l] [.t (nextM s g).1.c, .t (.agg (nextM s g).2.1.l), .t (bl (nextM s g).2.2)] := by
  obtain ⟨n, tries, ans, begun, swapped, done⟩ := s
  obtain ⟨v, a, r, ok⟩ := g
  cases done
  · cases begun
    · have h : ∀ b : Bool, runX Try.prog noG noF 10 110 [AC.t ⟨n, tries, ans, false, b, false⟩, .agg (G4.l ⟨v, a, r, ok⟩)] [] = some ([.t (AC.c ⟨n, tries, ans, true, b, false⟩), .t (.agg A8.look.l), .t (bl false)], [], []) := by
        intro b; cases b <;> kernel_rfl
      exact runX_sound mixed noF_snd 10 _ _ _ _ _ _ (h swapped) All.nil
    · cases hc : (w64 (v + n) == v) <;> cases swapped
      · have h : runX Try.prog noG noF 10 110 [AC.t ⟨n, tries, ans, true, false, false⟩, .agg (G4.l ⟨v, a, r, ok⟩)] [((110, 57), .b false)] = some ([.t (AC.c ⟨n, tries, ans, true, true, false⟩), .t (.agg (A8.l ⟨6, 0, v, a, r, w64 (v + n), a, r⟩)), .t (bl false)], [], [(w64 (v + n) == v) = false]) := by kernel_rfl
        simp only [nextM, hc]
        exact runX_sound mixed noF_snd 10 _ _ _ _ _ _ h (All.cons hc All.nil)
      · cases ok
        · have h : runX Try.prog noG noF 10 110 [AC.t ⟨n, tries, ans, true, true, false⟩, .agg (G4.l ⟨v, a, r, false⟩)] [((110, 57), .b false)] = some ([.t (AC.c ⟨n, w64 (tries + 1), ans, true, true, false⟩), .t (.agg (A8.l ⟨6, 0, v, a, r, w64 (v + n), a, r⟩)), .t (bl false)], [], [(w64 (v + n) == v) = false]) := by kernel_rfl
          simp only [nextM, hc]
          exact runX_sound mixed noF_snd 10 _ _ _ _ _ _ h (All.cons hc All.nil)
        · have h : runX Try.prog noG noF 10 110 [AC.t ⟨n, tries, ans, true, true, false⟩, .agg (G4.l ⟨v, a, r, true⟩)] [] = some ([.t (AC.c ⟨n, w64 (tries + 1), v, true, true, true⟩), .t (.agg A8.zero.l), .t (bl true)], [], []) := by kernel_rfl
          exact runX_sound mixed noF_snd 10 _ _ _ _ _ _ h All.nil
      · have h : runX Try.prog noG noF 10 110 [AC.t ⟨n, tries, ans, true, false, false⟩, .agg (G4.l ⟨v, a, r, ok⟩)] [((110, 57), .b true)] = some ([.t (AC.c ⟨n, tries, v, true, false, true⟩), .t (.agg A8.zero.l), .t (bl true)], [], [(w64 (v + n) == v) = true]) := by kernel_rfl
        simp only [nextM, hc]
        exact runX_sound mixed noF_snd 10 _ _ _ _ _ _ h (All.cons hc All.nil)
      · cases ok
        · have h : runX Try.prog noG noF 10 110 [AC.t ⟨n, tries, ans, true, true, false⟩, .agg (G4.l ⟨v, a, r, false⟩)] [((110, 57), .b true)] = some ([.t (AC.c ⟨n, w64 (tries + 1), v, true, true, true⟩), .t (.agg A8.zero.l), .t (bl true)], [], [(w64 (v + n) == v) = true]) := by kernel_rfl
          simp only [nextM, hc]
          exact runX_sound mixed noF_snd 10 _ _ _ _ _ _ h (All.cons hc All.nil)
        · have h : runX Try.prog noG noF 10 110 [AC.t ⟨n, tries, ans, true, true, false⟩, .agg (G4.l ⟨v, a, r, true⟩)] [] = some ([.t (AC.c ⟨n, w64 (tries + 1), v, true, true, true⟩), .t (.agg A8.zero.l), .t (bl true)], [], []) := by kernel_rfl
          exact runX_sound mixed noF_snd 10 _ _ _ _ _ _ h All.nil
  · have h : ∀ b c : Bool, runX Try.prog noG noF 10 110 [AC.t ⟨n, tries, ans, b, c, true⟩, .agg (G4.l ⟨v, a, r, ok⟩)] [] = some ([.t (AC.c ⟨n, tries, ans, b, c, true⟩), .t (.agg A8.zero.l), .t (bl true)], [], []) := by
      intro b c; cases b <;> cases c <;> kernel_rfl
    exact runX_sound mixed noF_snd 10 _ _ _ _ _ _ (h begun swapped) All.nil

/-- The wrapped code. -/
def wr (c : T) (left : Int) (begun : Bool) : T := .agg [c, i64 left, bl begun]
theorem next_rest (t : Nat) (x : T) (left : Int) (g : G4) (begun : Bool) (hl : 0 < left) (hm : left ≤ 64) : Holds Try.prog noG 109 [wr (.ifc t x) left begun, .agg g.l] [.t (.ifc 98 (wr (.ifc t x) (left - 1) begun)), .t (.agg A8.zero.l), .t (bl false)] := by
  have h : ∀ b : Bool, runX Try.prog noG noF 10 109 [wr (.ifc t x) left b, .agg g.l] [((109, 12), .b true)] = some ([.t (.ifc 98 (wr (.ifc t x) (w64 (left - 1)) b)), .t (.agg A8.zero.l), .t (bl false)], [], [decide (left > 0) = true]) := by
    intro b; cases b <;> kernel_rfl
  have hw : w64 (left - 1) = left - 1 := w64_id _ (by omega) (by omega)
  rw [← hw]
  exact runX_sound mixed noF_snd 10 _ _ _ _ _ _ (h begun) (All.cons (by simpa using hl) All.nil)
theorem next_first (s : AC) (g : G4) : Holds Try.prog noG 109 [wr s.c 0 false, .agg g.l] [.t (.ifc 98 (wr (nextM s .zero).1.c 0 true)), .t (.agg (nextM s .zero).2.1.l), .t (bl (nextM s .zero).2.2)] := by
  have h : ∀ (s' : AC) (a : A8) (d : Bool), runX Try.prog noG noF 10 109 [wr s.c 0 false, .agg g.l] [((109, 29), .call [.t s'.c, .t (.agg a.l), .t (bl d)])] = some ([.t (.ifc 98 (wr s'.c 0 true)), .t (.agg a.l), .t (bl d)], [], [Holds Try.prog noG 110 [s.t, .agg G4.zero.l] [.t s'.c, .t (.agg a.l), .t (bl d)]]) := by
    intro s' a d; kernel_rfl
  exact runX_sound mixed noF_snd 10 _ _ _ _ _ _ (h _ _ _) (All.cons (next_atom s .zero) All.nil)
theorem next_inner (s : AC) (g : G4) : Holds Try.prog noG 109 [wr s.c 0 true, .agg g.l] [.t (.ifc 98 (wr (nextM s g).1.c 0 true)), .t (.agg (nextM s g).2.1.l), .t (bl (nextM s g).2.2)] := by
  have h : ∀ (s' : AC) (a : A8) (d : Bool), runX Try.prog noG noF 10 109 [wr s.c 0 true, .agg g.l] [((109, 29), .call [.t s'.c, .t (.agg a.l), .t (bl d)])] = some ([.t (.ifc 98 (wr s'.c 0 true)), .t (.agg a.l), .t (bl d)], [], [Holds Try.prog noG 110 [s.t, .agg g.l] [.t s'.c, .t (.agg a.l), .t (bl d)]]) := by
    intro s' a d; kernel_rfl
  exact runX_sound mixed noF_snd 10 _ _ _ _ _ _ (h _ _ _) (All.cons (next_atom s g) All.nil)

/-- A task behind a Next. -/
def told (c : T) (a : A8) (d : Bool) (gots : T) : T := if d then tskD c gots else tsk c a gots

theorem clip_holds (cells : List T) (k : Nat) (c : Bool) (hk : cells.length = k * 4) : Holds Try.prog noG 26 [.sl cells k c] [.t (.sl cells k true)] := by
  have h : runX Try.prog noG noF 10 26 [.sl cells k c] [((26, 8), .res (.t (.sl cells k true)))] = some ([.t (.sl cells k true)], [], [sliceC Try.prog (fun _ => none) 45 (.t (.sl cells k c)) none (some k) (some k) = some ⟨.t (.sl cells k true), [], []⟩]) := by kernel_rfl
  refine runX_sound mixed noF_snd 10 _ _ _ _ _ _ h (All.cons ?_ All.nil)
  obtain ⟨i, hi, hs⟩ : ∃ i, Try.prog.info? 45 = some i ∧ i.size = 4 := ⟨_, rfl, by kernel_rfl⟩
  unfold sliceC
  simp only [hi, hs]
  have hb : bounds3 k none (some (k : Int)) (some (k : Int)) = some (0, k, some k) := by simp [bounds3]
  rw [hb]
  simp [clipOf, List.take_of_length_le, hk]

theorem room (k : Nat) (h : k ≤ 1000) : roomB (k + 1) 24 = true := by
  simp only [roomB, Bool.and_eq_true, decide_eq_true_eq]
  omega

/-- Give: of a task that is not done. 'f' is the code's Next. -/
theorem give_sl (t : Nat) (f : FuncId) (htf : (t = 104 ∧ f = 110) ∨ (t = 98 ∧ f = 109)) (x : T) (a : A8) (g : G4) (cells : List T) (k : Nat) (c : Bool) (hk : cells.length = k * 4) (hm : k ≤ 1000) (t' : Nat) (x' : T) (a' : A8) (d : Bool)
    (hn : Holds Try.prog noG f [x, .agg g.l] [.t (.ifc t' x'), .t (.agg a'.l), .t (bl d)]) :
    Holds Try.prog noG 11 [tsk (.ifc t x) a (.sl cells k c), .agg g.l] [.t (told (.ifc t' x') a' d (.sl (cells ++ g.l) (k + 1) false))] := by
  have hall : All [Holds Try.prog noG 26 [.sl cells k c] [.t (.sl cells k true)], true = true, roomB (k + 1) 24 = true, cells.length = k * 4, Holds Try.prog noG f [x, .agg g.l] [.t (.ifc t' x'), .t (.agg a'.l), .t (bl d)]] :=
    .cons (clip_holds cells k c hk) (.cons rfl (.cons (room k hm) (.cons hk (.cons hn .nil))))
  rcases htf with ⟨rfl, rfl⟩ | ⟨rfl, rfl⟩
  · have h : ∀ d, runX Try.prog noG noF 10 11 [tsk (.ifc 104 x) a (.sl cells k c), .agg g.l] [((11, 13), .call [.t (.sl cells k true)]), ((11, 16), .app), ((11, 21), .call [.t (.ifc t' x'), .t (.agg a'.l), .t (bl d)])] =
        some ([.t (told (.ifc t' x') a' d (.sl (cells ++ g.l) (k + 1) false))], [], [Holds Try.prog noG 26 [.sl cells k c] [.t (.sl cells k true)], true = true, roomB (k + 1) 24 = true, cells.length = k * 4, Holds Try.prog noG 110 [x, .agg g.l] [.t (.ifc t' x'), .t (.agg a'.l), .t (bl d)]]) := by
      intro d; cases d <;> kernel_rfl
    exact runX_sound mixed noF_snd 10 _ _ _ _ _ _ (h d) hall
  · have h : ∀ d, runX Try.prog noG noF 10 11 [tsk (.ifc 98 x) a (.sl cells k c), .agg g.l] [((11, 13), .call [.t (.sl cells k true)]), ((11, 16), .app), ((11, 21), .call [.t (.ifc t' x'), .t (.agg a'.l), .t (bl d)])] =
        some ([.t (told (.ifc t' x') a' d (.sl (cells ++ g.l) (k + 1) false))], [], [Holds Try.prog noG 26 [.sl cells k c] [.t (.sl cells k true)], true = true, roomB (k + 1) 24 = true, cells.length = k * 4, Holds Try.prog noG 109 [x, .agg g.l] [.t (.ifc t' x'), .t (.agg a'.l), .t (bl d)]]) := by
      intro d; cases d <;> kernel_rfl
    exact runX_sound mixed noF_snd 10 _ _ _ _ _ _ (h d) hall
theorem give_nil (t : Nat) (f : FuncId) (htf : (t = 104 ∧ f = 110) ∨ (t = 98 ∧ f = 109)) (x : T) (a : A8) (g : G4) (t' : Nat) (x' : T) (a' : A8) (d : Bool)
    (hn : Holds Try.prog noG f [x, .agg g.l] [.t (.ifc t' x'), .t (.agg a'.l), .t (bl d)]) :
    Holds Try.prog noG 11 [tsk (.ifc t x) a (.lit (.slice none 0 0)), .agg g.l] [.t (told (.ifc t' x') a' d (.sl g.l 1 false))] := by
  rcases htf with ⟨rfl, rfl⟩ | ⟨rfl, rfl⟩
  · have h : ∀ d, runX Try.prog noG noF 10 11 [tsk (.ifc 104 x) a (.lit (.slice none 0 0)), .agg g.l] [((11, 21), .call [.t (.ifc t' x'), .t (.agg a'.l), .t (bl d)])] =
        some ([.t (told (.ifc t' x') a' d (.sl g.l 1 false))], [], [Holds Try.prog noG 110 [x, .agg g.l] [.t (.ifc t' x'), .t (.agg a'.l), .t (bl d)]]) := by
      intro d; cases d <;> kernel_rfl
    exact runX_sound mixed noF_snd 10 _ _ _ _ _ _ (h d) (.cons hn .nil)
  · have h : ∀ d, runX Try.prog noG noF 10 11 [tsk (.ifc 98 x) a (.lit (.slice none 0 0)), .agg g.l] [((11, 21), .call [.t (.ifc t' x'), .t (.agg a'.l), .t (bl d)])] =
        some ([.t (told (.ifc t' x') a' d (.sl g.l 1 false))], [], [Holds Try.prog noG 109 [x, .agg g.l] [.t (.ifc t' x'), .t (.agg a'.l), .t (bl d)]]) := by
      intro d; cases d <;> kernel_rfl
    exact runX_sound mixed noF_snd 10 _ _ _ _ _ _ (h d) (.cons hn .nil)
/-- Give: a done task stays. -/
theorem give_done (t : Nat) (x : T) (g : G4) (gots : T) (hg : gots = .lit (.slice none 0 0) ∨ ∃ cells k c, gots = .sl cells k c) : Holds Try.prog noG 11 [tskD (.ifc t x) gots, .agg g.l] [.t (tskD (.ifc t x) gots)] := by
  rcases hg with rfl | ⟨cells, k, c, rfl⟩
  · exact runX_sound mixed noF_snd 10 11 [tskD (.ifc t x) (.lit (.slice none 0 0)), .agg g.l] [] _ [] [] (by kernel_rfl) .nil
  · exact runX_sound mixed noF_snd 10 11 [tskD (.ifc t x) (.sl cells k c), .agg g.l] [] _ [] [] (by kernel_rfl) .nil
theorem start_holds (t : Nat) (f : FuncId) (htf : (t = 104 ∧ f = 110) ∨ (t = 98 ∧ f = 109)) (x : T) (t' : Nat) (x' : T) (a' : A8) (d : Bool)
    (hn : Holds Try.prog noG f [x, .agg G4.zero.l] [.t (.ifc t' x'), .t (.agg a'.l), .t (bl d)]) :
    Holds Try.prog noG 9 [.ifc t x] [.t (told (.ifc t' x') a' d (.lit (.slice none 0 0)))] := by
  rcases htf with ⟨rfl, rfl⟩ | ⟨rfl, rfl⟩
  · have h : ∀ d, runX Try.prog noG noF 10 9 [.ifc 104 x] [((9, 9), .call [.t (.ifc t' x'), .t (.agg a'.l), .t (bl d)])] = some ([.t (told (.ifc t' x') a' d (.lit (.slice none 0 0)))], [], [Holds Try.prog noG 110 [x, .agg G4.zero.l] [.t (.ifc t' x'), .t (.agg a'.l), .t (bl d)]]) := by
      intro d; cases d <;> kernel_rfl
    exact runX_sound mixed noF_snd 10 _ _ _ _ _ _ (h d) (.cons hn .nil)
  · have h : ∀ d, runX Try.prog noG noF 10 9 [.ifc 98 x] [((9, 9), .call [.t (.ifc t' x'), .t (.agg a'.l), .t (bl d)])] = some ([.t (told (.ifc t' x') a' d (.lit (.slice none 0 0)))], [], [Holds Try.prog noG 109 [x, .agg G4.zero.l] [.t (.ifc t' x'), .t (.agg a'.l), .t (bl d)]]) := by
      intro d; cases d <;> kernel_rfl
    exact runX_sound mixed noF_snd 10 _ _ _ _ _ _ (h d) (.cons hn .nil)
end Go.Proofs.Ytfceedfmjhclaaa
