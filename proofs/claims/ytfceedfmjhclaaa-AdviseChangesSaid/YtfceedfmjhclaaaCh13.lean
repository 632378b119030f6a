/- The law AdviseChanges: single steps; the start of the law for whatever list. -/
import Derived.Test.YtfceedfmjhclaaaCh12
namespace Go.Proofs.Ytfceedfmjhclaaa
open Go Go.RowKit Go.Va
set_option maxRecDepth 100000
set_option maxHeartbeats 400000
theorem eql_word (x y : Operand) (v a r : Int) : BinIs Try.prog .eql 35 x y (.agg [.int .i64 v, .int .u32 a, .int .u32 r].toArray) (.agg [.int .i64 v, .int .u32 a, .int .u32 r].toArray) (.bool true) := by
  show BinIs Try.prog .eql 35 x y (.agg (wV v a r)) (.agg (wV v a r)) (.bool true)
  unfold BinIs
  have hg : pr Try.prog (eqGuard .eql 35 x y (.agg (wV v a r)) (.agg (wV v a r))) = some () := by kernel_rfl
  have he := eq_word2 9998 v a r v a r
  rw [pr_bind hg]
  have : pr Try.prog (binOp .eql 35 (.agg (wV v a r)) (.agg (wV v a r))) = (pr Try.prog (Op.equalIn (9998 + 1 + 1) 35 (.agg (wV v a r)) (.agg (wV v a r)))).bind fun b => some (.bool b) := by
    show pr Try.prog (Op.equalIn (9998 + 1 + 1) 35 (.agg (wV v a r)) (.agg (wV v a r)) >>= fun b => (pure (Value.bool b) : Sem Value)) = _
    rw [pr_bind_eq]
    rfl
  rw [this, he]
  simp
theorem rem3 (x y : Operand) (n : Int) : BinIs Try.prog .rem 5 x y (.int .u8 n) (.int .u8 3) (.int .u8 (Int.tmod n 3)) := by unfold BinIs; kernel_rfl
theorem sub1 (x y : Operand) (e : Nat) (he : e < 1000) : BinIs Try.prog .sub 3 x y (.int .i64 ((e + 1 : Nat) : Int)) (.int .i64 1) (.int .i64 (((e + 1 : Nat) : Int) - 1)) := by
  have h := bin_sub x y e (by omega)
  rw [show ((e + 1 : Nat) : Int) - 1 = e by omega]
  exact h
def ansV (s : AC) : Int := if s.done then s.ans else 0
theorem answer_holds (s : AC) : Holds Try.prog noG 12 [.ifc 104 s.t] [.t (i64 (ansV s)), .t (bl s.done)] := by
  obtain ⟨n, tr, ans, bg, sw, d⟩ := s
  have h : runX Try.prog noG clones 10 12 [.ifc 104 (AC.t ⟨n, tr, ans, bg, sw, d⟩)] [] = some ([.t (i64 (ansV ⟨n, tr, ans, bg, sw, d⟩)), .t (bl d)], [], []) := by
    cases bg <;> cases sw <;> cases d <;> kernel_rfl
  exact sndC 10 _ _ _ _ _ _ h .nil
theorem word_holds (q : MR) (pre : List T) (m : Msg) (k : Nat) (c b : Bool) (hq : q.h = histT pre m k c) (hpre : pre.length = k * 5) (hk : k ≤ 100000) (s1 s2 s3 cr : Int) (cs : Bool) :
    Holds Try.prog noG 17 [machT q b s1 s2 s3 cr cs, i64 0] [.t (wT m.v m.a m.r), .t (bl true)] := by
  have h : ∀ b, runX Try.prog noG clones 20 17 [machT { q with h := histT pre m k c } b s1 s2 s3 cr cs, i64 0] [((50, 10), .res (.t (i64 k))), ((50, 11), .call [.t (.agg m.l), .t (bl true)])] =
      some ([.t (wT m.v m.a m.r), .t (bl true)], [], [BinIs Try.prog .sub 3 (.tmp 9) (.const (.int .i64 1)) (.int .i64 (k + 1 : Nat)) (.int .i64 1) (.int .i64 k), Holds Try.prog noG 63 [.agg [histT pre m k c], i64 k] [.t (.agg m.l), .t (bl true)]]) := by
    intro b
    obtain ⟨v, a, r, th, vw⟩ := m
    cases vw <;> kernel_rfl
  have e : q = { q with h := histT pre m k c } := by cases q; simp_all
  rw [e]
  exact sndC 20 _ _ _ _ _ _ (h b) (.cons (bin_sub _ _ k hk) (.cons (at_holds pre m k c hpre hk) .nil))
theorem prefix4L {lT : T} {lc : List T} {ln : Nat} (hl : IsL lT lc ln) (n1 n2 n3 r1 r2 r3 : Int) (a1 a2 a3 b1 b2 b3 : TK) :
    tidiedP [2, 14, 16, 18] (preX Try.prog noG (runX Try.prog noG noF 10) 4 Try.f4.ntmps 10 11 body4 ⟨initE [.agg [i8 n1, i8 n2, i8 n3], .agg [u8 r1, u8 r2, u8 r3], lT] 0, []⟩
      [((4, 31), .call [.t (bl true)]), ((4, 35), .b false), ((4, 39), .call [.t (machT m0 false 0 0 0 0 false), .t (i64 0)]), ((4, 78), .call [.t (worldT (machT m0 false 0 0 0 0 false) a1 a2 a3 false false), .t (i64 0)]), ((4, 84), .call [.t (worldT (machT m0 false 0 0 0 0 false) b1 b2 b3 false false), .t (i64 0)])]) =
    some (S4 lT (worldT (machT m0 false 0 0 0 0 false) a1 a2 a3 false false) (worldT (machT m0 false 0 0 0 0 false) b1 b2 b3 false false) (leftE r1) (leftE r2) (leftE r3), [],
      [Holds Try.prog noG 5 [] [.t (bl true)], decide ((ln : Int) > 150) = false, Holds Try.prog noG 14 [i64 3, .sl [i64 0, u32 0, u32 0] 1 false] [.t (machT m0 false 0 0 0 0 false), .t (i64 0)],
        Holds Try.prog noG 15 [machT m0 false 0 0 0 0 false, .sl [cN n1, cN n2, cN n3] 3 false] [.t (worldT (machT m0 false 0 0 0 0 false) a1 a2 a3 false false), .t (i64 0)],
        Holds Try.prog noG 15 [machT m0 false 0 0 0 0 false, .sl [wwT n1 r1, wwT n2 r2, wwT n3 r3] 3 false] [.t (worldT (machT m0 false 0 0 0 0 false) b1 b2 b3 false false), .t (i64 0)]]) := by
  rcases hl with ⟨cl, rfl⟩ | ⟨rfl, rfl, rfl⟩ <;> kernel_rfl
theorem early4 {lT : T} {lc : List T} {ln : Nat} (hl : IsL lT lc ln) (n1 n2 n3 r1 r2 r3 : Int) :
    runX Try.prog noG noF 11 4 [.agg [i8 n1, i8 n2, i8 n3], .agg [u8 r1, u8 r2, u8 r3], lT] [((4, 31), .call [.t (bl true)]), ((4, 35), .b true)] =
    some ([.t (bl true)], [], [Holds Try.prog noG 5 [] [.t (bl true)], decide ((ln : Int) > 150) = true]) := by
  rcases hl with ⟨cl, rfl⟩ | ⟨rfl, rfl, rfl⟩ <;> kernel_rfl
end Go.Proofs.Ytfceedfmjhclaaa
