/- The world at the start (2). The world at the start (3). A thread alone comes to its end. -/
import Derived.Test.YtiegfchaepbnbaaGreatDoorP25
namespace Go.Proofs.YtiegfchaepbnbaaGreatDoor
open Go Go.RowKit Go.Va
set_option maxRecDepth 100000
set_option maxHeartbeats 400000
theorem wn_go_n (x' : T) (a' : Ac) (d : Bool) (hb : HoldsL 142 [(T.agg [(i64 3), (i64 8), (i64 0), nilS, (i64 0), nilI, nilS, (T.sl [(i64 1), (i64 2), (i64 3)] 3 false), (i64 1), (i64 0), (i64 0), (i64 0), (i64 1), (i64 0), (i64 0), (i64 0), (i64 17), (u32 0), (u32 0), (i64 0), nilS, (bl false)])] [.t (.ifc 68 x'), .t (.agg (acL a')), .t (bl d)]) : HoldsL 141 [(T.agg [(i64 3), (i64 8), (i64 0), nilS, (i64 0), nilI, nilS, (T.sl [(i64 1), (i64 2), (i64 3)] 3 false), (i64 1), (i64 0), (i64 0), (i64 0), (i64 1), (i64 0), (i64 0), (i64 0), (i64 17), (u32 0), (u32 0), (i64 0), nilS, (bl false)]), (T.agg [(i64 0), (u32 0), (u32 0), (bl false)])] [(R.t (T.ifc 68 x')), (R.t (T.agg [(i64 a'.op), (i64 ((a'.ad : Nat) : Int)), (i64 a'.o.v), (u32 a'.o.a), (u32 a'.o.r), (i64 a'.n.v), (u32 a'.n.a), (u32 a'.n.r)])), (R.t (bl d))] := by
  have e : runX Tryz.prog gG noF 20 141 [(T.agg [(i64 3), (i64 8), (i64 0), nilS, (i64 0), nilI, nilS, (T.sl [(i64 1), (i64 2), (i64 3)] 3 false), (i64 1), (i64 0), (i64 0), (i64 0), (i64 1), (i64 0), (i64 0), (i64 0), (i64 17), (u32 0), (u32 0), (i64 0), nilS, (bl false)]), (T.agg [(i64 0), (u32 0), (u32 0), (bl false)])] [((141, 49), .call [(R.t (T.ifc 68 x')), (R.t (T.agg [(i64 a'.op), (i64 ((a'.ad : Nat) : Int)), (i64 a'.o.v), (u32 a'.o.a), (u32 a'.o.r), (i64 a'.n.v), (u32 a'.n.a), (u32 a'.n.r)])), (R.t (bl d))])] = some ([(R.t (T.ifc 68 x')), (R.t (T.agg [(i64 a'.op), (i64 ((a'.ad : Nat) : Int)), (i64 a'.o.v), (u32 a'.o.a), (u32 a'.o.r), (i64 a'.n.v), (u32 a'.n.a), (u32 a'.n.r)])), (R.t (bl d))], [], [HoldsL 142 [(T.agg [(i64 3), (i64 8), (i64 0), nilS, (i64 0), nilI, nilS, (T.sl [(i64 1), (i64 2), (i64 3)] 3 false), (i64 1), (i64 0), (i64 0), (i64 0), (i64 1), (i64 0), (i64 0), (i64 0), (i64 17), (u32 0), (u32 0), (i64 0), nilS, (bl false)])] [(R.t (T.ifc 68 x')), (R.t (T.agg [(i64 a'.op), (i64 ((a'.ad : Nat) : Int)), (i64 a'.o.v), (u32 a'.o.a), (u32 a'.o.r), (i64 a'.n.v), (u32 a'.n.a), (u32 a'.n.r)])), (R.t (bl d))]]) := by kernel_rfl
  exact sndL 20 _ _ _ _ _ _ e (.cons hb .nil)
theorem ew_n (r0 r1 : Int) (w : Wld) (hmk : HoldsL 19 [machT (newQ w0), .sl [.ifc 68 ((T.agg [(i64 3), (i64 8), (i64 0), nilS, (i64 0), nilI, nilS, (T.sl [(i64 1), (i64 2), (i64 3)] 3 false), (i64 1), (i64 0), (i64 0), (i64 0), (i64 1), (i64 0), (i64 0), (i64 0), (i64 17), (u32 0), (u32 0), (i64 0), nilS, (bl false)])), .ifc 87 ((T.agg [(i64 3), (i64 8), (i64 0), (i64 2), (i64 (IntKind.i64.wrap (Int.tmod r0 6))), (i64 0), (i64 0), nilI, (i64 0), (i64 0), (i64 0)])), .ifc 87 ((T.agg [(i64 3), (i64 8), (i64 0), (i64 3), (i64 (IntKind.i64.wrap (Int.tmod r1 6))), (i64 0), (i64 0), nilI, (i64 0), (i64 0), (i64 0)]))] 3 false] [.t (worldT w), .t (i64 0)]) : HoldsL 5 [nilS, (T.agg [(T.lit (.int .u8 r0)), (T.lit (.int .u8 r1))])] [.t (worldT w), .t (bl true)] := by
  have e : runX Tryz.prog gG noF 20 5 [nilS, (T.agg [(T.lit (.int .u8 r0)), (T.lit (.int .u8 r1))])] [((5, 15), .call [(R.osl (rows wdL wF) 376 3)]), ((5, 32), .call [(R.t (i64 56))]), ((5, 0), .st (List.map C.t (rows wdL (wF.set 56 ⟨17, 0, 0⟩)))), ((5, 37), .fz [(3, (rows wdL (wF.set 56 ⟨17, 0, 0⟩)))]), ((5, 38), .call [(R.t (machT (newQ w0))), (R.t (i64 0))]), ((5, 48), .res (.t (T.lit (.int .u8 (Int.tmod r0 6))))), ((5, 55), .res (.t (T.lit (.int .u8 (Int.tmod r1 6))))), ((5, 60), .call [(R.t (worldT w)), (R.t (i64 0))])] = some ([(R.t (T.agg [(T.sl (rows histL w.q.mem.places) w.q.mem.places.length false), (T.sl (rows vwL w.q.mem.views) w.q.mem.views.length false), (T.sl (rows wdL w.q.first) w.q.first.length false), (T.sl (rows lgL w.q.logs) w.q.logs.length false), (T.box w.q.asks), (T.sl (rows i1L w.q.steps) w.q.steps.length false), (i64 w.q.crashes), (T.sl (rows tkL w.tasks) w.tasks.length false), (T.sl (rows b1L w.stopped) w.stopped.length false)])), (R.t (bl true))], [], [HoldsL 16 [(T.agg [(i64 3), (i64 8), (i64 0)])] [(R.osl (rows wdL wF) 376 3)],
      HoldsL 15 [(T.agg [(i64 3), (i64 8), (i64 0)]), (i64 0)] [(R.t (i64 56))],
      (56 * 3) + 3 ≤ List.length (List.map C.t (rows wdL wF)),
      splice (List.map C.t (rows wdL wF)) (56 * 3) [(C.t (i64 17)), (C.t (u32 0)), (C.t (u32 0))] = (List.map C.t (rows wdL (wF.set 56 ⟨17, 0, 0⟩))),
      (List.map C.t (rows wdL (wF.set 56 ⟨17, 0, 0⟩))) = List.map C.t (rows wdL (wF.set 56 ⟨17, 0, 0⟩)),
      List.length (rows wdL (wF.set 56 ⟨17, 0, 0⟩)) = 376 * 3,
      HoldsL 18 [(i64 3), (T.sl (rows wdL (wF.set 56 ⟨17, 0, 0⟩)) 376 false)] [(R.t (machT (newQ w0))), (R.t (i64 0))],
      BinIs Tryz.prog .rem 5 (.tmp 47) (.const (.int .u8 6)) (.int .u8 r0) (.int .u8 6) (.int .u8 (Int.tmod r0 6)),
      BinIs Tryz.prog .rem 5 (.tmp 54) (.const (.int .u8 6)) (.int .u8 r1) (.int .u8 6) (.int .u8 (Int.tmod r1 6)),
      HoldsL 19 [(T.agg [(T.sl (rows histL (newQ w0).mem.places) (newQ w0).mem.places.length false), (T.sl (rows vwL (newQ w0).mem.views) (newQ w0).mem.views.length false), (T.sl (rows wdL (newQ w0).first) (newQ w0).first.length false), (T.sl (rows lgL (newQ w0).logs) (newQ w0).logs.length false), (T.box (newQ w0).asks), (T.sl (rows i1L (newQ w0).steps) (newQ w0).steps.length false), (i64 (newQ w0).crashes)]), (T.sl [(T.ifc 68 (T.agg [(i64 3), (i64 8), (i64 0), nilS, (i64 0), nilI, nilS, (T.sl [(i64 1), (i64 2), (i64 3)] 3 false), (i64 1), (i64 0), (i64 0), (i64 0), (i64 1), (i64 0), (i64 0), (i64 0), (i64 17), (u32 0), (u32 0), (i64 0), nilS, (bl false)])), (T.ifc 87 (T.agg [(i64 3), (i64 8), (i64 0), (i64 2), (i64 (IntKind.i64.wrap (Int.tmod r0 6))), (i64 0), (i64 0), nilI, (i64 0), (i64 0), (i64 0)])), (T.ifc 87 (T.agg [(i64 3), (i64 8), (i64 0), (i64 3), (i64 (IntKind.i64.wrap (Int.tmod r1 6))), (i64 0), (i64 0), nilI, (i64 0), (i64 0), (i64 0)]))] 3 false)] [(R.t (worldT w)), (R.t (i64 0))]]) := by kernel_rfl
  have hh := sndL 20 _ _ _ _ _ _ e (.cons first3 (.cons cell3 (.cons (rowsLe wdL_len (show wF[56]? = some ⟨0, 0, 0⟩ from by kernel_rfl) (j := 0) (by decide)) (.cons (rowsSplice wdL_len (show wF[56]? = some ⟨0, 0, 0⟩ from by kernel_rfl) (j := 0) (by simp) rfl) (.cons (by first | rfl | simp) (.cons (by kernel_rfl) (.cons new3 (.cons (bRemU8 (by decide)) (.cons (bRemU8 (by decide)) (.cons hmk .nil))))))))))
  have hr : ([(R.t (T.agg [(T.sl (rows histL w.q.mem.places) w.q.mem.places.length false), (T.sl (rows vwL w.q.mem.views) w.q.mem.views.length false), (T.sl (rows wdL w.q.first) w.q.first.length false), (T.sl (rows lgL w.q.logs) w.q.logs.length false), (T.box w.q.asks), (T.sl (rows i1L w.q.steps) w.q.steps.length false), (i64 w.q.crashes), (T.sl (rows tkL w.tasks) w.tasks.length false), (T.sl (rows b1L w.stopped) w.stopped.length false)])), (R.t (bl true))] : List R) = [.t (worldT w), .t (bl true)] := rfl
  exact hr ▸ hh
theorem wn_go_s (l : List Int) (x' : T) (a' : Ac) (d : Bool) (hb : HoldsL 142 [(T.agg [(i64 3), (i64 8), (i64 0), (T.sl (rows u8L l) l.length false), (i64 0), nilI, nilS, (T.sl [(i64 1), (i64 2), (i64 3)] 3 false), (i64 1), (i64 0), (i64 0), (i64 0), (i64 1), (i64 0), (i64 0), (i64 0), (i64 17), (u32 0), (u32 0), (i64 0), nilS, (bl false)])] [.t (.ifc 68 x'), .t (.agg (acL a')), .t (bl d)]) : HoldsL 141 [(T.agg [(i64 3), (i64 8), (i64 0), (T.sl (rows u8L l) l.length false), (i64 0), nilI, nilS, (T.sl [(i64 1), (i64 2), (i64 3)] 3 false), (i64 1), (i64 0), (i64 0), (i64 0), (i64 1), (i64 0), (i64 0), (i64 0), (i64 17), (u32 0), (u32 0), (i64 0), nilS, (bl false)]), (T.agg [(i64 0), (u32 0), (u32 0), (bl false)])] [(R.t (T.ifc 68 x')), (R.t (T.agg [(i64 a'.op), (i64 ((a'.ad : Nat) : Int)), (i64 a'.o.v), (u32 a'.o.a), (u32 a'.o.r), (i64 a'.n.v), (u32 a'.n.a), (u32 a'.n.r)])), (R.t (bl d))] := by
  have e : runX Tryz.prog gG noF 20 141 [(T.agg [(i64 3), (i64 8), (i64 0), (T.sl (rows u8L l) l.length false), (i64 0), nilI, nilS, (T.sl [(i64 1), (i64 2), (i64 3)] 3 false), (i64 1), (i64 0), (i64 0), (i64 0), (i64 1), (i64 0), (i64 0), (i64 0), (i64 17), (u32 0), (u32 0), (i64 0), nilS, (bl false)]), (T.agg [(i64 0), (u32 0), (u32 0), (bl false)])] [((141, 49), .call [(R.t (T.ifc 68 x')), (R.t (T.agg [(i64 a'.op), (i64 ((a'.ad : Nat) : Int)), (i64 a'.o.v), (u32 a'.o.a), (u32 a'.o.r), (i64 a'.n.v), (u32 a'.n.a), (u32 a'.n.r)])), (R.t (bl d))])] = some ([(R.t (T.ifc 68 x')), (R.t (T.agg [(i64 a'.op), (i64 ((a'.ad : Nat) : Int)), (i64 a'.o.v), (u32 a'.o.a), (u32 a'.o.r), (i64 a'.n.v), (u32 a'.n.a), (u32 a'.n.r)])), (R.t (bl d))], [], [HoldsL 142 [(T.agg [(i64 3), (i64 8), (i64 0), (T.sl (rows u8L l) l.length false), (i64 0), nilI, nilS, (T.sl [(i64 1), (i64 2), (i64 3)] 3 false), (i64 1), (i64 0), (i64 0), (i64 0), (i64 1), (i64 0), (i64 0), (i64 0), (i64 17), (u32 0), (u32 0), (i64 0), nilS, (bl false)])] [(R.t (T.ifc 68 x')), (R.t (T.agg [(i64 a'.op), (i64 ((a'.ad : Nat) : Int)), (i64 a'.o.v), (u32 a'.o.a), (u32 a'.o.r), (i64 a'.n.v), (u32 a'.n.a), (u32 a'.n.r)])), (R.t (bl d))]]) := by kernel_rfl
  exact sndL 20 _ _ _ _ _ _ e (.cons hb .nil)
theorem ew_s (l : List Int) (r0 r1 : Int) (w : Wld) (hmk : HoldsL 19 [machT (newQ w0), .sl [.ifc 68 ((T.agg [(i64 3), (i64 8), (i64 0), (T.sl (rows u8L l) l.length false), (i64 0), nilI, nilS, (T.sl [(i64 1), (i64 2), (i64 3)] 3 false), (i64 1), (i64 0), (i64 0), (i64 0), (i64 1), (i64 0), (i64 0), (i64 0), (i64 17), (u32 0), (u32 0), (i64 0), nilS, (bl false)])), .ifc 87 ((T.agg [(i64 3), (i64 8), (i64 0), (i64 2), (i64 (IntKind.i64.wrap (Int.tmod r0 6))), (i64 0), (i64 0), nilI, (i64 0), (i64 0), (i64 0)])), .ifc 87 ((T.agg [(i64 3), (i64 8), (i64 0), (i64 3), (i64 (IntKind.i64.wrap (Int.tmod r1 6))), (i64 0), (i64 0), nilI, (i64 0), (i64 0), (i64 0)]))] 3 false] [.t (worldT w), .t (i64 0)]) : HoldsL 5 [(T.sl (rows u8L l) l.length false), (T.agg [(T.lit (.int .u8 r0)), (T.lit (.int .u8 r1))])] [.t (worldT w), .t (bl true)] := by
  have e : runX Tryz.prog gG noF 20 5 [(T.sl (rows u8L l) l.length false), (T.agg [(T.lit (.int .u8 r0)), (T.lit (.int .u8 r1))])] [((5, 15), .call [(R.osl (rows wdL wF) 376 3)]), ((5, 32), .call [(R.t (i64 56))]), ((5, 0), .st (List.map C.t (rows wdL (wF.set 56 ⟨17, 0, 0⟩)))), ((5, 37), .fz [(3, (rows wdL (wF.set 56 ⟨17, 0, 0⟩)))]), ((5, 38), .call [(R.t (machT (newQ w0))), (R.t (i64 0))]), ((5, 48), .res (.t (T.lit (.int .u8 (Int.tmod r0 6))))), ((5, 55), .res (.t (T.lit (.int .u8 (Int.tmod r1 6))))), ((5, 60), .call [(R.t (worldT w)), (R.t (i64 0))])] = some ([(R.t (T.agg [(T.sl (rows histL w.q.mem.places) w.q.mem.places.length false), (T.sl (rows vwL w.q.mem.views) w.q.mem.views.length false), (T.sl (rows wdL w.q.first) w.q.first.length false), (T.sl (rows lgL w.q.logs) w.q.logs.length false), (T.box w.q.asks), (T.sl (rows i1L w.q.steps) w.q.steps.length false), (i64 w.q.crashes), (T.sl (rows tkL w.tasks) w.tasks.length false), (T.sl (rows b1L w.stopped) w.stopped.length false)])), (R.t (bl true))], [], [HoldsL 16 [(T.agg [(i64 3), (i64 8), (i64 0)])] [(R.osl (rows wdL wF) 376 3)],
      HoldsL 15 [(T.agg [(i64 3), (i64 8), (i64 0)]), (i64 0)] [(R.t (i64 56))],
      (56 * 3) + 3 ≤ List.length (List.map C.t (rows wdL wF)),
      splice (List.map C.t (rows wdL wF)) (56 * 3) [(C.t (i64 17)), (C.t (u32 0)), (C.t (u32 0))] = (List.map C.t (rows wdL (wF.set 56 ⟨17, 0, 0⟩))),
      (List.map C.t (rows wdL (wF.set 56 ⟨17, 0, 0⟩))) = List.map C.t (rows wdL (wF.set 56 ⟨17, 0, 0⟩)),
      List.length (rows wdL (wF.set 56 ⟨17, 0, 0⟩)) = 376 * 3,
      HoldsL 18 [(i64 3), (T.sl (rows wdL (wF.set 56 ⟨17, 0, 0⟩)) 376 false)] [(R.t (machT (newQ w0))), (R.t (i64 0))],
      BinIs Tryz.prog .rem 5 (.tmp 47) (.const (.int .u8 6)) (.int .u8 r0) (.int .u8 6) (.int .u8 (Int.tmod r0 6)),
      BinIs Tryz.prog .rem 5 (.tmp 54) (.const (.int .u8 6)) (.int .u8 r1) (.int .u8 6) (.int .u8 (Int.tmod r1 6)),
      HoldsL 19 [(T.agg [(T.sl (rows histL (newQ w0).mem.places) (newQ w0).mem.places.length false), (T.sl (rows vwL (newQ w0).mem.views) (newQ w0).mem.views.length false), (T.sl (rows wdL (newQ w0).first) (newQ w0).first.length false), (T.sl (rows lgL (newQ w0).logs) (newQ w0).logs.length false), (T.box (newQ w0).asks), (T.sl (rows i1L (newQ w0).steps) (newQ w0).steps.length false), (i64 (newQ w0).crashes)]), (T.sl [(T.ifc 68 (T.agg [(i64 3), (i64 8), (i64 0), (T.sl (rows u8L l) l.length false), (i64 0), nilI, nilS, (T.sl [(i64 1), (i64 2), (i64 3)] 3 false), (i64 1), (i64 0), (i64 0), (i64 0), (i64 1), (i64 0), (i64 0), (i64 0), (i64 17), (u32 0), (u32 0), (i64 0), nilS, (bl false)])), (T.ifc 87 (T.agg [(i64 3), (i64 8), (i64 0), (i64 2), (i64 (IntKind.i64.wrap (Int.tmod r0 6))), (i64 0), (i64 0), nilI, (i64 0), (i64 0), (i64 0)])), (T.ifc 87 (T.agg [(i64 3), (i64 8), (i64 0), (i64 3), (i64 (IntKind.i64.wrap (Int.tmod r1 6))), (i64 0), (i64 0), nilI, (i64 0), (i64 0), (i64 0)]))] 3 false)] [(R.t (worldT w)), (R.t (i64 0))]]) := by kernel_rfl
  have hh := sndL 20 _ _ _ _ _ _ e (.cons first3 (.cons cell3 (.cons (rowsLe wdL_len (show wF[56]? = some ⟨0, 0, 0⟩ from by kernel_rfl) (j := 0) (by decide)) (.cons (rowsSplice wdL_len (show wF[56]? = some ⟨0, 0, 0⟩ from by kernel_rfl) (j := 0) (by simp) rfl) (.cons (by first | rfl | simp) (.cons (by kernel_rfl) (.cons new3 (.cons (bRemU8 (by decide)) (.cons (bRemU8 (by decide)) (.cons hmk .nil))))))))))
  have hr : ([(R.t (T.agg [(T.sl (rows histL w.q.mem.places) w.q.mem.places.length false), (T.sl (rows vwL w.q.mem.views) w.q.mem.views.length false), (T.sl (rows wdL w.q.first) w.q.first.length false), (T.sl (rows lgL w.q.logs) w.q.logs.length false), (T.box w.q.asks), (T.sl (rows i1L w.q.steps) w.q.steps.length false), (i64 w.q.crashes), (T.sl (rows tkL w.tasks) w.tasks.length false), (T.sl (rows b1L w.stopped) w.stopped.length false)])), (R.t (bl true))] : List R) = [.t (worldT w), .t (bl true)] := rfl
  exact hr ▸ hh
end Go.Proofs.YtiegfchaepbnbaaGreatDoor
namespace Go.Proofs.YtiegfchaepbnbaaGreatDoor
open Go Go.RowKit Go.Va
set_option maxRecDepth 100000
set_option maxHeartbeats 1000000
def lf (r : Int) : Int := IntKind.i64.wrap (Int.tmod r 6)
theorem lf_le {r : Int} (h : 0 ≤ r) : lf r ≤ 10 := by
  have h1 : Int.tmod r 6 = r % 6 := Int.tmod_eq_emod_of_nonneg h
  have h2 : lf r = w64 (Int.tmod r 6) := rfl
  rw [h2, w64_id _ (by omega) (by omega)]
  omega
def g00 : Nat → Int := upd (fun _ => 0) 0 1
def w00 (l : List Int) : WR := ⟨.fin, opsS l, l, [], [1, 2, 3], g00, g00, ⟨17, 0, 0⟩, 0, []⟩
def startW (z : Bool) (l : List Int) : WR := match z with
  | true => ⟨.fin, nilS, [], [], [1, 2, 3], g00, g00, ⟨17, 0, 0⟩, 0, []⟩
  | false => (w00 l).begin
def startS (z : Bool) (l : List Int) (r0 r1 : Int) : ES := ⟨startW z l, RD.start (lf r0), RD.start (lf r1), first0⟩
def startX (s : ES) : Wld := ⟨newQ w0, [tkW s [], tkA s [], tkB s []], [false, false, false]⟩
def opsZ (z : Bool) (l : List Int) : T := match z with
  | true => nilS
  | false => opsS l
theorem core00 (l : List Int) : WCore (w00 l) first0 1 where
  e1 := by decide
  e2 := by decide
  rt := rfl
  rv := by show (17 : Int) = g00 (((17 : Int) - 1) % 16).toNat * 16 + ((17 - 1) % 16) + 1; decide
  ra := ⟨by show (0 : Int) ≤ 0; decide, by show (0 : Int) ≤ 1; decide⟩
  part := .refl _
  bag := fun i hi => by cases hi
  birth := fun b => by simp only [w00, g00, upd, first0]; split <;> decide
  gen := fun b => by simp only [w00, g00, upd]; split <;> decide
theorem winv00 (z : Bool) (l : List Int) : WInv (startW z l) first0 1 := by
  cases z with
  | false => exact begin_inv (core00 l)
  | true =>
    obtain ⟨a1, a2, a3, a4, a5, a6, a7, a8, a9⟩ := core00 []
    exact ⟨a1, a2, fun o h => (by cases h), a3, a4, a5, a6, a7, a8, a9, fun h => (h rfl).elim, fun h => (by cases h), fun h => (by cases h)⟩
theorem rinv00 (t : Nat) (w : WR) (f : Nat → Wd) (r : Int) (hr : 0 ≤ r) : RInv (RD.start (lf r)) t w f := by
  have := lf_le hr
  unfold RD.start
  split
  · exact ⟨fun h => (h rfl).elim, fun h => (by cases h), trivial⟩
  · rename_i h
    exact ⟨fun _ => ⟨by simp only; omega, by simp only; omega⟩, fun h => (by cases h), trivial⟩
theorem sinv00 (z : Bool) (l : List Int) (r0 r1 : Int) (h0 : 0 ≤ r0) (h1 : 0 ≤ r1) : SInv (startS z l r0 r1) (0 + 1 : Nat) := ⟨winv00 z l, rinv00 _ _ _ _ h0, rinv00 _ _ _ _ h1⟩
theorem wok00 (z : Bool) (l : List Int) (r0 r1 : Int) : WOk (startX (startS z l r0 r1)) (startS z l r0 r1) 0 0 := ⟨q0_ok, ⟨[], [], [], rfl, rfl, Nat.le_refl _, Nat.le_refl _⟩, Nat.le_refl _, rfl⟩
theorem tle_wr2 {x1 x2 x3 a p n b b' f g0 g1 g2 g3 h0 h1 h2 h3 r1 r2 r3 o s s' k : T} (hb : TLe b b') (hs : TLe s s') :
    TLe (.agg [x1, x2, x3, a, p, n, b, f, g0, g1, g2, g3, h0, h1, h2, h3, r1, r2, r3, o, s, k]) (.agg [x1, x2, x3, a, p, n, b', f, g0, g1, g2, g3, h0, h1, h2, h3, r1, r2, r3, o, s', k]) :=
  tle_agg (.cons (tle_refl _) (.cons (tle_refl _) (.cons (tle_refl _) (.cons (tle_refl _) (.cons (tle_refl _) (.cons (tle_refl _) (.cons hb (.cons (tle_refl _)
    (.cons (tle_refl _) (.cons (tle_refl _) (.cons (tle_refl _) (.cons (tle_refl _) (.cons (tle_refl _) (.cons (tle_refl _) (.cons (tle_refl _) (.cons (tle_refl _)
    (.cons (tle_refl _) (.cons (tle_refl _) (.cons (tle_refl _) (.cons (tle_refl _) (.cons hs (TLes.refl _))))))))))))))))))))))
def rawW (ops : T) : T := .agg [i64 3, i64 8, i64 0, ops, i64 0, nilI, nilS, .sl [i64 1, i64 2, i64 3] 3 false, i64 1, i64 0, i64 0, i64 0, i64 1, i64 0, i64 0, i64 0, i64 17, u32 0, u32 0, i64 0, nilS, bl false]
theorem go_W (z : Bool) (l : List Int) : HoldsL 141 [rawW (opsZ z l), .agg (gtL ⟨wz, false⟩)] [.t (.ifc tyW (wtT (startW z l))), .t (.agg (acL (startW z l).act)), .t (bl (startW z l).fin)] := by
  cases z with
  | true =>
    have hb := bg_fin0 0 [] [1, 2, 3] [] 1 0 0 0 1 0 0 0 17 0 0 0
    have h2 := holds_args (xs := [rawW nilS]) (.cons (tle_wr2 (bs_out itL []) (bs_out i1L [])) .nil) hb
    exact wn_go_n _ ac0 true (holds_res (rle3 (tle_wr (bs_out u8L []) (tle_refl _) (tle_refl _))) h2)
  | false =>
    have hb := begin_holds 0 (w00 l)
    have h2 := holds_args (xs := [rawW (opsS l)]) (.cons (tle_wr2 (bs_out itL []) (bs_out i1L [])) .nil) hb
    exact wn_go_s l _ _ _ h2
theorem epochWorld_holds (z : Bool) (l : List Int) (r0 r1 : Int) : HoldsL 5 [opsZ z l, .agg [.lit (.int .u8 r0), .lit (.int .u8 r1)]] [.t (worldT (startX (startS z l r0 r1))), .t (bl true)] := by
  have hm := make3 (newQ w0) (rawW (opsZ z l)) _ _ (tkW (startS z l r0 r1) []) (tkA (startS z l r0 r1) []) (tkB (startS z l r0 r1) []) rfl
    (start_W _ _ _ _ (go_W z l)) (start_R _ _ _ _ (rd_start 2 (.inl rfl) (lf r0))) (start_R _ _ _ _ (rd_start 3 (.inr rfl) (lf r1)))
  cases z with
  | true => exact ew_n r0 r1 _ hm
  | false => exact ew_s l r0 r1 _ hm
end Go.Proofs.YtiegfchaepbnbaaGreatDoor
namespace Go.Proofs.YtiegfchaepbnbaaGreatDoor
open Go Go.RowKit Go.Va
set_option maxHeartbeats 1000000
def rC (E : Int) (r : RD) : Nat := match r.c with
  | .fin => 0
  | .e1 => 9
  | .e2 v => if v = E then 8 else 10
  | .e3 v => if v = E then 7 else 9
  | .p1 => if r.er = E then 6 else 11
  | .p2 => if r.er = E then 5 else 10
  | .p3 => r.rests.toNat + 2
  | .l1 => 1
def rM (E : Int) (r : RD) : Nat := rC E r + 9 * (r.left - 1).toNat
theorem rd_dec {r : RD} {t : Nat} {w : WR} {f : Nat → Wd} (h : RInv r t w f) (hc : r.c ≠ .fin) :
    rM (f 1).v (r.next (gotOf f (r.act t))) < rM (f 1).v r := by
  obtain ⟨c, left, rests, er, found⟩ := r
  have hl := h.left hc
  have hrs := h.rests
  simp only at hl
  cases c with
  | fin => exact (hc rfl).elim
  | e1 => simp only [RD.act, RD.next, got_look, rM, rC, if_true]; omega
  | e2 v => simp only [RD.act, RD.next, rM, rC]; split <;> omega
  | e3 v =>
    simp only [RD.act, RD.next, got_look]
    by_cases hv : (f 1).v = v
    · rw [if_pos hv]; simp only [rM, rC, if_pos hv.symm]; omega
    · rw [if_neg hv]; simp only [rM, rC, if_true, if_neg (Ne.symm hv)]; omega
  | p1 =>
    by_cases hv : er = (f 1).v
    · have e1 : rC (f 1).v (RD.next ⟨.p1, left, rests, er, found⟩ (gotOf f (RD.act t ⟨.p1, left, rests, er, found⟩))) = 5 := if_pos hv
      have e2 : rC (f 1).v ⟨.p1, left, rests, er, found⟩ = 6 := if_pos hv
      unfold rM; rw [e1, e2]; simp only [RD.next]; omega
    · have e1 : rC (f 1).v (RD.next ⟨.p1, left, rests, er, found⟩ (gotOf f (RD.act t ⟨.p1, left, rests, er, found⟩))) = 10 := if_neg hv
      have e2 : rC (f 1).v ⟨.p1, left, rests, er, found⟩ = 11 := if_neg hv
      unfold rM; rw [e1, e2]; simp only [RD.next]; omega
  | p2 =>
    simp only [RD.act, RD.next, got_look]
    by_cases hv : (f 1).v = er
    · rw [if_pos hv]; simp only [rM, rC, if_pos hv.symm]; omega
    · rw [if_neg hv]; simp only [rM, rC, if_neg (Ne.symm hv)]; omega
  | p3 =>
    have hr := hrs rfl
    simp only at hr
    simp only [RD.next]
    by_cases hv : rests = 0
    · rw [if_pos hv]; simp only [rM, rC]; omega
    · rw [if_neg hv]; simp only [rM, rC]; omega
  | l1 =>
    simp only [RD.next]
    by_cases hv : left - 1 ≤ 0
    · rw [if_pos hv]; simp only [rM, rC]; omega
    · rw [if_neg hv]; simp only [rM, rC]; omega
theorem rM_le {r : RD} {t : Nat} {w : WR} {f : Nat → Wd} (h : RInv r t w f) (hc : r.c ≠ .fin) : rM (f 1).v r ≤ 200 := by
  obtain ⟨c, left, rests, er, found⟩ := r
  have hl := h.left hc
  have hrs := h.rests
  simp only at hl
  cases c with
  | fin => exact (hc rfl).elim
  | e1 => simp only [rM, rC]; omega
  | e2 v => simp only [rM, rC]; split <;> omega
  | e3 v => simp only [rM, rC]; split <;> omega
  | p1 => simp only [rM, rC]; split <;> omega
  | p2 => simp only [rM, rC]; split <;> omega
  | p3 =>
    have hr := hrs rfl
    simp only at hr
    simp only [rM, rC]; omega
  | l1 => simp only [rM, rC]; omega
def wC (w : WR) : Nat := match w.c with
  | .fin => 0
  | .a0 => 2
  | .a1 _ => 1
  | .u1 => 6
  | .u2 _ => 5
  | .u3 => 4
  | .u4 => 3 - w.seen.length
def wM (w : WR) : Nat := wC w + 6 * (w.ops.length - 1)
theorem begin_M (w : WR) : wM w.begin ≤ 6 * w.ops.length ∧ w.begin.ops = w.ops := by
  obtain ⟨c, oc, ops, bag, free, gen, birth, root, old, seen⟩ := w
  cases ops with
  | nil => exact ⟨by simp [wM, wC, WR.begin], rfl⟩
  | cons x r =>
    unfold WR.begin
    simp only
    split
    · exact ⟨by simp [wM, wC] <;> omega, rfl⟩
    · split
      · exact ⟨by simp [wM, wC] <;> omega, rfl⟩
      · exact ⟨by simp [wM, wC] <;> omega, rfl⟩
theorem wr_dec {w : WR} {f : Nat → Wd} {k : Int} {g : Gt} {gn : List Int} (h : WInv w f k) (hc : w.c ≠ .fin) : wM (w.next g gn) < wM w ∧ (w.next g gn).ops.length ≤ w.ops.length := by
  obtain ⟨c, oc, ops, bag, free, gen, birth, root, old, seen⟩ := w
  have hops := (h.ops hc).1
  simp only at hops
  cases ops with
  | nil => exact (hops rfl).elim
  | cons x r =>
    cases c with
    | fin => exact (hc rfl).elim
    | a0 => exact ⟨by simp [wM, wC, WR.next], Nat.le_refl _⟩
    | a1 o =>
      simp only [WR.next]
      obtain ⟨h1, h2⟩ := begin_M (w := ⟨.a1 o, oc, (x :: r).tail, bag, free, gen, birth, root, old, seen⟩)
      refine ⟨Nat.lt_of_le_of_lt h1 (by simp [wM, wC] <;> omega), by rw [h2]; simp⟩
    | u1 =>
      cases free with
      | nil => exact (h.fr rfl rfl).elim
      | cons b fr => exact ⟨by simp [wM, wC, WR.next], Nat.le_refl _⟩
    | u2 o => exact ⟨by simp [wM, wC, WR.next], Nat.le_refl _⟩
    | u3 => exact ⟨by simp [wM, wC, WR.next], Nat.le_refl _⟩
    | u4 =>
      have hsn := h.sn rfl
      simp only at hsn
      simp only [WR.next]
      by_cases hl : seen.length < 2
      · rw [if_pos hl]
        exact ⟨by simp [wM, wC] <;> omega, Nat.le_refl _⟩
      · rw [if_neg hl]
        obtain ⟨h1, h2⟩ := begin_M (w := ⟨.u4, oc, (x :: r).tail, bag.filter fun i => wayB i (seen ++ [g.w.v]), free ++ gn, gen, birth, root, old, seen ++ [g.w.v]⟩)
        refine ⟨Nat.lt_of_le_of_lt h1 (by simp [wM, wC] <;> omega), by rw [h2]; simp⟩
theorem wM_le (w : WR) (h : w.ops.length ≤ 12) : wM w ≤ 72 := by
  unfold wM wC
  split <;> omega
end Go.Proofs.YtiegfchaepbnbaaGreatDoor
