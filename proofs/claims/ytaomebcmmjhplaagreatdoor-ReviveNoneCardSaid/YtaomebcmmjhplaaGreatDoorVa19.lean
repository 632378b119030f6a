/- A law's row that lists package variables. -/
import Derived.Test.YtaomebcmmjhplaaGreatDoorVa18
import Derived.LaidMore
import Derived.LaidLaws
import Derived.JoinedOf
import Derived.Stop.Joined
namespace Go.Va
open Go Go.RowKit Go.ChangeShapes Go.WideShapes Go.ChangeAt

/-- A LAW's ROW, listed variables known: of a law that answers true whatever typed trees it is handed. -/
theorem law_lifted_laid {H : Type} {enc : TypeId × Value → H} {C : Checked} {os : Os} {f : FuncId} {fn : Func} {s : ChangeSpec} {bt : TypeId} {n : Nat} {fresh handsOn again : Bool} {laid : List (String × DataW Unit)} {G : Nat → Option (List T)}
    (own : ownKnob C.prog.godebug = none) (started : os.Started) (noInit : C.prog.inits.idxOf? f = none) (hfn : C.prog.funcs[f]? = some fn)
    (hG : ∀ W, laidMetH C.prog laid W → ∀ g cells, G g = some cells → RT W.heap (fun b => b < W.heap.size) (.ptr cells 0) (.pointer (some ⟨g, 0, none⟩)))
    (witness : ∃ (w : World) (tape : Go.Tape) (i : Input), w.os = os ∧ (w.forCall tape i).Shaped C.prog ∧ i.vars = [] ∧ Input.okWide C.prog (w.forCall tape i) .any w.heap.size f i ∧
      ((s.pre enc C.prog fn [] false (w.forCall tape i).memory i.args ∧ laidMetH C.prog laid (w.forCall tape i).memory) ∧ sizedMet enc C.prog fn (OpenSpec.ofChange s) false (w.forCall tape i).memory i.args) ∧ Assume.holds {} C.prog (lone (Frame.enter C.prog f i.args .normal) [] (w.forCall tape i)))
    (hl : laidOutB C.prog = true) (hrt : fn.resultTypes = #[bt]) (hbt : C.prog.underlying bt = some .bool) (hop : fn.params.toList.all (opensA C.prog n) = true)
    (hrd : fn.params.toList.all (fun t => C.prog.readableRec t && decide (t < C.prog.types.size)) = true) (hvars : s.vars = [])
    (hs : ∀ ds : List (DataW H), ds.length = fn.params.toList.length → s.fn H ds = { results := [.lit (.bool true)], args := ds })
    (law : ∀ ts, TyArgs C.prog n fn.params.toList ts → Holds C.prog G f ts [.t (.lit (.bool true))]) :
    ReturnsInHanded {} C os f .any (fun w args => (s.pre enc C.prog fn [] false w args ∧ laidMetH C.prog laid w) ∧ sizedMet enc C.prog fn (OpenSpec.ofChange s) false w args) (s.post enc C.prog fn false fresh handsOn again) := by
  refine returnsInHanded_of_change_and (X := fun w _ => laidMetH C.prog laid w) (fun _ _ _ hh h => h.of_heap hh) own started noInit hfn witness ?_
  intro W base args ds gs before hval hW hcnd _ hL _
  have hW' := hW
  obtain ⟨p, q, hA, hV, rfl, hfz, hnd⟩ := hW
  rw [hvars] at hV
  obtain ⟨rfl, rfl⟩ := trodVars_none hV
  have hlen : ∀ {tys : List TypeId} {vs : List Value} {ds : List (DataW H)} {ps : List MemPlace}, DataW.TrodAll enc C.prog W 0 (fun _ => true) true tys vs ds ps → ds.length = tys.length := by
    intro tys
    induction tys with
    | nil => intro vs ds ps h; obtain ⟨_, rfl, _⟩ := trodAll_nil h; rfl
    | cons t tys ih => intro vs ds ps h; obtain ⟨v, vs1, d, ds1, a, b, rfl, rfl, rfl, h1, h2⟩ := trodAll_cons h; simp [ih h2]
  obtain ⟨ts, t1, t2⟩ := open_args (base := base) hop (fun j t v ht hv => hval j t v (by simpa using ht) (by simpa using hv)) hA
  have hcall := law ts t2 W (fun b => b < W.heap.size) args.toList (hG W hL) (fun b hb => hb) t1
  simp only [Array.toArray_toList] at hcall
  refine hcall.mono fun e W' ⟨outs, J, os', he, hbel, _, _, hR, _⟩ => ?_
  simp only [RR] at hR
  obtain ⟨v, rest, rfl, hv, rfl, _⟩ := hR
  simp only [RT] at hv
  obtain ⟨rfl, _⟩ := hv
  subst he
  have hfn' := hs (ds ++ []) (by simpa using hlen hA)
  simp only [List.append_nil] at hW' hfn'
  refine ⟨_, rfl, post_kept (pa := p) (pv := []) (by simpa using hW') (fun b sp hd => ?_) (fun sp hsp => ?_) (fun sp _ => ?_) (by simp) (hbel.frame _) ?_ (ok_one hrt rfl (okWide_bool_mk hbt true))⟩
  · rw [hrt]
    simp only [List.append_nil, hfn', retV]
    exact trodAll_mk1 (shut_bool hbt true)
  · simp only [List.append_nil, hfn']
    have hlt : ∀ x ∈ p, x.block < W.heap.size := fun x hx => hW'.lt x (by simpa using hx)
    exact trodAll_stays hl hrd hA (fun x hx => hbel.same (hlt x hx)) (fun x hx => hsp x (by simpa using hx))
  · simp only [List.append_nil, hfn', hvars]
    rfl
  · intro b off hp
    have hb := hW'.lt (.cell b off) (by simpa using hp)
    exact hbel.frozen (p := ⟨b, off, none⟩) hb

/-- A row that nobody else holds may be held by others. -/
theorem Holds.freeze1 {P : Program} {G : Nat → Option (List T)} {f : FuncId} {args cells : List T} {n sz : Nat} (h : Holds P G f args [.osl cells n sz]) : Holds P G f args [.t (.sl cells n false)] := by
  intro w I vs hg hi hr
  refine (h w I vs hg hi hr).mono ?_
  rintro en w' ⟨outs, J, os, rfl, hbel, hIJ, hJ, hR, hnd⟩
  simp only [RR] at hR
  obtain ⟨r, cap, c, e, rest, os', rfl, rfl, h1, h2, h3, h4, h5, h6, h7, h8, rfl, rfl⟩ := hR
  have hlt : r < w'.heap.size := (Array.getElem?_eq_some_iff.1 h3).1
  refine ⟨_, fun b => J b ∨ b = r, [], rfl, hbel, fun b hb => .inl (hIJ b hb), fun b hb => ?_, ?_, by simp⟩
  · rcases hb with hb | rfl
    · exact hJ b hb
    · exact .inr ⟨h7, hlt⟩
  · simp only [RR, RT]
    refine ⟨_, [], rfl, ⟨r, 0, cap, c, e, (0, 0), rfl, .inr rfl, h3, ?_, h6, h1, fun h => by cases h⟩, rfl, trivial⟩
    exact RTs.mono (ext_sub (fun b hb => .inl hb)) _ _ h5
theorem frzL_of_t {f : C → Option (T × List Nat)} (hf : ∀ x, f (.t x) = some (x, [])) : ∀ ts : List T, frzL f (ts.map .t) = some (ts, [])
  | [] => rfl
  | x :: ts => by simp [frzL, hf, frzL_of_t hf ts]
/-- What is handed back: one row of the call's own. -/
theorem retR_osl {P : Program} {fn : Func} {s : S} {k b n sz : Nat} {ts : List T} (hr : fn.results.toList = [.tmp k]) (he : s.e k = some (.osl b n sz)) (hh : s.h b = some (.cells (ts.map .t) false)) (hl : ts.length = n * sz) : retR P fn s = some [.osl ts n sz] := by
  unfold retR
  simp only [hr, resC, he, toRs, toR, hh, List.length_map]
  rw [if_pos hl.symm, frzL_of_t (fun x => rfl)]
  simp
end Go.Va
