/- Rows of whole words. -/
import Derived.Test.YtaomebcmmjhplaaGreatDoorLy15
namespace Go.Proofs.YtaomebcmmjhplaaGreatDoor
open Go Go.RowKit Go.Va
set_option maxRecDepth 100000
set_option maxHeartbeats 400000
structure W3 where
  v : Int
  a : Int
  r : Int
def W3.l (w : W3) : List T := [i64 w.v, u32 w.a, u32 w.r]
def rowL (f : Nat → W3) (n : Nat) : List T := (List.range n).flatMap fun i => (f i).l
/-- The words of the example. -/
def fA (i : Nat) : W3 :=
  if i = 1 then ⟨1, 0, 0⟩ else if i = 32 then ⟨3, 0, 0⟩ else if i = 33 then ⟨7, 0, 0⟩ else if i = 56 then ⟨5, 2, 16777220⟩ else if i = 64 then ⟨0, 4, 0⟩ else if i = 65 then ⟨1, 0, 0⟩
  else if i = 66 then ⟨56, 1, 0⟩ else if i = 67 then ⟨5, 2, 0⟩ else if i = 68 then ⟨9, 0, 0⟩ else if i = 168 ∨ i = 272 ∨ i = 384 ∨ i = 416 then ⟨2, 0, 0⟩ else ⟨0, 0, 0⟩
def memA : T := .agg [.sl [.lit (.int .u8 0), .lit (.int .u16 3), .sl [.lit (.int .u8 0)] 1 false, .sl [i64 5, u32 2, u32 0] 1 false, .sl [i64 9] 1 false, bl true] 1 false, .sl [i64 5, .lit (.int .u8 2), .lit (.int .u8 1), .lit (.int .u16 3)] 1 false, .sl [i64 3, i64 7, i64 0] 1 false, .lit (.slice none 0 0), .lit (.slice none 0 0)]
def fB (i : Nat) : W3 :=
  if i = 1 then ⟨1, 0, 0⟩ else if i = 32 then ⟨3, 0, 0⟩ else if i = 33 then ⟨7, 0, 0⟩ else if i = 56 then ⟨5, 2, 0⟩ else if i = 64 then ⟨2, 4, 0⟩ else if i = 65 then ⟨1, 0, 0⟩
  else if i = 66 then ⟨56, 1, 0⟩ else if i = 67 then ⟨5, 2, 0⟩ else if i = 68 then ⟨9, 0, 0⟩ else if i = 168 ∨ i = 272 ∨ i = 384 ∨ i = 416 then ⟨2, 0, 0⟩ else ⟨0, 0, 0⟩
def wA : T := .sl (rowL fA 448) 448 false
def wB : T := .sl (rowL fB 448) 448 false
theorem freeze2 {f : FuncId} {args cells : List T} {n sz : Nat} {x : T} (h : HoldsL f args [.osl cells n sz, .t x]) : HoldsL f args [.t (.sl cells n false), .t x] := by
  intro w I vs hg hi hr
  refine (h w I vs hg hi hr).mono ?_
  rintro en w' ⟨outs, J, os, rfl, hbel, hIJ, hJ, hR, hnd⟩
  simp only [RR] at hR
  obtain ⟨r, cap, c, e, rest, os', rfl, rfl, h1, h2, h3, h4, h5, h6, h7, h8, v, rest', rfl, h9, rfl, rfl⟩ := hR
  have hlt : r < w'.heap.size := (Array.getElem?_eq_some_iff.1 h3).1
  refine ⟨_, fun b => J b ∨ b = r, [], rfl, hbel, fun b hb => .inl (hIJ b hb), fun b hb => ?_, ?_, by simp⟩
  · rcases hb with hb | rfl
    · exact hJ b hb
    · exact .inr ⟨h7, hlt⟩
  · simp only [RR, RT]
    refine ⟨_, _, rfl, ⟨r, 0, cap, c, e, (0, 0), rfl, .inr rfl, h3, ?_, h6, h1, fun h => by cases h⟩, v, [], rfl, ?_, rfl, trivial⟩
    · exact RTs.mono (ext_sub (fun b hb => .inl hb)) _ _ h5
    · exact RT.mono (ext_sub (fun b hb => .inl hb)) _ _ h9
/-! The rows of places of the example's layout. -/
def mayA : List Int := [32, 33, 34, 40, 41, 42, 48, 49, 50, 56, 57, 58, 59, 60, 61, 62, 63]
def stA : List Int := [64, 168, 272, 384, 416]
def ownA : List Int := [8, 9, 16, 17, 24, 25]
theorem mayA_eq : mayL 3 8 2 448 = mayA := by kernel_rfl
theorem stA_eq : stL 3 8 2 3 2 = stA := by kernel_rfl
theorem ownA_eq : ownL 3 8 2 3 = ownA := by kernel_rfl
theorem lv3A : LV3 8 3 2 := ⟨by omega, by omega, by omega, by omega, by omega⟩
/-- A function of the layout alone, a row of places. -/
def iR (fid : FuncId) (xs : List Int) : Intr := fun f args => if f = fid then (match args with
  | [x] => if isLay x then some [.t (.sl (xs.map i64) xs.length false)] else none
  | _ => none) else none
theorem iR_snd {fid : FuncId} {xs : List Int} (h0 : HoldsL fid [lay 3 8 2] [.t (.sl (xs.map i64) xs.length false)]) : Snd Tryz.prog gG (iR fid xs) := by
  intro f args rs h
  unfold iR at h
  split at h
  · rename_i hf
    split at h
    · split at h
      · rename_i hx
        cases h
        rw [hf, isLay_eq hx]
        exact h0
      · cases h
    · cases h
  · cases h
def intrB : Intr := orI (iR 41 mayA) (orI (iR 43 stA) (orI (iR 46 ownA) intrA))
theorem intrB_snd : Snd Tryz.prog gG intrB := by
  have h1 := may_holds lv382 448 f382.2.2.2.2.2
  rw [mayA_eq] at h1
  have h2 := statuses_holds lv3A
  have h3 := own_holds lv3A
  have e2 : stL ((3 : Nat) : Int) 8 ((2 : Nat) : Int) 3 2 = stA := stA_eq
  have e3 : ownL ((3 : Nat) : Int) 8 ((2 : Nat) : Int) 3 = ownA := ownA_eq
  rw [e2] at h2
  rw [e3] at h3
  exact orI_snd (iR_snd h1) (orI_snd (iR_snd h2) (orI_snd (iR_snd h3) intrA_snd))
theorem sndB (n : Nat) : SndX Tryz.prog gG (runX Tryz.prog gG intrB n) := runX_sound mixed intrB_snd n
theorem make_run : runX Tryz.prog gG intrB 1000 12 [memA] [] = some ([.osl (rowL fA 448) 448 3, .t (bl true)], [], []) := by kernel_rfl
theorem make_holds : HoldsL 12 [memA] [.t wA, .t (bl true)] := freeze2 (sndB 1000 _ _ _ _ _ _ make_run .nil)
end Go.Proofs.YtaomebcmmjhplaaGreatDoor
