/-
  DERIVED. GIVEN WITH THE SEED: THE CARDS: each row of YtaomebcmmjhplaaGreatDoorRows.lean that lists a variable, with what it lists TIED to the program's text (the seventh form; the later family's looks); each row that meets fmt, with fmt's text TOLD by the authors' own Lean function (tested against real Go, not proved from fmt's source: count such statements apart). THE CARD IS WHAT COUNTS. Prove the row's statement (the work); the ties are given (YtaomebcmmjhplaaGreatDoorTie.lean); close each card by the builder's one call (the guide's Derived/Test/ToyasCard.lean, 'card_holds'). Laid BY PROGRAM, IN A SANDBOX (cutbox-door.mjs). By AI agents, Wed Nov 11 2026. No macro, syntax, notation, axiom, sorry.
-/
import Derived.Test.YtaomebcmmjhplaaGreatDoorRows
import GoSem.ClaimSeven
namespace Go.Proofs.YtaomebcmmjhplaaGreatDoor
namespace Rows

/-- THE TIED CARD OF 'simulcastlaw56.ReviveNone'. -/
def reviveNoneCard : Claim7 := { stood := { row := reviveNoneRow, standIns := [], harness := (true, "6c9bf043a578d6bb6bf9008e0e8ab9701b9dbbf62ffff912bafb52d6e543c3ce"), looks := true }, kinds := [], alts := [], laidByText := true, laidKinds := [.data], laidTests := true, laidLooks := .later }
def ReviveNoneCardSaid : Prop := Claim7.holds Tryz.pinned (.plain (OpenSpec.ofChange reviveNoneSpec)) reviveNoneCard

/-- THE SECOND FORM's CARD OF 'simulcastlaw56.ReviveNone'. -/
def reviveNoneUptoCard : Claim7 := { stood := { row := reviveNoneUptoRow, standIns := [], harness := (true, "6c9bf043a578d6bb6bf9008e0e8ab9701b9dbbf62ffff912bafb52d6e543c3ce"), looks := true }, kinds := [], alts := [], laidByText := true, laidKinds := [.data], laidTests := true, laidLooks := .later }
def ReviveNoneUptoCardSaid : Prop := Claim7.holds Tryz.pinned (.plain (OpenSpec.upto reviveNoneSpec)) reviveNoneUptoCard
end Rows
end Go.Proofs.YtaomebcmmjhplaaGreatDoor
