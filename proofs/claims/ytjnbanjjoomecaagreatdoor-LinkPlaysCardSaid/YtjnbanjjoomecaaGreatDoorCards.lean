/-
  DERIVED. GIVEN WITH THE SEED: THE CARDS: each row of YtjnbanjjoomecaaGreatDoorRows.lean that lists a variable, with what it lists TIED to the program's text (the seventh form; the later family's looks); each row that meets fmt, with fmt's text TOLD by the authors' own Lean function (tested against real Go, not proved from fmt's source: count such statements apart). THE CARD IS WHAT COUNTS. Prove the row's statement (the work); the ties are given (YtjnbanjjoomecaaGreatDoorTie.lean); close each card by the builder's one call (the guide's Derived/Test/ToyasCard.lean, 'card_holds'). Laid BY PROGRAM, IN A SANDBOX (cutbox-door.mjs). By AI agents, Wed Nov 11 2026. No macro, syntax, notation, axiom, sorry.
-/
import Derived.Test.YtjnbanjjoomecaaGreatDoorRows
import GoSem.ClaimSeven
namespace Go.Proofs.YtjnbanjjoomecaaGreatDoor
namespace Rows

/-- THE TIED CARD OF 'fairlinklaw12.LinkPlays'. -/
def linkPlaysCard : Claim7 := { stood := { row := linkPlaysRow, standIns := [], harness := (true, "b719874350da490ce791334ee2836927850d610e887420d841ac456d07970ab5"), looks := false }, kinds := [], alts := [], laidByText := true, laidKinds := [.data, .data], laidTests := true, laidLooks := .later }
def LinkPlaysCardSaid : Prop := Claim7.holds Tryz.pinned (.plain (OpenSpec.ofChange linkPlaysSpec)) linkPlaysCard

/-- THE SECOND FORM's CARD OF 'fairlinklaw12.LinkPlays'. -/
def linkPlaysUptoCard : Claim7 := { stood := { row := linkPlaysUptoRow, standIns := [], harness := (true, "b719874350da490ce791334ee2836927850d610e887420d841ac456d07970ab5"), looks := false }, kinds := [], alts := [], laidByText := true, laidKinds := [.data, .data], laidTests := true, laidLooks := .later }
def LinkPlaysUptoCardSaid : Prop := Claim7.holds Tryz.pinned (.plain (OpenSpec.upto linkPlaysSpec)) linkPlaysUptoCard
end Rows
end Go.Proofs.YtjnbanjjoomecaaGreatDoor
