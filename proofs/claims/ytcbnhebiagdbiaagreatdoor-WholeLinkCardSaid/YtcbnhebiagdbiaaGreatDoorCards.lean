/-
  DERIVED. GIVEN WITH THE SEED: THE CARDS: each row of YtcbnhebiagdbiaaGreatDoorRows.lean that lists a variable, with what it lists TIED to the program's text (the seventh form; the later family's looks); each row that meets fmt, with fmt's text TOLD by the authors' own Lean function (tested against real Go, not proved from fmt's source: count such statements apart). THE CARD IS WHAT COUNTS. Prove the row's statement (the work); the ties are given (YtcbnhebiagdbiaaGreatDoorTie.lean); close each card by the builder's one call (the guide's Derived/Test/ToyasCard.lean, 'card_holds'). Laid BY PROGRAM, IN A SANDBOX (cutbox-door.mjs). By AI agents, Wed Nov 11 2026. No macro, syntax, notation, axiom, sorry.
-/
import Derived.Test.YtcbnhebiagdbiaaGreatDoorRows
import GoSem.ClaimSeven
namespace Go.Proofs.YtcbnhebiagdbiaaGreatDoor
namespace Rows

/-- THE TIED CARD OF 'fairlinktop.WholeLink'. -/
def wholeLinkCard : Claim7 := { stood := { row := wholeLinkRow, standIns := [], harness := (true, "34e92f9056b7e88fcff430c840ed4a12d6dbc42bdd85d55f5e952f5c697f2c98"), looks := false }, kinds := [], alts := [], laidByText := true, laidKinds := [.data, .data], laidTests := true, laidLooks := .later }
def WholeLinkCardSaid : Prop := Claim7.holds Tryz.pinned (.plain (OpenSpec.ofChange wholeLinkSpec)) wholeLinkCard

/-- THE TIED CARD OF 'fairlinklaw12.LinkMemory'. -/
def linkMemoryCard : Claim7 := { stood := { row := linkMemoryRow, standIns := [], harness := (true, "34e92f9056b7e88fcff430c840ed4a12d6dbc42bdd85d55f5e952f5c697f2c98"), looks := false }, kinds := [], alts := [], laidByText := true, laidKinds := [.data, .data], laidTests := true, laidLooks := .later }
def LinkMemoryCardSaid : Prop := Claim7.holds Tryz.pinned (.plain (OpenSpec.ofChange linkMemorySpec)) linkMemoryCard

/-- THE TIED CARD OF 'fairlinklaw12.LinkErrors'. -/
def linkErrorsCard : Claim7 := { stood := { row := linkErrorsRow, standIns := [], harness := (true, "34e92f9056b7e88fcff430c840ed4a12d6dbc42bdd85d55f5e952f5c697f2c98"), looks := false }, kinds := [], alts := [], laidByText := true, laidKinds := [.data, .data], laidTests := true, laidLooks := .later }
def LinkErrorsCardSaid : Prop := Claim7.holds Tryz.pinned (.plain (OpenSpec.ofChange linkErrorsSpec)) linkErrorsCard

/-- THE TIED CARD OF 'fairlinklaw12.LinkPlays'. -/
def linkPlaysCard : Claim7 := { stood := { row := linkPlaysRow, standIns := [], harness := (true, "34e92f9056b7e88fcff430c840ed4a12d6dbc42bdd85d55f5e952f5c697f2c98"), looks := false }, kinds := [], alts := [], laidByText := true, laidKinds := [.data, .data], laidTests := true, laidLooks := .later }
def LinkPlaysCardSaid : Prop := Claim7.holds Tryz.pinned (.plain (OpenSpec.ofChange linkPlaysSpec)) linkPlaysCard

/-- THE TIED CARD OF 'fairlinklaw12.LinkReturns'. -/
def linkReturnsCard : Claim7 := { stood := { row := linkReturnsRow, standIns := [], harness := (true, "34e92f9056b7e88fcff430c840ed4a12d6dbc42bdd85d55f5e952f5c697f2c98"), looks := false }, kinds := [], alts := [], laidByText := true, laidKinds := [.data, .data], laidTests := true, laidLooks := .later }
def LinkReturnsCardSaid : Prop := Claim7.holds Tryz.pinned (.plain (OpenSpec.ofChange linkReturnsSpec)) linkReturnsCard

/-- THE SECOND FORM's CARD OF 'fairlinktop.WholeLink'. -/
def wholeLinkUptoCard : Claim7 := { stood := { row := wholeLinkUptoRow, standIns := [], harness := (true, "34e92f9056b7e88fcff430c840ed4a12d6dbc42bdd85d55f5e952f5c697f2c98"), looks := false }, kinds := [], alts := [], laidByText := true, laidKinds := [.data, .data], laidTests := true, laidLooks := .later }
def WholeLinkUptoCardSaid : Prop := Claim7.holds Tryz.pinned (.plain (OpenSpec.upto wholeLinkSpec)) wholeLinkUptoCard

/-- THE SECOND FORM's CARD OF 'fairlinklaw12.LinkMemory'. -/
def linkMemoryUptoCard : Claim7 := { stood := { row := linkMemoryUptoRow, standIns := [], harness := (true, "34e92f9056b7e88fcff430c840ed4a12d6dbc42bdd85d55f5e952f5c697f2c98"), looks := false }, kinds := [], alts := [], laidByText := true, laidKinds := [.data, .data], laidTests := true, laidLooks := .later }
def LinkMemoryUptoCardSaid : Prop := Claim7.holds Tryz.pinned (.plain (OpenSpec.upto linkMemorySpec)) linkMemoryUptoCard

/-- THE SECOND FORM's CARD OF 'fairlinklaw12.LinkErrors'. -/
def linkErrorsUptoCard : Claim7 := { stood := { row := linkErrorsUptoRow, standIns := [], harness := (true, "34e92f9056b7e88fcff430c840ed4a12d6dbc42bdd85d55f5e952f5c697f2c98"), looks := false }, kinds := [], alts := [], laidByText := true, laidKinds := [.data, .data], laidTests := true, laidLooks := .later }
def LinkErrorsUptoCardSaid : Prop := Claim7.holds Tryz.pinned (.plain (OpenSpec.upto linkErrorsSpec)) linkErrorsUptoCard

/-- THE SECOND FORM's CARD OF 'fairlinklaw12.LinkPlays'. -/
def linkPlaysUptoCard : Claim7 := { stood := { row := linkPlaysUptoRow, standIns := [], harness := (true, "34e92f9056b7e88fcff430c840ed4a12d6dbc42bdd85d55f5e952f5c697f2c98"), looks := false }, kinds := [], alts := [], laidByText := true, laidKinds := [.data, .data], laidTests := true, laidLooks := .later }
def LinkPlaysUptoCardSaid : Prop := Claim7.holds Tryz.pinned (.plain (OpenSpec.upto linkPlaysSpec)) linkPlaysUptoCard

/-- THE SECOND FORM's CARD OF 'fairlinklaw12.LinkReturns'. -/
def linkReturnsUptoCard : Claim7 := { stood := { row := linkReturnsUptoRow, standIns := [], harness := (true, "34e92f9056b7e88fcff430c840ed4a12d6dbc42bdd85d55f5e952f5c697f2c98"), looks := false }, kinds := [], alts := [], laidByText := true, laidKinds := [.data, .data], laidTests := true, laidLooks := .later }
def LinkReturnsUptoCardSaid : Prop := Claim7.holds Tryz.pinned (.plain (OpenSpec.upto linkReturnsSpec)) linkReturnsUptoCard
end Rows
end Go.Proofs.YtcbnhebiagdbiaaGreatDoor
