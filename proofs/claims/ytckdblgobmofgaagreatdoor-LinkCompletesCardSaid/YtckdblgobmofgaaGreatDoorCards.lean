/-
  DERIVED. GIVEN WITH THE SEED: THE CARDS: each row of YtckdblgobmofgaaGreatDoorRows.lean that lists a variable, with what it lists TIED to the program's text (the seventh form; the later family's looks); each row that meets fmt, with fmt's text TOLD by the authors' own Lean function (tested against real Go, not proved from fmt's source: count such statements apart). THE CARD IS WHAT COUNTS. Prove the row's statement (the work); the ties are given (YtckdblgobmofgaaGreatDoorTie.lean); close each card by the builder's one call (the guide's Derived/Test/ToyasCard.lean, 'card_holds'). Laid BY PROGRAM, IN A SANDBOX (cutbox-door.mjs). By AI agents, Wed Nov 11 2026. No macro, syntax, notation, axiom, sorry.
-/
import Derived.Test.YtckdblgobmofgaaGreatDoorRows
import GoSem.ClaimSeven
namespace Go.Proofs.YtckdblgobmofgaaGreatDoor
namespace Rows

/-- THE TIED CARD OF 'fairlinklaw12.LinkMemory'. -/
def linkMemoryCard : Claim7 := { stood := { row := linkMemoryRow, standIns := [], harness := (true, "1f0d7b9ee7260fe08800a669b1e293d1df459a5451bd5640e242fc90b177f9e2"), looks := false }, kinds := [], alts := [], laidByText := true, laidKinds := [.data, .data], laidTests := true, laidLooks := .later }
def LinkMemoryCardSaid : Prop := Claim7.holds Tryz.pinned (.plain (OpenSpec.ofChange linkMemorySpec)) linkMemoryCard

/-- THE TIED CARD OF 'fairlinklaw12.LinkRoom'. -/
def linkRoomCard : Claim7 := { stood := { row := linkRoomRow, standIns := [], harness := (true, "1f0d7b9ee7260fe08800a669b1e293d1df459a5451bd5640e242fc90b177f9e2"), looks := false }, kinds := [], alts := [], laidByText := true, laidKinds := [.data, .data], laidTests := true, laidLooks := .later }
def LinkRoomCardSaid : Prop := Claim7.holds Tryz.pinned (.plain (OpenSpec.ofChange linkRoomSpec)) linkRoomCard

/-- THE TIED CARD OF 'fairlinklaw12.LinkWakes'. -/
def linkWakesCard : Claim7 := { stood := { row := linkWakesRow, standIns := [], harness := (true, "1f0d7b9ee7260fe08800a669b1e293d1df459a5451bd5640e242fc90b177f9e2"), looks := false }, kinds := [], alts := [], laidByText := true, laidKinds := [.data, .data], laidTests := true, laidLooks := .later }
def LinkWakesCardSaid : Prop := Claim7.holds Tryz.pinned (.plain (OpenSpec.ofChange linkWakesSpec)) linkWakesCard

/-- THE TIED CARD OF 'fairlinklaw12.LinkExact'. -/
def linkExactCard : Claim7 := { stood := { row := linkExactRow, standIns := [], harness := (true, "1f0d7b9ee7260fe08800a669b1e293d1df459a5451bd5640e242fc90b177f9e2"), looks := false }, kinds := [], alts := [], laidByText := true, laidKinds := [.data, .data], laidTests := true, laidLooks := .later }
def LinkExactCardSaid : Prop := Claim7.holds Tryz.pinned (.plain (OpenSpec.ofChange linkExactSpec)) linkExactCard

/-- THE TIED CARD OF 'fairlinklaw12.LinkErrors'. -/
def linkErrorsCard : Claim7 := { stood := { row := linkErrorsRow, standIns := [], harness := (true, "1f0d7b9ee7260fe08800a669b1e293d1df459a5451bd5640e242fc90b177f9e2"), looks := false }, kinds := [], alts := [], laidByText := true, laidKinds := [.data, .data], laidTests := true, laidLooks := .later }
def LinkErrorsCardSaid : Prop := Claim7.holds Tryz.pinned (.plain (OpenSpec.ofChange linkErrorsSpec)) linkErrorsCard

/-- THE TIED CARD OF 'fairlinklaw12.LinkPlays'. -/
def linkPlaysCard : Claim7 := { stood := { row := linkPlaysRow, standIns := [], harness := (true, "1f0d7b9ee7260fe08800a669b1e293d1df459a5451bd5640e242fc90b177f9e2"), looks := false }, kinds := [], alts := [], laidByText := true, laidKinds := [.data, .data], laidTests := true, laidLooks := .later }
def LinkPlaysCardSaid : Prop := Claim7.holds Tryz.pinned (.plain (OpenSpec.ofChange linkPlaysSpec)) linkPlaysCard

/-- THE TIED CARD OF 'fairlinklaw12.LinkCompletes'. -/
def linkCompletesCard : Claim7 := { stood := { row := linkCompletesRow, standIns := [], harness := (true, "1f0d7b9ee7260fe08800a669b1e293d1df459a5451bd5640e242fc90b177f9e2"), looks := false }, kinds := [], alts := [], laidByText := true, laidKinds := [.data, .data], laidTests := true, laidLooks := .later }
def LinkCompletesCardSaid : Prop := Claim7.holds Tryz.pinned (.plain (OpenSpec.ofChange linkCompletesSpec)) linkCompletesCard

/-- THE TIED CARD OF 'fairlinklaw12.LinkReturns'. -/
def linkReturnsCard : Claim7 := { stood := { row := linkReturnsRow, standIns := [], harness := (true, "1f0d7b9ee7260fe08800a669b1e293d1df459a5451bd5640e242fc90b177f9e2"), looks := false }, kinds := [], alts := [], laidByText := true, laidKinds := [.data, .data], laidTests := true, laidLooks := .later }
def LinkReturnsCardSaid : Prop := Claim7.holds Tryz.pinned (.plain (OpenSpec.ofChange linkReturnsSpec)) linkReturnsCard

/-- THE SECOND FORM's CARD OF 'fairlinklaw12.LinkMemory'. -/
def linkMemoryUptoCard : Claim7 := { stood := { row := linkMemoryUptoRow, standIns := [], harness := (true, "1f0d7b9ee7260fe08800a669b1e293d1df459a5451bd5640e242fc90b177f9e2"), looks := false }, kinds := [], alts := [], laidByText := true, laidKinds := [.data, .data], laidTests := true, laidLooks := .later }
def LinkMemoryUptoCardSaid : Prop := Claim7.holds Tryz.pinned (.plain (OpenSpec.upto linkMemorySpec)) linkMemoryUptoCard

/-- THE SECOND FORM's CARD OF 'fairlinklaw12.LinkRoom'. -/
def linkRoomUptoCard : Claim7 := { stood := { row := linkRoomUptoRow, standIns := [], harness := (true, "1f0d7b9ee7260fe08800a669b1e293d1df459a5451bd5640e242fc90b177f9e2"), looks := false }, kinds := [], alts := [], laidByText := true, laidKinds := [.data, .data], laidTests := true, laidLooks := .later }
def LinkRoomUptoCardSaid : Prop := Claim7.holds Tryz.pinned (.plain (OpenSpec.upto linkRoomSpec)) linkRoomUptoCard

/-- THE SECOND FORM's CARD OF 'fairlinklaw12.LinkWakes'. -/
def linkWakesUptoCard : Claim7 := { stood := { row := linkWakesUptoRow, standIns := [], harness := (true, "1f0d7b9ee7260fe08800a669b1e293d1df459a5451bd5640e242fc90b177f9e2"), looks := false }, kinds := [], alts := [], laidByText := true, laidKinds := [.data, .data], laidTests := true, laidLooks := .later }
def LinkWakesUptoCardSaid : Prop := Claim7.holds Tryz.pinned (.plain (OpenSpec.upto linkWakesSpec)) linkWakesUptoCard

/-- THE SECOND FORM's CARD OF 'fairlinklaw12.LinkExact'. -/
def linkExactUptoCard : Claim7 := { stood := { row := linkExactUptoRow, standIns := [], harness := (true, "1f0d7b9ee7260fe08800a669b1e293d1df459a5451bd5640e242fc90b177f9e2"), looks := false }, kinds := [], alts := [], laidByText := true, laidKinds := [.data, .data], laidTests := true, laidLooks := .later }
def LinkExactUptoCardSaid : Prop := Claim7.holds Tryz.pinned (.plain (OpenSpec.upto linkExactSpec)) linkExactUptoCard

/-- THE SECOND FORM's CARD OF 'fairlinklaw12.LinkErrors'. -/
def linkErrorsUptoCard : Claim7 := { stood := { row := linkErrorsUptoRow, standIns := [], harness := (true, "1f0d7b9ee7260fe08800a669b1e293d1df459a5451bd5640e242fc90b177f9e2"), looks := false }, kinds := [], alts := [], laidByText := true, laidKinds := [.data, .data], laidTests := true, laidLooks := .later }
def LinkErrorsUptoCardSaid : Prop := Claim7.holds Tryz.pinned (.plain (OpenSpec.upto linkErrorsSpec)) linkErrorsUptoCard

/-- THE SECOND FORM's CARD OF 'fairlinklaw12.LinkPlays'. -/
def linkPlaysUptoCard : Claim7 := { stood := { row := linkPlaysUptoRow, standIns := [], harness := (true, "1f0d7b9ee7260fe08800a669b1e293d1df459a5451bd5640e242fc90b177f9e2"), looks := false }, kinds := [], alts := [], laidByText := true, laidKinds := [.data, .data], laidTests := true, laidLooks := .later }
def LinkPlaysUptoCardSaid : Prop := Claim7.holds Tryz.pinned (.plain (OpenSpec.upto linkPlaysSpec)) linkPlaysUptoCard

/-- THE SECOND FORM's CARD OF 'fairlinklaw12.LinkCompletes'. -/
def linkCompletesUptoCard : Claim7 := { stood := { row := linkCompletesUptoRow, standIns := [], harness := (true, "1f0d7b9ee7260fe08800a669b1e293d1df459a5451bd5640e242fc90b177f9e2"), looks := false }, kinds := [], alts := [], laidByText := true, laidKinds := [.data, .data], laidTests := true, laidLooks := .later }
def LinkCompletesUptoCardSaid : Prop := Claim7.holds Tryz.pinned (.plain (OpenSpec.upto linkCompletesSpec)) linkCompletesUptoCard

/-- THE SECOND FORM's CARD OF 'fairlinklaw12.LinkReturns'. -/
def linkReturnsUptoCard : Claim7 := { stood := { row := linkReturnsUptoRow, standIns := [], harness := (true, "1f0d7b9ee7260fe08800a669b1e293d1df459a5451bd5640e242fc90b177f9e2"), looks := false }, kinds := [], alts := [], laidByText := true, laidKinds := [.data, .data], laidTests := true, laidLooks := .later }
def LinkReturnsUptoCardSaid : Prop := Claim7.holds Tryz.pinned (.plain (OpenSpec.upto linkReturnsSpec)) linkReturnsUptoCard
end Rows
end Go.Proofs.YtckdblgobmofgaaGreatDoor
