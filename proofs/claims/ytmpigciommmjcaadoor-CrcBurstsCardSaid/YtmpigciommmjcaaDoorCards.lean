/-
  DERIVED. GIVEN WITH THE SEED: THE CARDS: each row of YtmpigciommmjcaaDoorRows.lean that lists a variable, with what it lists TIED to the program's text (the seventh form; the later family's looks); each row that meets fmt, with fmt's text TOLD by the authors' own Lean function (tested against real Go, not proved from fmt's source: count such statements apart). THE CARD IS WHAT COUNTS. Prove the row's statement (the work); the ties are given (YtmpigciommmjcaaDoorTie.lean); close each card by the builder's one call (the guide's Derived/Test/ToyasCard.lean, 'card_holds'). Laid BY PROGRAM, IN A SANDBOX (cutbox-door.mjs). By AI agents, Wed Nov 11 2026. No macro, syntax, notation, axiom, sorry.
-/
import Derived.Test.YtmpigciommmjcaaDoorRows
import GoSem.ClaimSeven
namespace Go.Proofs.YtmpigciommmjcaaDoor
namespace Rows

/-- THE TIED CARD OF 'fairlinklaw02.CrcSums'. -/
def crcSumsCard : Claim7 := { stood := { row := crcSumsRow, standIns := [], harness := (true, "f6a1350e66a2badd14574871150b006df71da6ac8b10343306f759726fdb05b3"), looks := false }, kinds := [], alts := [], laidByText := true, laidKinds := [.data], laidTests := true, laidLooks := .later }
def CrcSumsCardSaid : Prop := Claim7.holds Tryd.pinned (.plain (OpenSpec.ofChange crcSumsSpec)) crcSumsCard

/-- THE TIED CARD OF 'fairlinklaw02.CrcUpdates'. -/
def crcUpdatesCard : Claim7 := { stood := { row := crcUpdatesRow, standIns := [], harness := (true, "f6a1350e66a2badd14574871150b006df71da6ac8b10343306f759726fdb05b3"), looks := false }, kinds := [], alts := [], laidByText := true, laidKinds := [.data], laidTests := true, laidLooks := .later }
def CrcUpdatesCardSaid : Prop := Claim7.holds Tryd.pinned (.plain (OpenSpec.ofChange crcUpdatesSpec)) crcUpdatesCard

/-- THE TIED CARD OF 'fairlinklaw02.CrcLinear'. -/
def crcLinearCard : Claim7 := { stood := { row := crcLinearRow, standIns := [], harness := (true, "f6a1350e66a2badd14574871150b006df71da6ac8b10343306f759726fdb05b3"), looks := false }, kinds := [], alts := [], laidByText := true, laidKinds := [.data], laidTests := true, laidLooks := .later }
def CrcLinearCardSaid : Prop := Claim7.holds Tryd.pinned (.plain (OpenSpec.ofChange crcLinearSpec)) crcLinearCard

/-- THE TIED CARD OF 'fairlinklaw02.CrcErrors'. -/
def crcErrorsCard : Claim7 := { stood := { row := crcErrorsRow, standIns := [], harness := (true, "f6a1350e66a2badd14574871150b006df71da6ac8b10343306f759726fdb05b3"), looks := false }, kinds := [], alts := [], laidByText := true, laidKinds := [.data], laidTests := true, laidLooks := .later }
def CrcErrorsCardSaid : Prop := Claim7.holds Tryd.pinned (.plain (OpenSpec.ofChange crcErrorsSpec)) crcErrorsCard

/-- THE TIED CARD OF 'fairlinklaw02.CrcResidue'. -/
def crcResidueCard : Claim7 := { stood := { row := crcResidueRow, standIns := [], harness := (true, "f6a1350e66a2badd14574871150b006df71da6ac8b10343306f759726fdb05b3"), looks := false }, kinds := [], alts := [], laidByText := true, laidKinds := [.data], laidTests := true, laidLooks := .later }
def CrcResidueCardSaid : Prop := Claim7.holds Tryd.pinned (.plain (OpenSpec.ofChange crcResidueSpec)) crcResidueCard

/-- THE TIED CARD OF 'fairlinklaw02.CrcSeals'. -/
def crcSealsCard : Claim7 := { stood := { row := crcSealsRow, standIns := [], harness := (true, "f6a1350e66a2badd14574871150b006df71da6ac8b10343306f759726fdb05b3"), looks := false }, kinds := [], alts := [], laidByText := true, laidKinds := [.data], laidTests := true, laidLooks := .later }
def CrcSealsCardSaid : Prop := Claim7.holds Tryd.pinned (.plain (OpenSpec.ofChange crcSealsSpec)) crcSealsCard

/-- THE TIED CARD OF 'fairlinklaw02.CrcBursts'. -/
def crcBurstsCard : Claim7 := { stood := { row := crcBurstsRow, standIns := [], harness := (true, "f6a1350e66a2badd14574871150b006df71da6ac8b10343306f759726fdb05b3"), looks := false }, kinds := [], alts := [], laidByText := true, laidKinds := [.data], laidTests := true, laidLooks := .later }
def CrcBurstsCardSaid : Prop := Claim7.holds Tryd.pinned (.plain (OpenSpec.ofChange crcBurstsSpec)) crcBurstsCard

/-- THE TIED CARD OF 'fairlinklaw02.CrcBits'. -/
def crcBitsCard : Claim7 := { stood := { row := crcBitsRow, standIns := [], harness := (true, "f6a1350e66a2badd14574871150b006df71da6ac8b10343306f759726fdb05b3"), looks := false }, kinds := [], alts := [], laidByText := true, laidKinds := [.data], laidTests := true, laidLooks := .later }
def CrcBitsCardSaid : Prop := Claim7.holds Tryd.pinned (.plain (OpenSpec.ofChange crcBitsSpec)) crcBitsCard

/-- THE TIED CARD OF 'fairlinklaw02.CrcPairs'. -/
def crcPairsCard : Claim7 := { stood := { row := crcPairsRow, standIns := [], harness := (true, "f6a1350e66a2badd14574871150b006df71da6ac8b10343306f759726fdb05b3"), looks := false }, kinds := [], alts := [], laidByText := true, laidKinds := [.data], laidTests := true, laidLooks := .later }
def CrcPairsCardSaid : Prop := Claim7.holds Tryd.pinned (.plain (OpenSpec.ofChange crcPairsSpec)) crcPairsCard

/-- THE SECOND FORM's CARD OF 'fairlinklaw02.CrcSums'. -/
def crcSumsUptoCard : Claim7 := { stood := { row := crcSumsUptoRow, standIns := [], harness := (true, "f6a1350e66a2badd14574871150b006df71da6ac8b10343306f759726fdb05b3"), looks := false }, kinds := [], alts := [], laidByText := true, laidKinds := [.data], laidTests := true, laidLooks := .later }
def CrcSumsUptoCardSaid : Prop := Claim7.holds Tryd.pinned (.plain (OpenSpec.upto crcSumsSpec)) crcSumsUptoCard

/-- THE SECOND FORM's CARD OF 'fairlinklaw02.CrcUpdates'. -/
def crcUpdatesUptoCard : Claim7 := { stood := { row := crcUpdatesUptoRow, standIns := [], harness := (true, "f6a1350e66a2badd14574871150b006df71da6ac8b10343306f759726fdb05b3"), looks := false }, kinds := [], alts := [], laidByText := true, laidKinds := [.data], laidTests := true, laidLooks := .later }
def CrcUpdatesUptoCardSaid : Prop := Claim7.holds Tryd.pinned (.plain (OpenSpec.upto crcUpdatesSpec)) crcUpdatesUptoCard

/-- THE SECOND FORM's CARD OF 'fairlinklaw02.CrcLinear'. -/
def crcLinearUptoCard : Claim7 := { stood := { row := crcLinearUptoRow, standIns := [], harness := (true, "f6a1350e66a2badd14574871150b006df71da6ac8b10343306f759726fdb05b3"), looks := false }, kinds := [], alts := [], laidByText := true, laidKinds := [.data], laidTests := true, laidLooks := .later }
def CrcLinearUptoCardSaid : Prop := Claim7.holds Tryd.pinned (.plain (OpenSpec.upto crcLinearSpec)) crcLinearUptoCard

/-- THE SECOND FORM's CARD OF 'fairlinklaw02.CrcErrors'. -/
def crcErrorsUptoCard : Claim7 := { stood := { row := crcErrorsUptoRow, standIns := [], harness := (true, "f6a1350e66a2badd14574871150b006df71da6ac8b10343306f759726fdb05b3"), looks := false }, kinds := [], alts := [], laidByText := true, laidKinds := [.data], laidTests := true, laidLooks := .later }
def CrcErrorsUptoCardSaid : Prop := Claim7.holds Tryd.pinned (.plain (OpenSpec.upto crcErrorsSpec)) crcErrorsUptoCard

/-- THE SECOND FORM's CARD OF 'fairlinklaw02.CrcResidue'. -/
def crcResidueUptoCard : Claim7 := { stood := { row := crcResidueUptoRow, standIns := [], harness := (true, "f6a1350e66a2badd14574871150b006df71da6ac8b10343306f759726fdb05b3"), looks := false }, kinds := [], alts := [], laidByText := true, laidKinds := [.data], laidTests := true, laidLooks := .later }
def CrcResidueUptoCardSaid : Prop := Claim7.holds Tryd.pinned (.plain (OpenSpec.upto crcResidueSpec)) crcResidueUptoCard

/-- THE SECOND FORM's CARD OF 'fairlinklaw02.CrcSeals'. -/
def crcSealsUptoCard : Claim7 := { stood := { row := crcSealsUptoRow, standIns := [], harness := (true, "f6a1350e66a2badd14574871150b006df71da6ac8b10343306f759726fdb05b3"), looks := false }, kinds := [], alts := [], laidByText := true, laidKinds := [.data], laidTests := true, laidLooks := .later }
def CrcSealsUptoCardSaid : Prop := Claim7.holds Tryd.pinned (.plain (OpenSpec.upto crcSealsSpec)) crcSealsUptoCard

/-- THE SECOND FORM's CARD OF 'fairlinklaw02.CrcBursts'. -/
def crcBurstsUptoCard : Claim7 := { stood := { row := crcBurstsUptoRow, standIns := [], harness := (true, "f6a1350e66a2badd14574871150b006df71da6ac8b10343306f759726fdb05b3"), looks := false }, kinds := [], alts := [], laidByText := true, laidKinds := [.data], laidTests := true, laidLooks := .later }
def CrcBurstsUptoCardSaid : Prop := Claim7.holds Tryd.pinned (.plain (OpenSpec.upto crcBurstsSpec)) crcBurstsUptoCard

/-- THE SECOND FORM's CARD OF 'fairlinklaw02.CrcBits'. -/
def crcBitsUptoCard : Claim7 := { stood := { row := crcBitsUptoRow, standIns := [], harness := (true, "f6a1350e66a2badd14574871150b006df71da6ac8b10343306f759726fdb05b3"), looks := false }, kinds := [], alts := [], laidByText := true, laidKinds := [.data], laidTests := true, laidLooks := .later }
def CrcBitsUptoCardSaid : Prop := Claim7.holds Tryd.pinned (.plain (OpenSpec.upto crcBitsSpec)) crcBitsUptoCard

/-- THE SECOND FORM's CARD OF 'fairlinklaw02.CrcPairs'. -/
def crcPairsUptoCard : Claim7 := { stood := { row := crcPairsUptoRow, standIns := [], harness := (true, "f6a1350e66a2badd14574871150b006df71da6ac8b10343306f759726fdb05b3"), looks := false }, kinds := [], alts := [], laidByText := true, laidKinds := [.data], laidTests := true, laidLooks := .later }
def CrcPairsUptoCardSaid : Prop := Claim7.holds Tryd.pinned (.plain (OpenSpec.upto crcPairsSpec)) crcPairsUptoCard
end Rows
end Go.Proofs.YtmpigciommmjcaaDoor
