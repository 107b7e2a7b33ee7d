/-
  DERIVED. GIVEN WITH THE SEED: THE CARDS: each row of YtdmfjmdnkfeljaaDoorRows.lean that lists a variable, with what it lists TIED to the program's text (the seventh form; the later family's looks); each row that meets fmt, with fmt's text TOLD by the authors' own Lean function (tested against real Go, not proved from fmt's source: count such statements apart). THE CARD IS WHAT COUNTS. Prove the row's statement (the work); the ties are given (YtdmfjmdnkfeljaaDoorTie.lean); close each card by the builder's one call (the guide's Derived/Test/ToyasCard.lean, 'card_holds'). Laid BY PROGRAM, IN A SANDBOX (cutbox-door.mjs). By AI agents, Wed Nov 11 2026. No macro, syntax, notation, axiom, sorry.
-/
import Derived.Test.YtdmfjmdnkfeljaaDoorRows
import GoSem.ClaimSeven
namespace Go.Proofs.YtdmfjmdnkfeljaaDoor
namespace Rows

/-- THE TIED CARD OF 'fairlinklaw04.FrameEncodes'. -/
def frameEncodesCard : Claim7 := { stood := { row := frameEncodesRow, standIns := [], harness := (true, "13fccd5fa54a35f0a102eb646d363b581183802d14bde7a1d062c573f40eff51"), looks := false }, kinds := [], alts := [], laidByText := true, laidKinds := [.data, .data], laidTests := true, laidLooks := .later }
def FrameEncodesCardSaid : Prop := Claim7.holds Tryd.pinned (.plain (OpenSpec.ofChange frameEncodesSpec)) frameEncodesCard

/-- THE TIED CARD OF 'fairlinklaw04.FrameDecodes'. -/
def frameDecodesCard : Claim7 := { stood := { row := frameDecodesRow, standIns := [], harness := (true, "13fccd5fa54a35f0a102eb646d363b581183802d14bde7a1d062c573f40eff51"), looks := false }, kinds := [], alts := [], laidByText := true, laidKinds := [.data, .data], laidTests := true, laidLooks := .later }
def FrameDecodesCardSaid : Prop := Claim7.holds Tryd.pinned (.plain (OpenSpec.ofChange frameDecodesSpec)) frameDecodesCard

/-- THE TIED CARD OF 'fairlinklaw04.FrameReturns'. -/
def frameReturnsCard : Claim7 := { stood := { row := frameReturnsRow, standIns := [], harness := (true, "13fccd5fa54a35f0a102eb646d363b581183802d14bde7a1d062c573f40eff51"), looks := false }, kinds := [], alts := [], laidByText := true, laidKinds := [.data, .data], laidTests := true, laidLooks := .later }
def FrameReturnsCardSaid : Prop := Claim7.holds Tryd.pinned (.plain (OpenSpec.ofChange frameReturnsSpec)) frameReturnsCard

/-- THE TIED CARD OF 'fairlinklaw04.FrameCuts'. -/
def frameCutsCard : Claim7 := { stood := { row := frameCutsRow, standIns := [], harness := (true, "13fccd5fa54a35f0a102eb646d363b581183802d14bde7a1d062c573f40eff51"), looks := false }, kinds := [], alts := [], laidByText := true, laidKinds := [.data, .data], laidTests := true, laidLooks := .later }
def FrameCutsCardSaid : Prop := Claim7.holds Tryd.pinned (.plain (OpenSpec.ofChange frameCutsSpec)) frameCutsCard

/-- THE TIED CARD OF 'fairlinklaw04.FrameDamage'. -/
def frameDamageCard : Claim7 := { stood := { row := frameDamageRow, standIns := [], harness := (true, "13fccd5fa54a35f0a102eb646d363b581183802d14bde7a1d062c573f40eff51"), looks := false }, kinds := [], alts := [], laidByText := true, laidKinds := [.data, .data], laidTests := true, laidLooks := .later }
def FrameDamageCardSaid : Prop := Claim7.holds Tryd.pinned (.plain (OpenSpec.ofChange frameDamageSpec)) frameDamageCard

/-- THE TIED CARD OF 'fairlinklaw04.FrameScans'. -/
def frameScansCard : Claim7 := { stood := { row := frameScansRow, standIns := [], harness := (true, "13fccd5fa54a35f0a102eb646d363b581183802d14bde7a1d062c573f40eff51"), looks := false }, kinds := [], alts := [], laidByText := true, laidKinds := [.data, .data], laidTests := true, laidLooks := .later }
def FrameScansCardSaid : Prop := Claim7.holds Tryd.pinned (.plain (OpenSpec.ofChange frameScansSpec)) frameScansCard

/-- THE TIED CARD OF 'fairlinklaw04.FrameLong'. -/
def frameLongCard : Claim7 := { stood := { row := frameLongRow, standIns := [], harness := (true, "13fccd5fa54a35f0a102eb646d363b581183802d14bde7a1d062c573f40eff51"), looks := false }, kinds := [], alts := [], laidByText := true, laidKinds := [.data, .data], laidTests := true, laidLooks := .later }
def FrameLongCardSaid : Prop := Claim7.holds Tryd.pinned (.plain (OpenSpec.ofChange frameLongSpec)) frameLongCard

/-- THE TIED CARD OF 'fairlinklaw04.FrameStream'. -/
def frameStreamCard : Claim7 := { stood := { row := frameStreamRow, standIns := [], harness := (true, "13fccd5fa54a35f0a102eb646d363b581183802d14bde7a1d062c573f40eff51"), looks := false }, kinds := [], alts := [], laidByText := true, laidKinds := [.data, .data], laidTests := true, laidLooks := .later }
def FrameStreamCardSaid : Prop := Claim7.holds Tryd.pinned (.plain (OpenSpec.ofChange frameStreamSpec)) frameStreamCard

/-- THE TIED CARD OF 'fairlinklaw04.FrameFlips'. -/
def frameFlipsCard : Claim7 := { stood := { row := frameFlipsRow, standIns := [], harness := (true, "13fccd5fa54a35f0a102eb646d363b581183802d14bde7a1d062c573f40eff51"), looks := false }, kinds := [], alts := [], laidByText := true, laidKinds := [.data, .data], laidTests := true, laidLooks := .later }
def FrameFlipsCardSaid : Prop := Claim7.holds Tryd.pinned (.plain (OpenSpec.ofChange frameFlipsSpec)) frameFlipsCard

/-- THE TIED CARD OF 'fairlinklaw04.FrameRecovers'. -/
def frameRecoversCard : Claim7 := { stood := { row := frameRecoversRow, standIns := [], harness := (true, "13fccd5fa54a35f0a102eb646d363b581183802d14bde7a1d062c573f40eff51"), looks := false }, kinds := [], alts := [], laidByText := true, laidKinds := [.data, .data], laidTests := true, laidLooks := .later }
def FrameRecoversCardSaid : Prop := Claim7.holds Tryd.pinned (.plain (OpenSpec.ofChange frameRecoversSpec)) frameRecoversCard

/-- THE SECOND FORM's CARD OF 'fairlinklaw04.FrameEncodes'. -/
def frameEncodesUptoCard : Claim7 := { stood := { row := frameEncodesUptoRow, standIns := [], harness := (true, "13fccd5fa54a35f0a102eb646d363b581183802d14bde7a1d062c573f40eff51"), looks := false }, kinds := [], alts := [], laidByText := true, laidKinds := [.data, .data], laidTests := true, laidLooks := .later }
def FrameEncodesUptoCardSaid : Prop := Claim7.holds Tryd.pinned (.plain (OpenSpec.upto frameEncodesSpec)) frameEncodesUptoCard

/-- THE SECOND FORM's CARD OF 'fairlinklaw04.FrameDecodes'. -/
def frameDecodesUptoCard : Claim7 := { stood := { row := frameDecodesUptoRow, standIns := [], harness := (true, "13fccd5fa54a35f0a102eb646d363b581183802d14bde7a1d062c573f40eff51"), looks := false }, kinds := [], alts := [], laidByText := true, laidKinds := [.data, .data], laidTests := true, laidLooks := .later }
def FrameDecodesUptoCardSaid : Prop := Claim7.holds Tryd.pinned (.plain (OpenSpec.upto frameDecodesSpec)) frameDecodesUptoCard

/-- THE SECOND FORM's CARD OF 'fairlinklaw04.FrameReturns'. -/
def frameReturnsUptoCard : Claim7 := { stood := { row := frameReturnsUptoRow, standIns := [], harness := (true, "13fccd5fa54a35f0a102eb646d363b581183802d14bde7a1d062c573f40eff51"), looks := false }, kinds := [], alts := [], laidByText := true, laidKinds := [.data, .data], laidTests := true, laidLooks := .later }
def FrameReturnsUptoCardSaid : Prop := Claim7.holds Tryd.pinned (.plain (OpenSpec.upto frameReturnsSpec)) frameReturnsUptoCard

/-- THE SECOND FORM's CARD OF 'fairlinklaw04.FrameCuts'. -/
def frameCutsUptoCard : Claim7 := { stood := { row := frameCutsUptoRow, standIns := [], harness := (true, "13fccd5fa54a35f0a102eb646d363b581183802d14bde7a1d062c573f40eff51"), looks := false }, kinds := [], alts := [], laidByText := true, laidKinds := [.data, .data], laidTests := true, laidLooks := .later }
def FrameCutsUptoCardSaid : Prop := Claim7.holds Tryd.pinned (.plain (OpenSpec.upto frameCutsSpec)) frameCutsUptoCard

/-- THE SECOND FORM's CARD OF 'fairlinklaw04.FrameDamage'. -/
def frameDamageUptoCard : Claim7 := { stood := { row := frameDamageUptoRow, standIns := [], harness := (true, "13fccd5fa54a35f0a102eb646d363b581183802d14bde7a1d062c573f40eff51"), looks := false }, kinds := [], alts := [], laidByText := true, laidKinds := [.data, .data], laidTests := true, laidLooks := .later }
def FrameDamageUptoCardSaid : Prop := Claim7.holds Tryd.pinned (.plain (OpenSpec.upto frameDamageSpec)) frameDamageUptoCard

/-- THE SECOND FORM's CARD OF 'fairlinklaw04.FrameScans'. -/
def frameScansUptoCard : Claim7 := { stood := { row := frameScansUptoRow, standIns := [], harness := (true, "13fccd5fa54a35f0a102eb646d363b581183802d14bde7a1d062c573f40eff51"), looks := false }, kinds := [], alts := [], laidByText := true, laidKinds := [.data, .data], laidTests := true, laidLooks := .later }
def FrameScansUptoCardSaid : Prop := Claim7.holds Tryd.pinned (.plain (OpenSpec.upto frameScansSpec)) frameScansUptoCard

/-- THE SECOND FORM's CARD OF 'fairlinklaw04.FrameLong'. -/
def frameLongUptoCard : Claim7 := { stood := { row := frameLongUptoRow, standIns := [], harness := (true, "13fccd5fa54a35f0a102eb646d363b581183802d14bde7a1d062c573f40eff51"), looks := false }, kinds := [], alts := [], laidByText := true, laidKinds := [.data, .data], laidTests := true, laidLooks := .later }
def FrameLongUptoCardSaid : Prop := Claim7.holds Tryd.pinned (.plain (OpenSpec.upto frameLongSpec)) frameLongUptoCard

/-- THE SECOND FORM's CARD OF 'fairlinklaw04.FrameStream'. -/
def frameStreamUptoCard : Claim7 := { stood := { row := frameStreamUptoRow, standIns := [], harness := (true, "13fccd5fa54a35f0a102eb646d363b581183802d14bde7a1d062c573f40eff51"), looks := false }, kinds := [], alts := [], laidByText := true, laidKinds := [.data, .data], laidTests := true, laidLooks := .later }
def FrameStreamUptoCardSaid : Prop := Claim7.holds Tryd.pinned (.plain (OpenSpec.upto frameStreamSpec)) frameStreamUptoCard

/-- THE SECOND FORM's CARD OF 'fairlinklaw04.FrameFlips'. -/
def frameFlipsUptoCard : Claim7 := { stood := { row := frameFlipsUptoRow, standIns := [], harness := (true, "13fccd5fa54a35f0a102eb646d363b581183802d14bde7a1d062c573f40eff51"), looks := false }, kinds := [], alts := [], laidByText := true, laidKinds := [.data, .data], laidTests := true, laidLooks := .later }
def FrameFlipsUptoCardSaid : Prop := Claim7.holds Tryd.pinned (.plain (OpenSpec.upto frameFlipsSpec)) frameFlipsUptoCard

/-- THE SECOND FORM's CARD OF 'fairlinklaw04.FrameRecovers'. -/
def frameRecoversUptoCard : Claim7 := { stood := { row := frameRecoversUptoRow, standIns := [], harness := (true, "13fccd5fa54a35f0a102eb646d363b581183802d14bde7a1d062c573f40eff51"), looks := false }, kinds := [], alts := [], laidByText := true, laidKinds := [.data, .data], laidTests := true, laidLooks := .later }
def FrameRecoversUptoCardSaid : Prop := Claim7.holds Tryd.pinned (.plain (OpenSpec.upto frameRecoversSpec)) frameRecoversUptoCard
end Rows
end Go.Proofs.YtdmfjmdnkfeljaaDoor
