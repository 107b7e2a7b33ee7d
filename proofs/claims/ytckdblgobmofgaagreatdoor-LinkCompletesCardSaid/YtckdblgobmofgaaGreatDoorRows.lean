/-
  NARROWER THAN 'FOR EVERY INPUT', by the rows' own cells (each row's printed sentence says how): LinkMemory: laid · LinkRoom: laid · LinkWakes: laid · LinkExact: laid · LinkErrors: laid · LinkPlays: laid · LinkCompletes: laid · LinkReturns: laid.
  DERIVED. THE GIVEN ROWS OF THIS SEAT. 8 by the template 'for every input the law returns true; each argument reads behind the call as it read before'; 0 by the template 'total and deterministic' (their statements: YtckdblgobmofgaaGreatDoorTotals.lean).
  GIVEN WITH THE SEED: the statements are not yours to turn. If you find one false, say at which input.
  Laid BY PROGRAM, IN A SANDBOX (cutbox-rows.mjs): the forced cells as the released guide's own fill.sh prints them over the translation 416ca9c5ce945a45… (all of the seat's roots in one cut). By AI agents, Wed Nov 11 2026. No macro, syntax, notation, axiom, sorry.
-/
import Derived.Test.YtckdblgobmofgaaGreatDoorChecked
import GoSem.Claim
import GoSem.ClaimJoined
import GoSem.ClaimMapViews
import Derived.JoinedTies
import Derived.KernelRfl
namespace Go.Proofs.YtckdblgobmofgaaGreatDoor
/- THE CELL 'sum', in the pinned program and in every row, IS THE sha256 OF THE DUMP (.gsa) THAT YtckdblgobmofgaaGreatDoorProg.lean LOADS. Nothing in Lean hashes anything: it is a label: what it is worth is what the hold of that sum in a sandbox is worth. -/
noncomputable def Tryz.pinned : Pinned := { name := "ytckdblgobmofgaagreatdoor", sum := "416ca9c5ce945a45dcf2608f92ffa695fcb5da814412153715b27545df38c83e", checked := Tryz.checked }
namespace Rows
def none {H : Type} : Left H := { results := [], args := [] }

/- WHAT THE LISTED PACKAGE-LEVEL VARIABLES READ AS WHEN THE CALL BEGINS. Each datum BY PROGRAM (the guide's laid-datum.mjs) off the statement by which the dump's own 'gosem.cut.vars' lays the variable. In a bare row this is a premise. The card (YtckdblgobmofgaaGreatDoorCards.lean) ties it to the program's text. -/
def laid_fairlink_linecode_valid {H : Type} : DataW H := .agg [.lit (.int .u8 7), .lit (.int .u8 11), .lit (.int .u8 13), .lit (.int .u8 14), .lit (.int .u8 19), .lit (.int .u8 21), .lit (.int .u8 22), .lit (.int .u8 25), .lit (.int .u8 26), .lit (.int .u8 28), .lit (.int .u8 35), .lit (.int .u8 37), .lit (.int .u8 38), .lit (.int .u8 41), .lit (.int .u8 42), .lit (.int .u8 44), .lit (.int .u8 49), .lit (.int .u8 50), .lit (.int .u8 52), .lit (.int .u8 56)]
def laid_fairlink_crc_remainders {H : Type} : DataW H := .agg [.lit (.int .u32 0), .lit (.int .u32 498536548), .lit (.int .u32 997073096), .lit (.int .u32 651767980), .lit (.int .u32 1994146192), .lit (.int .u32 1802195444), .lit (.int .u32 1303535960), .lit (.int .u32 1342533948), .lit (.int .u32 3988292384), .lit (.int .u32 4027552580), .lit (.int .u32 3604390888), .lit (.int .u32 3412177804), .lit (.int .u32 2607071920), .lit (.int .u32 2262029012), .lit (.int .u32 2685067896), .lit (.int .u32 3183342108)]

/-- 'fairlinklaw12.LinkMemory': WHATEVER THE INPUT: true; the input reads as it did. -/
def linkMemorySpec : ChangeSpec := { name := "linkMemory", fn := fun _ => fun
  | [d] => { results := [.lit (.bool true)], args := [d] }
  | _ => none }
def linkMemoryRow : OpenClaim := { program := "ytckdblgobmofgaagreatdoor", sum := "416ca9c5ce945a45dcf2608f92ffa695fcb5da814412153715b27545df38c83e", func := "fairlink/fairlinklaw12.LinkMemory", spec := "linkMemory", unfollowed := true, recurses := true, named := ["fairlink/linecode.valid", "fairlink/crc.remainders"], apart := false, laid := [("fairlink/linecode.valid", laid_fairlink_linecode_valid), ("fairlink/crc.remainders", laid_fairlink_crc_remainders)] }
def LinkMemorySaid : Prop := linkMemoryRow.holds Tryz.pinned (OpenSpec.ofChange linkMemorySpec)

/-- ITS FALSE NEIGHBOUR: 'it returns false'. Refute it at one input. -/
def linkMemoryWrong : ChangeSpec := { name := "linkMemory", fn := fun _ => fun
  | [d] => { results := [.lit (.bool false)], args := [d] }
  | _ => none }
def LinkMemoryWrongFalsely : Prop := linkMemoryRow.holds Tryz.pinned (OpenSpec.ofChange linkMemoryWrong)

/-- 'fairlinklaw12.LinkRoom': WHATEVER THE INPUT: true; the input reads as it did. -/
def linkRoomSpec : ChangeSpec := { name := "linkRoom", fn := fun _ => fun
  | [d1, d2] => { results := [.lit (.bool true)], args := [d1, d2] }
  | _ => none }
def linkRoomRow : OpenClaim := { program := "ytckdblgobmofgaagreatdoor", sum := "416ca9c5ce945a45dcf2608f92ffa695fcb5da814412153715b27545df38c83e", func := "fairlink/fairlinklaw12.LinkRoom", spec := "linkRoom", unfollowed := true, recurses := true, named := ["fairlink/linecode.valid", "fairlink/crc.remainders"], apart := false, laid := [("fairlink/linecode.valid", laid_fairlink_linecode_valid), ("fairlink/crc.remainders", laid_fairlink_crc_remainders)] }
def LinkRoomSaid : Prop := linkRoomRow.holds Tryz.pinned (OpenSpec.ofChange linkRoomSpec)

/-- ITS FALSE NEIGHBOUR: 'it returns false'. Refute it at one input. -/
def linkRoomWrong : ChangeSpec := { name := "linkRoom", fn := fun _ => fun
  | [d1, d2] => { results := [.lit (.bool false)], args := [d1, d2] }
  | _ => none }
def LinkRoomWrongFalsely : Prop := linkRoomRow.holds Tryz.pinned (OpenSpec.ofChange linkRoomWrong)

/-- 'fairlinklaw12.LinkWakes': WHATEVER THE INPUT: true; the input reads as it did. -/
def linkWakesSpec : ChangeSpec := { name := "linkWakes", fn := fun _ => fun
  | [d1, d2] => { results := [.lit (.bool true)], args := [d1, d2] }
  | _ => none }
def linkWakesRow : OpenClaim := { program := "ytckdblgobmofgaagreatdoor", sum := "416ca9c5ce945a45dcf2608f92ffa695fcb5da814412153715b27545df38c83e", func := "fairlink/fairlinklaw12.LinkWakes", spec := "linkWakes", unfollowed := true, recurses := true, named := ["fairlink/linecode.valid", "fairlink/crc.remainders"], apart := false, laid := [("fairlink/linecode.valid", laid_fairlink_linecode_valid), ("fairlink/crc.remainders", laid_fairlink_crc_remainders)] }
def LinkWakesSaid : Prop := linkWakesRow.holds Tryz.pinned (OpenSpec.ofChange linkWakesSpec)

/-- ITS FALSE NEIGHBOUR: 'it returns false'. Refute it at one input. -/
def linkWakesWrong : ChangeSpec := { name := "linkWakes", fn := fun _ => fun
  | [d1, d2] => { results := [.lit (.bool false)], args := [d1, d2] }
  | _ => none }
def LinkWakesWrongFalsely : Prop := linkWakesRow.holds Tryz.pinned (OpenSpec.ofChange linkWakesWrong)

/-- 'fairlinklaw12.LinkExact': WHATEVER THE INPUT: true; the input reads as it did. -/
def linkExactSpec : ChangeSpec := { name := "linkExact", fn := fun _ => fun
  | [d1, d2] => { results := [.lit (.bool true)], args := [d1, d2] }
  | _ => none }
def linkExactRow : OpenClaim := { program := "ytckdblgobmofgaagreatdoor", sum := "416ca9c5ce945a45dcf2608f92ffa695fcb5da814412153715b27545df38c83e", func := "fairlink/fairlinklaw12.LinkExact", spec := "linkExact", unfollowed := true, recurses := true, named := ["fairlink/linecode.valid", "fairlink/crc.remainders"], apart := false, laid := [("fairlink/linecode.valid", laid_fairlink_linecode_valid), ("fairlink/crc.remainders", laid_fairlink_crc_remainders)] }
def LinkExactSaid : Prop := linkExactRow.holds Tryz.pinned (OpenSpec.ofChange linkExactSpec)

/-- ITS FALSE NEIGHBOUR: 'it returns false'. Refute it at one input. -/
def linkExactWrong : ChangeSpec := { name := "linkExact", fn := fun _ => fun
  | [d1, d2] => { results := [.lit (.bool false)], args := [d1, d2] }
  | _ => none }
def LinkExactWrongFalsely : Prop := linkExactRow.holds Tryz.pinned (OpenSpec.ofChange linkExactWrong)

/-- 'fairlinklaw12.LinkErrors': WHATEVER THE INPUT: true; the input reads as it did. -/
def linkErrorsSpec : ChangeSpec := { name := "linkErrors", fn := fun _ => fun
  | [d1, d2, d3, d4] => { results := [.lit (.bool true)], args := [d1, d2, d3, d4] }
  | _ => none }
def linkErrorsRow : OpenClaim := { program := "ytckdblgobmofgaagreatdoor", sum := "416ca9c5ce945a45dcf2608f92ffa695fcb5da814412153715b27545df38c83e", func := "fairlink/fairlinklaw12.LinkErrors", spec := "linkErrors", unfollowed := true, recurses := true, named := ["fairlink/linecode.valid", "fairlink/crc.remainders"], apart := false, laid := [("fairlink/linecode.valid", laid_fairlink_linecode_valid), ("fairlink/crc.remainders", laid_fairlink_crc_remainders)] }
def LinkErrorsSaid : Prop := linkErrorsRow.holds Tryz.pinned (OpenSpec.ofChange linkErrorsSpec)

/-- ITS FALSE NEIGHBOUR: 'it returns false'. Refute it at one input. -/
def linkErrorsWrong : ChangeSpec := { name := "linkErrors", fn := fun _ => fun
  | [d1, d2, d3, d4] => { results := [.lit (.bool false)], args := [d1, d2, d3, d4] }
  | _ => none }
def LinkErrorsWrongFalsely : Prop := linkErrorsRow.holds Tryz.pinned (OpenSpec.ofChange linkErrorsWrong)

/-- 'fairlinklaw12.LinkPlays': WHATEVER THE INPUT: true; the input reads as it did. -/
def linkPlaysSpec : ChangeSpec := { name := "linkPlays", fn := fun _ => fun
  | [d1, d2] => { results := [.lit (.bool true)], args := [d1, d2] }
  | _ => none }
def linkPlaysRow : OpenClaim := { program := "ytckdblgobmofgaagreatdoor", sum := "416ca9c5ce945a45dcf2608f92ffa695fcb5da814412153715b27545df38c83e", func := "fairlink/fairlinklaw12.LinkPlays", spec := "linkPlays", unfollowed := true, recurses := true, named := ["fairlink/linecode.valid", "fairlink/crc.remainders"], apart := false, laid := [("fairlink/linecode.valid", laid_fairlink_linecode_valid), ("fairlink/crc.remainders", laid_fairlink_crc_remainders)] }
def LinkPlaysSaid : Prop := linkPlaysRow.holds Tryz.pinned (OpenSpec.ofChange linkPlaysSpec)

/-- ITS FALSE NEIGHBOUR: 'it returns false'. Refute it at one input. -/
def linkPlaysWrong : ChangeSpec := { name := "linkPlays", fn := fun _ => fun
  | [d1, d2] => { results := [.lit (.bool false)], args := [d1, d2] }
  | _ => none }
def LinkPlaysWrongFalsely : Prop := linkPlaysRow.holds Tryz.pinned (OpenSpec.ofChange linkPlaysWrong)

/-- 'fairlinklaw12.LinkCompletes': WHATEVER THE INPUT: true; the input reads as it did. -/
def linkCompletesSpec : ChangeSpec := { name := "linkCompletes", fn := fun _ => fun
  | [d1, d2] => { results := [.lit (.bool true)], args := [d1, d2] }
  | _ => none }
def linkCompletesRow : OpenClaim := { program := "ytckdblgobmofgaagreatdoor", sum := "416ca9c5ce945a45dcf2608f92ffa695fcb5da814412153715b27545df38c83e", func := "fairlink/fairlinklaw12.LinkCompletes", spec := "linkCompletes", unfollowed := true, recurses := true, named := ["fairlink/linecode.valid", "fairlink/crc.remainders"], apart := false, laid := [("fairlink/linecode.valid", laid_fairlink_linecode_valid), ("fairlink/crc.remainders", laid_fairlink_crc_remainders)] }
def LinkCompletesSaid : Prop := linkCompletesRow.holds Tryz.pinned (OpenSpec.ofChange linkCompletesSpec)

/-- ITS FALSE NEIGHBOUR: 'it returns false'. Refute it at one input. -/
def linkCompletesWrong : ChangeSpec := { name := "linkCompletes", fn := fun _ => fun
  | [d1, d2] => { results := [.lit (.bool false)], args := [d1, d2] }
  | _ => none }
def LinkCompletesWrongFalsely : Prop := linkCompletesRow.holds Tryz.pinned (OpenSpec.ofChange linkCompletesWrong)

/-- 'fairlinklaw12.LinkReturns': WHATEVER THE INPUT: true; the input reads as it did. -/
def linkReturnsSpec : ChangeSpec := { name := "linkReturns", fn := fun _ => fun
  | [d1, d2, d3, d4] => { results := [.lit (.bool true)], args := [d1, d2, d3, d4] }
  | _ => none }
def linkReturnsRow : OpenClaim := { program := "ytckdblgobmofgaagreatdoor", sum := "416ca9c5ce945a45dcf2608f92ffa695fcb5da814412153715b27545df38c83e", func := "fairlink/fairlinklaw12.LinkReturns", spec := "linkReturns", unfollowed := true, recurses := true, named := ["fairlink/linecode.valid", "fairlink/crc.remainders"], apart := false, laid := [("fairlink/linecode.valid", laid_fairlink_linecode_valid), ("fairlink/crc.remainders", laid_fairlink_crc_remainders)] }
def LinkReturnsSaid : Prop := linkReturnsRow.holds Tryz.pinned (OpenSpec.ofChange linkReturnsSpec)

/-- ITS FALSE NEIGHBOUR: 'it returns false'. Refute it at one input. -/
def linkReturnsWrong : ChangeSpec := { name := "linkReturns", fn := fun _ => fun
  | [d1, d2, d3, d4] => { results := [.lit (.bool false)], args := [d1, d2, d3, d4] }
  | _ => none }
def LinkReturnsWrongFalsely : Prop := linkReturnsRow.holds Tryz.pinned (OpenSpec.ofChange linkReturnsWrong)

/- THE SECOND FORM. 'bulk': how many values and letters a reading holds, each counted each time it is reached (what is shared counts as often as it is met; a slice's spare places count too). A statement '..UptoSaid' is the law's where the arguments, and the package variables that the reading takes, are together of bulk at most 1048576: NARROWER than '..Said'. Prove '..Said' where nothing that the law and all that it calls make is longer than what came in: it says more and counts as full. Else prove '..UptoSaid'. A law counts once. -/
mutual
def uptoBulk {H : Type} : DataW H → Nat
  | .lit (.string bytes) => bytes.length + 1
  | .lit _ => 1
  | .nil => 1
  | .ptr d => uptoBulk d + 1
  | .slice elems spare => uptoBulkAll elems + uptoBulkAll spare + 1
  | .agg parts => uptoBulkAll parts + 1
  | .iface _ d => uptoBulk d + 1
  | .map entries => uptoBulkEntries entries + 1
  | .held _ => 1
def uptoBulkAll {H : Type} : List (DataW H) → Nat
  | [] => 0
  | d :: r => uptoBulk d + uptoBulkAll r
def uptoBulkEntries {H : Type} : List (Lit × DataW H) → Nat
  | [] => 0
  | x :: r => uptoBulkEntry x + uptoBulkEntries r
def uptoBulkEntry {H : Type} : Lit × DataW H → Nat
  | (.string bytes, d) => bytes.length + uptoBulk d + 1
  | (_, d) => uptoBulk d + 1
 end
def uptoSmall : (H : Type) → List (DataW H) → Bool := fun _ ds => decide (uptoBulkAll ds ≤ 1048576)
def OpenSpec.upto (s : _root_.Go.ChangeSpec) : _root_.Go.OpenSpec := { _root_.Go.OpenSpec.ofChange s with cond := some uptoSmall }

/-- 'fairlinklaw12.LinkMemory', WHERE WHAT IT READS IS OF BULK AT MOST 1048576: true; the input reads as it did. -/
def linkMemoryUptoRow : OpenClaim := { program := "ytckdblgobmofgaagreatdoor", sum := "416ca9c5ce945a45dcf2608f92ffa695fcb5da814412153715b27545df38c83e", func := "fairlink/fairlinklaw12.LinkMemory", spec := "linkMemory", unfollowed := true, recurses := true, named := ["fairlink/linecode.valid", "fairlink/crc.remainders"], apart := false, laid := [("fairlink/linecode.valid", laid_fairlink_linecode_valid), ("fairlink/crc.remainders", laid_fairlink_crc_remainders)], narrowed := true }
def LinkMemoryUptoSaid : Prop := linkMemoryUptoRow.holds Tryz.pinned (OpenSpec.upto linkMemorySpec)

/-- 'fairlinklaw12.LinkRoom', WHERE WHAT IT READS IS OF BULK AT MOST 1048576: true; the input reads as it did. -/
def linkRoomUptoRow : OpenClaim := { program := "ytckdblgobmofgaagreatdoor", sum := "416ca9c5ce945a45dcf2608f92ffa695fcb5da814412153715b27545df38c83e", func := "fairlink/fairlinklaw12.LinkRoom", spec := "linkRoom", unfollowed := true, recurses := true, named := ["fairlink/linecode.valid", "fairlink/crc.remainders"], apart := false, laid := [("fairlink/linecode.valid", laid_fairlink_linecode_valid), ("fairlink/crc.remainders", laid_fairlink_crc_remainders)], narrowed := true }
def LinkRoomUptoSaid : Prop := linkRoomUptoRow.holds Tryz.pinned (OpenSpec.upto linkRoomSpec)

/-- 'fairlinklaw12.LinkWakes', WHERE WHAT IT READS IS OF BULK AT MOST 1048576: true; the input reads as it did. -/
def linkWakesUptoRow : OpenClaim := { program := "ytckdblgobmofgaagreatdoor", sum := "416ca9c5ce945a45dcf2608f92ffa695fcb5da814412153715b27545df38c83e", func := "fairlink/fairlinklaw12.LinkWakes", spec := "linkWakes", unfollowed := true, recurses := true, named := ["fairlink/linecode.valid", "fairlink/crc.remainders"], apart := false, laid := [("fairlink/linecode.valid", laid_fairlink_linecode_valid), ("fairlink/crc.remainders", laid_fairlink_crc_remainders)], narrowed := true }
def LinkWakesUptoSaid : Prop := linkWakesUptoRow.holds Tryz.pinned (OpenSpec.upto linkWakesSpec)

/-- 'fairlinklaw12.LinkExact', WHERE WHAT IT READS IS OF BULK AT MOST 1048576: true; the input reads as it did. -/
def linkExactUptoRow : OpenClaim := { program := "ytckdblgobmofgaagreatdoor", sum := "416ca9c5ce945a45dcf2608f92ffa695fcb5da814412153715b27545df38c83e", func := "fairlink/fairlinklaw12.LinkExact", spec := "linkExact", unfollowed := true, recurses := true, named := ["fairlink/linecode.valid", "fairlink/crc.remainders"], apart := false, laid := [("fairlink/linecode.valid", laid_fairlink_linecode_valid), ("fairlink/crc.remainders", laid_fairlink_crc_remainders)], narrowed := true }
def LinkExactUptoSaid : Prop := linkExactUptoRow.holds Tryz.pinned (OpenSpec.upto linkExactSpec)

/-- 'fairlinklaw12.LinkErrors', WHERE WHAT IT READS IS OF BULK AT MOST 1048576: true; the input reads as it did. -/
def linkErrorsUptoRow : OpenClaim := { program := "ytckdblgobmofgaagreatdoor", sum := "416ca9c5ce945a45dcf2608f92ffa695fcb5da814412153715b27545df38c83e", func := "fairlink/fairlinklaw12.LinkErrors", spec := "linkErrors", unfollowed := true, recurses := true, named := ["fairlink/linecode.valid", "fairlink/crc.remainders"], apart := false, laid := [("fairlink/linecode.valid", laid_fairlink_linecode_valid), ("fairlink/crc.remainders", laid_fairlink_crc_remainders)], narrowed := true }
def LinkErrorsUptoSaid : Prop := linkErrorsUptoRow.holds Tryz.pinned (OpenSpec.upto linkErrorsSpec)

/-- 'fairlinklaw12.LinkPlays', WHERE WHAT IT READS IS OF BULK AT MOST 1048576: true; the input reads as it did. -/
def linkPlaysUptoRow : OpenClaim := { program := "ytckdblgobmofgaagreatdoor", sum := "416ca9c5ce945a45dcf2608f92ffa695fcb5da814412153715b27545df38c83e", func := "fairlink/fairlinklaw12.LinkPlays", spec := "linkPlays", unfollowed := true, recurses := true, named := ["fairlink/linecode.valid", "fairlink/crc.remainders"], apart := false, laid := [("fairlink/linecode.valid", laid_fairlink_linecode_valid), ("fairlink/crc.remainders", laid_fairlink_crc_remainders)], narrowed := true }
def LinkPlaysUptoSaid : Prop := linkPlaysUptoRow.holds Tryz.pinned (OpenSpec.upto linkPlaysSpec)

/-- 'fairlinklaw12.LinkCompletes', WHERE WHAT IT READS IS OF BULK AT MOST 1048576: true; the input reads as it did. -/
def linkCompletesUptoRow : OpenClaim := { program := "ytckdblgobmofgaagreatdoor", sum := "416ca9c5ce945a45dcf2608f92ffa695fcb5da814412153715b27545df38c83e", func := "fairlink/fairlinklaw12.LinkCompletes", spec := "linkCompletes", unfollowed := true, recurses := true, named := ["fairlink/linecode.valid", "fairlink/crc.remainders"], apart := false, laid := [("fairlink/linecode.valid", laid_fairlink_linecode_valid), ("fairlink/crc.remainders", laid_fairlink_crc_remainders)], narrowed := true }
def LinkCompletesUptoSaid : Prop := linkCompletesUptoRow.holds Tryz.pinned (OpenSpec.upto linkCompletesSpec)

/-- 'fairlinklaw12.LinkReturns', WHERE WHAT IT READS IS OF BULK AT MOST 1048576: true; the input reads as it did. -/
def linkReturnsUptoRow : OpenClaim := { program := "ytckdblgobmofgaagreatdoor", sum := "416ca9c5ce945a45dcf2608f92ffa695fcb5da814412153715b27545df38c83e", func := "fairlink/fairlinklaw12.LinkReturns", spec := "linkReturns", unfollowed := true, recurses := true, named := ["fairlink/linecode.valid", "fairlink/crc.remainders"], apart := false, laid := [("fairlink/linecode.valid", laid_fairlink_linecode_valid), ("fairlink/crc.remainders", laid_fairlink_crc_remainders)], narrowed := true }
def LinkReturnsUptoSaid : Prop := linkReturnsUptoRow.holds Tryz.pinned (OpenSpec.upto linkReturnsSpec)

end Rows
end Go.Proofs.YtckdblgobmofgaaGreatDoor
