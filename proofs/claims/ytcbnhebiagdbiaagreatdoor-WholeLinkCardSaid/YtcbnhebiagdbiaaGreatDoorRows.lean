/-
  NARROWER THAN 'FOR EVERY INPUT', by the rows' own cells (each row's printed sentence says how): WholeLink: laid · LinkMemory: laid · LinkErrors: laid · LinkPlays: laid · LinkReturns: laid.
  DERIVED. THE GIVEN ROWS OF THIS SEAT. 5 by the template 'for every input the law returns true; each argument reads behind the call as it read before'; 0 by the template 'total and deterministic' (their statements: YtcbnhebiagdbiaaGreatDoorTotals.lean).
  GIVEN WITH THE SEED: the statements are not yours to turn. If you find one false, say at which input.
  Laid BY PROGRAM, IN A SANDBOX (cutbox-rows.mjs): the forced cells as the released guide's own fill.sh prints them over the translation f7a40df014d67146… (all of the seat's roots in one cut). By AI agents, Wed Nov 11 2026. No macro, syntax, notation, axiom, sorry.
-/
import Derived.Test.YtcbnhebiagdbiaaGreatDoorChecked
import GoSem.Claim
import GoSem.ClaimJoined
import GoSem.ClaimMapViews
import Derived.JoinedTies
import Derived.KernelRfl
namespace Go.Proofs.YtcbnhebiagdbiaaGreatDoor
/- THE CELL 'sum', in the pinned program and in every row, IS THE sha256 OF THE DUMP (.gsa) THAT YtcbnhebiagdbiaaGreatDoorProg.lean LOADS. Nothing in Lean hashes anything: it is a label: what it is worth is what the hold of that sum in a sandbox is worth. -/
noncomputable def Tryz.pinned : Pinned := { name := "ytcbnhebiagdbiaagreatdoor", sum := "f7a40df014d671465bbff375995bdb329805cb7ac529e0e02006494a59ba7aff", checked := Tryz.checked }
namespace Rows
def none {H : Type} : Left H := { results := [], args := [] }

/- WHAT THE LISTED PACKAGE-LEVEL VARIABLES READ AS WHEN THE CALL BEGINS. Each datum BY PROGRAM (the guide's laid-datum.mjs) off the statement by which the dump's own 'gosem.cut.vars' lays the variable. In a bare row this is a premise. The card (YtcbnhebiagdbiaaGreatDoorCards.lean) ties it to the program's text. -/
def laid_fairlink_linecode_valid {H : Type} : DataW H := .agg [.lit (.int .u8 7), .lit (.int .u8 11), .lit (.int .u8 13), .lit (.int .u8 14), .lit (.int .u8 19), .lit (.int .u8 21), .lit (.int .u8 22), .lit (.int .u8 25), .lit (.int .u8 26), .lit (.int .u8 28), .lit (.int .u8 35), .lit (.int .u8 37), .lit (.int .u8 38), .lit (.int .u8 41), .lit (.int .u8 42), .lit (.int .u8 44), .lit (.int .u8 49), .lit (.int .u8 50), .lit (.int .u8 52), .lit (.int .u8 56)]
def laid_fairlink_crc_remainders {H : Type} : DataW H := .agg [.lit (.int .u32 0), .lit (.int .u32 498536548), .lit (.int .u32 997073096), .lit (.int .u32 651767980), .lit (.int .u32 1994146192), .lit (.int .u32 1802195444), .lit (.int .u32 1303535960), .lit (.int .u32 1342533948), .lit (.int .u32 3988292384), .lit (.int .u32 4027552580), .lit (.int .u32 3604390888), .lit (.int .u32 3412177804), .lit (.int .u32 2607071920), .lit (.int .u32 2262029012), .lit (.int .u32 2685067896), .lit (.int .u32 3183342108)]

/-- 'fairlinktop.WholeLink': WHATEVER THE INPUT: true; the input reads as it did. -/
def wholeLinkSpec : ChangeSpec := { name := "wholeLink", fn := fun _ => fun
  | [d1, d2] => { results := [.lit (.bool true)], args := [d1, d2] }
  | _ => none }
def wholeLinkRow : OpenClaim := { program := "ytcbnhebiagdbiaagreatdoor", sum := "f7a40df014d671465bbff375995bdb329805cb7ac529e0e02006494a59ba7aff", func := "fairlink/fairlinktop.WholeLink", spec := "wholeLink", inPlace := ["math/bits.Add64", "math/bits.Sub64"], unfollowed := true, recurses := true, named := ["math/bits.divideError", "math/bits.overflowError", "fairlink/linecode.valid", "fairlink/crc.remainders"], apart := false, laid := [("fairlink/linecode.valid", laid_fairlink_linecode_valid), ("fairlink/crc.remainders", laid_fairlink_crc_remainders)] }
def WholeLinkSaid : Prop := wholeLinkRow.holds Tryz.pinned (OpenSpec.ofChange wholeLinkSpec)

/-- ITS FALSE NEIGHBOUR: 'it returns false'. Refute it at one input. -/
def wholeLinkWrong : ChangeSpec := { name := "wholeLink", fn := fun _ => fun
  | [d1, d2] => { results := [.lit (.bool false)], args := [d1, d2] }
  | _ => none }
def WholeLinkWrongFalsely : Prop := wholeLinkRow.holds Tryz.pinned (OpenSpec.ofChange wholeLinkWrong)

/-- 'fairlinklaw12.LinkMemory': WHATEVER THE INPUT: true; the input reads as it did. -/
def linkMemorySpec : ChangeSpec := { name := "linkMemory", fn := fun _ => fun
  | [d] => { results := [.lit (.bool true)], args := [d] }
  | _ => none }
def linkMemoryRow : OpenClaim := { program := "ytcbnhebiagdbiaagreatdoor", sum := "f7a40df014d671465bbff375995bdb329805cb7ac529e0e02006494a59ba7aff", func := "fairlink/fairlinklaw12.LinkMemory", spec := "linkMemory", unfollowed := true, recurses := true, named := ["fairlink/linecode.valid", "fairlink/crc.remainders"], apart := false, laid := [("fairlink/linecode.valid", laid_fairlink_linecode_valid), ("fairlink/crc.remainders", laid_fairlink_crc_remainders)] }
def LinkMemorySaid : Prop := linkMemoryRow.holds Tryz.pinned (OpenSpec.ofChange linkMemorySpec)

/-- ITS FALSE NEIGHBOUR: 'it returns false'. Refute it at one input. -/
def linkMemoryWrong : ChangeSpec := { name := "linkMemory", fn := fun _ => fun
  | [d] => { results := [.lit (.bool false)], args := [d] }
  | _ => none }
def LinkMemoryWrongFalsely : Prop := linkMemoryRow.holds Tryz.pinned (OpenSpec.ofChange linkMemoryWrong)

/-- 'fairlinklaw12.LinkErrors': WHATEVER THE INPUT: true; the input reads as it did. -/
def linkErrorsSpec : ChangeSpec := { name := "linkErrors", fn := fun _ => fun
  | [d1, d2, d3, d4] => { results := [.lit (.bool true)], args := [d1, d2, d3, d4] }
  | _ => none }
def linkErrorsRow : OpenClaim := { program := "ytcbnhebiagdbiaagreatdoor", sum := "f7a40df014d671465bbff375995bdb329805cb7ac529e0e02006494a59ba7aff", func := "fairlink/fairlinklaw12.LinkErrors", spec := "linkErrors", unfollowed := true, recurses := true, named := ["fairlink/linecode.valid", "fairlink/crc.remainders"], apart := false, laid := [("fairlink/linecode.valid", laid_fairlink_linecode_valid), ("fairlink/crc.remainders", laid_fairlink_crc_remainders)] }
def LinkErrorsSaid : Prop := linkErrorsRow.holds Tryz.pinned (OpenSpec.ofChange linkErrorsSpec)

/-- ITS FALSE NEIGHBOUR: 'it returns false'. Refute it at one input. -/
def linkErrorsWrong : ChangeSpec := { name := "linkErrors", fn := fun _ => fun
  | [d1, d2, d3, d4] => { results := [.lit (.bool false)], args := [d1, d2, d3, d4] }
  | _ => none }
def LinkErrorsWrongFalsely : Prop := linkErrorsRow.holds Tryz.pinned (OpenSpec.ofChange linkErrorsWrong)

/-- 'fairlinklaw12.LinkPlays': WHATEVER THE INPUT: true; the input reads as it did. -/
def linkPlaysSpec : ChangeSpec := { name := "linkPlays", fn := fun _ => fun
  | [d1, d2] => { results := [.lit (.bool true)], args := [d1, d2] }
  | _ => none }
def linkPlaysRow : OpenClaim := { program := "ytcbnhebiagdbiaagreatdoor", sum := "f7a40df014d671465bbff375995bdb329805cb7ac529e0e02006494a59ba7aff", func := "fairlink/fairlinklaw12.LinkPlays", spec := "linkPlays", unfollowed := true, recurses := true, named := ["fairlink/linecode.valid", "fairlink/crc.remainders"], apart := false, laid := [("fairlink/linecode.valid", laid_fairlink_linecode_valid), ("fairlink/crc.remainders", laid_fairlink_crc_remainders)] }
def LinkPlaysSaid : Prop := linkPlaysRow.holds Tryz.pinned (OpenSpec.ofChange linkPlaysSpec)

/-- ITS FALSE NEIGHBOUR: 'it returns false'. Refute it at one input. -/
def linkPlaysWrong : ChangeSpec := { name := "linkPlays", fn := fun _ => fun
  | [d1, d2] => { results := [.lit (.bool false)], args := [d1, d2] }
  | _ => none }
def LinkPlaysWrongFalsely : Prop := linkPlaysRow.holds Tryz.pinned (OpenSpec.ofChange linkPlaysWrong)

/-- 'fairlinklaw12.LinkReturns': WHATEVER THE INPUT: true; the input reads as it did. -/
def linkReturnsSpec : ChangeSpec := { name := "linkReturns", fn := fun _ => fun
  | [d1, d2, d3, d4] => { results := [.lit (.bool true)], args := [d1, d2, d3, d4] }
  | _ => none }
def linkReturnsRow : OpenClaim := { program := "ytcbnhebiagdbiaagreatdoor", sum := "f7a40df014d671465bbff375995bdb329805cb7ac529e0e02006494a59ba7aff", func := "fairlink/fairlinklaw12.LinkReturns", spec := "linkReturns", unfollowed := true, recurses := true, named := ["fairlink/linecode.valid", "fairlink/crc.remainders"], apart := false, laid := [("fairlink/linecode.valid", laid_fairlink_linecode_valid), ("fairlink/crc.remainders", laid_fairlink_crc_remainders)] }
def LinkReturnsSaid : Prop := linkReturnsRow.holds Tryz.pinned (OpenSpec.ofChange linkReturnsSpec)

/-- ITS FALSE NEIGHBOUR: 'it returns false'. Refute it at one input. -/
def linkReturnsWrong : ChangeSpec := { name := "linkReturns", fn := fun _ => fun
  | [d1, d2, d3, d4] => { results := [.lit (.bool false)], args := [d1, d2, d3, d4] }
  | _ => none }
def LinkReturnsWrongFalsely : Prop := linkReturnsRow.holds Tryz.pinned (OpenSpec.ofChange linkReturnsWrong)

/- THE SECOND FORM. 'bulk': how many values and letters a reading holds, each counted each time it is reached (what is shared counts as often as it is met; a slice's spare places count too). A statement '..UptoSaid' is the law's where the arguments, and the package variables that the reading takes, are together of bulk at most 1048576: NARROWER than '..Said'. Prove '..Said' where nothing that the law and all that it calls make is longer than what came in: it says more and counts as full. Else prove '..UptoSaid'. A law counts once. -/
mutual
def uptoBulk {H : Type} : DataW H → Nat
  | .lit (.string bytes) => bytes.length + 1
  | .lit _ => 1
  | .nil => 1
  | .ptr d => uptoBulk d + 1
  | .slice elems spare => uptoBulkAll elems + uptoBulkAll spare + 1
  | .agg parts => uptoBulkAll parts + 1
  | .iface _ d => uptoBulk d + 1
  | .map entries => uptoBulkEntries entries + 1
  | .held _ => 1
def uptoBulkAll {H : Type} : List (DataW H) → Nat
  | [] => 0
  | d :: r => uptoBulk d + uptoBulkAll r
def uptoBulkEntries {H : Type} : List (Lit × DataW H) → Nat
  | [] => 0
  | x :: r => uptoBulkEntry x + uptoBulkEntries r
def uptoBulkEntry {H : Type} : Lit × DataW H → Nat
  | (.string bytes, d) => bytes.length + uptoBulk d + 1
  | (_, d) => uptoBulk d + 1
 end
def uptoSmall : (H : Type) → List (DataW H) → Bool := fun _ ds => decide (uptoBulkAll ds ≤ 1048576)
def OpenSpec.upto (s : _root_.Go.ChangeSpec) : _root_.Go.OpenSpec := { _root_.Go.OpenSpec.ofChange s with cond := some uptoSmall }

/-- 'fairlinktop.WholeLink', WHERE WHAT IT READS IS OF BULK AT MOST 1048576: true; the input reads as it did. -/
def wholeLinkUptoRow : OpenClaim := { program := "ytcbnhebiagdbiaagreatdoor", sum := "f7a40df014d671465bbff375995bdb329805cb7ac529e0e02006494a59ba7aff", func := "fairlink/fairlinktop.WholeLink", spec := "wholeLink", inPlace := ["math/bits.Add64", "math/bits.Sub64"], unfollowed := true, recurses := true, named := ["math/bits.divideError", "math/bits.overflowError", "fairlink/linecode.valid", "fairlink/crc.remainders"], apart := false, laid := [("fairlink/linecode.valid", laid_fairlink_linecode_valid), ("fairlink/crc.remainders", laid_fairlink_crc_remainders)], narrowed := true }
def WholeLinkUptoSaid : Prop := wholeLinkUptoRow.holds Tryz.pinned (OpenSpec.upto wholeLinkSpec)

/-- 'fairlinklaw12.LinkMemory', WHERE WHAT IT READS IS OF BULK AT MOST 1048576: true; the input reads as it did. -/
def linkMemoryUptoRow : OpenClaim := { program := "ytcbnhebiagdbiaagreatdoor", sum := "f7a40df014d671465bbff375995bdb329805cb7ac529e0e02006494a59ba7aff", func := "fairlink/fairlinklaw12.LinkMemory", spec := "linkMemory", unfollowed := true, recurses := true, named := ["fairlink/linecode.valid", "fairlink/crc.remainders"], apart := false, laid := [("fairlink/linecode.valid", laid_fairlink_linecode_valid), ("fairlink/crc.remainders", laid_fairlink_crc_remainders)], narrowed := true }
def LinkMemoryUptoSaid : Prop := linkMemoryUptoRow.holds Tryz.pinned (OpenSpec.upto linkMemorySpec)

/-- 'fairlinklaw12.LinkErrors', WHERE WHAT IT READS IS OF BULK AT MOST 1048576: true; the input reads as it did. -/
def linkErrorsUptoRow : OpenClaim := { program := "ytcbnhebiagdbiaagreatdoor", sum := "f7a40df014d671465bbff375995bdb329805cb7ac529e0e02006494a59ba7aff", func := "fairlink/fairlinklaw12.LinkErrors", spec := "linkErrors", unfollowed := true, recurses := true, named := ["fairlink/linecode.valid", "fairlink/crc.remainders"], apart := false, laid := [("fairlink/linecode.valid", laid_fairlink_linecode_valid), ("fairlink/crc.remainders", laid_fairlink_crc_remainders)], narrowed := true }
def LinkErrorsUptoSaid : Prop := linkErrorsUptoRow.holds Tryz.pinned (OpenSpec.upto linkErrorsSpec)

/-- 'fairlinklaw12.LinkPlays', WHERE WHAT IT READS IS OF BULK AT MOST 1048576: true; the input reads as it did. -/
def linkPlaysUptoRow : OpenClaim := { program := "ytcbnhebiagdbiaagreatdoor", sum := "f7a40df014d671465bbff375995bdb329805cb7ac529e0e02006494a59ba7aff", func := "fairlink/fairlinklaw12.LinkPlays", spec := "linkPlays", unfollowed := true, recurses := true, named := ["fairlink/linecode.valid", "fairlink/crc.remainders"], apart := false, laid := [("fairlink/linecode.valid", laid_fairlink_linecode_valid), ("fairlink/crc.remainders", laid_fairlink_crc_remainders)], narrowed := true }
def LinkPlaysUptoSaid : Prop := linkPlaysUptoRow.holds Tryz.pinned (OpenSpec.upto linkPlaysSpec)

/-- 'fairlinklaw12.LinkReturns', WHERE WHAT IT READS IS OF BULK AT MOST 1048576: true; the input reads as it did. -/
def linkReturnsUptoRow : OpenClaim := { program := "ytcbnhebiagdbiaagreatdoor", sum := "f7a40df014d671465bbff375995bdb329805cb7ac529e0e02006494a59ba7aff", func := "fairlink/fairlinklaw12.LinkReturns", spec := "linkReturns", unfollowed := true, recurses := true, named := ["fairlink/linecode.valid", "fairlink/crc.remainders"], apart := false, laid := [("fairlink/linecode.valid", laid_fairlink_linecode_valid), ("fairlink/crc.remainders", laid_fairlink_crc_remainders)], narrowed := true }
def LinkReturnsUptoSaid : Prop := linkReturnsUptoRow.holds Tryz.pinned (OpenSpec.upto linkReturnsSpec)

end Rows
end Go.Proofs.YtcbnhebiagdbiaaGreatDoor
