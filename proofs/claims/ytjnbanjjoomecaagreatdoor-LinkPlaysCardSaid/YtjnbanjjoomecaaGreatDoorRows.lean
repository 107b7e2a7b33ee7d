/-
  NARROWER THAN 'FOR EVERY INPUT', by the rows' own cells (each row's printed sentence says how): LinkPlays: laid.
  DERIVED. THE GIVEN ROWS OF THIS SEAT. 1 by the template 'for every input the law returns true; each argument reads behind the call as it read before'; 0 by the template 'total and deterministic' (their statements: YtjnbanjjoomecaaGreatDoorTotals.lean).
  GIVEN WITH THE SEED: the statements are not yours to turn. If you find one false, say at which input.
  Laid BY PROGRAM, IN A SANDBOX (cutbox-rows.mjs): the forced cells as the released guide's own fill.sh prints them over the translation 1b8ed85e5f773a8a… (all of the seat's roots in one cut). By AI agents, Wed Nov 11 2026. No macro, syntax, notation, axiom, sorry.
-/
import Derived.Test.YtjnbanjjoomecaaGreatDoorChecked
import GoSem.Claim
import GoSem.ClaimJoined
import GoSem.ClaimMapViews
import Derived.JoinedTies
import Derived.KernelRfl
namespace Go.Proofs.YtjnbanjjoomecaaGreatDoor
/- THE CELL 'sum', in the pinned program and in every row, IS THE sha256 OF THE DUMP (.gsa) THAT YtjnbanjjoomecaaGreatDoorProg.lean LOADS. Nothing in Lean hashes anything: it is a label: what it is worth is what the hold of that sum in a sandbox is worth. -/
noncomputable def Tryz.pinned : Pinned := { name := "ytjnbanjjoomecaagreatdoor", sum := "1b8ed85e5f773a8a2b5d413df6576bb776c1af5de5c4b3588fbc96bd25a6f39a", checked := Tryz.checked }
namespace Rows
def none {H : Type} : Left H := { results := [], args := [] }

/- WHAT THE LISTED PACKAGE-LEVEL VARIABLES READ AS WHEN THE CALL BEGINS. Each datum BY PROGRAM (the guide's laid-datum.mjs) off the statement by which the dump's own 'gosem.cut.vars' lays the variable. In a bare row this is a premise. The card (YtjnbanjjoomecaaGreatDoorCards.lean) ties it to the program's text. -/
def laid_fairlink_linecode_valid {H : Type} : DataW H := .agg [.lit (.int .u8 7), .lit (.int .u8 11), .lit (.int .u8 13), .lit (.int .u8 14), .lit (.int .u8 19), .lit (.int .u8 21), .lit (.int .u8 22), .lit (.int .u8 25), .lit (.int .u8 26), .lit (.int .u8 28), .lit (.int .u8 35), .lit (.int .u8 37), .lit (.int .u8 38), .lit (.int .u8 41), .lit (.int .u8 42), .lit (.int .u8 44), .lit (.int .u8 49), .lit (.int .u8 50), .lit (.int .u8 52), .lit (.int .u8 56)]
def laid_fairlink_crc_remainders {H : Type} : DataW H := .agg [.lit (.int .u32 0), .lit (.int .u32 498536548), .lit (.int .u32 997073096), .lit (.int .u32 651767980), .lit (.int .u32 1994146192), .lit (.int .u32 1802195444), .lit (.int .u32 1303535960), .lit (.int .u32 1342533948), .lit (.int .u32 3988292384), .lit (.int .u32 4027552580), .lit (.int .u32 3604390888), .lit (.int .u32 3412177804), .lit (.int .u32 2607071920), .lit (.int .u32 2262029012), .lit (.int .u32 2685067896), .lit (.int .u32 3183342108)]

/-- 'fairlinklaw12.LinkPlays': WHATEVER THE INPUT: true; the input reads as it did. -/
def linkPlaysSpec : ChangeSpec := { name := "linkPlays", fn := fun _ => fun
  | [d1, d2] => { results := [.lit (.bool true)], args := [d1, d2] }
  | _ => none }
def linkPlaysRow : OpenClaim := { program := "ytjnbanjjoomecaagreatdoor", sum := "1b8ed85e5f773a8a2b5d413df6576bb776c1af5de5c4b3588fbc96bd25a6f39a", func := "fairlink/fairlinklaw12.LinkPlays", spec := "linkPlays", unfollowed := true, recurses := true, named := ["fairlink/linecode.valid", "fairlink/crc.remainders"], apart := false, laid := [("fairlink/linecode.valid", laid_fairlink_linecode_valid), ("fairlink/crc.remainders", laid_fairlink_crc_remainders)] }
def LinkPlaysSaid : Prop := linkPlaysRow.holds Tryz.pinned (OpenSpec.ofChange linkPlaysSpec)

/-- ITS FALSE NEIGHBOUR: 'it returns false'. Refute it at one input. -/
def linkPlaysWrong : ChangeSpec := { name := "linkPlays", fn := fun _ => fun
  | [d1, d2] => { results := [.lit (.bool false)], args := [d1, d2] }
  | _ => none }
def LinkPlaysWrongFalsely : Prop := linkPlaysRow.holds Tryz.pinned (OpenSpec.ofChange linkPlaysWrong)

/- THE SECOND FORM. 'bulk': how many values and letters a reading holds, each counted each time it is reached (what is shared counts as often as it is met; a slice's spare places count too). A statement '..UptoSaid' is the law's where the arguments, and the package variables that the reading takes, are together of bulk at most 1048576: NARROWER than '..Said'. Prove '..Said' where nothing that the law and all that it calls make is longer than what came in: it says more and counts as full. Else prove '..UptoSaid'. A law counts once. -/
mutual
def uptoBulk {H : Type} : DataW H → Nat
  | .lit (.string bytes) => bytes.length + 1
  | .lit _ => 1
  | .nil => 1
  | .ptr d => uptoBulk d + 1
  | .slice elems spare => uptoBulkAll elems + uptoBulkAll spare + 1
  | .agg parts => uptoBulkAll parts + 1
  | .iface _ d => uptoBulk d + 1
  | .map entries => uptoBulkEntries entries + 1
  | .held _ => 1
def uptoBulkAll {H : Type} : List (DataW H) → Nat
  | [] => 0
  | d :: r => uptoBulk d + uptoBulkAll r
def uptoBulkEntries {H : Type} : List (Lit × DataW H) → Nat
  | [] => 0
  | x :: r => uptoBulkEntry x + uptoBulkEntries r
def uptoBulkEntry {H : Type} : Lit × DataW H → Nat
  | (.string bytes, d) => bytes.length + uptoBulk d + 1
  | (_, d) => uptoBulk d + 1
 end
def uptoSmall : (H : Type) → List (DataW H) → Bool := fun _ ds => decide (uptoBulkAll ds ≤ 1048576)
def OpenSpec.upto (s : _root_.Go.ChangeSpec) : _root_.Go.OpenSpec := { _root_.Go.OpenSpec.ofChange s with cond := some uptoSmall }

/-- 'fairlinklaw12.LinkPlays', WHERE WHAT IT READS IS OF BULK AT MOST 1048576: true; the input reads as it did. -/
def linkPlaysUptoRow : OpenClaim := { program := "ytjnbanjjoomecaagreatdoor", sum := "1b8ed85e5f773a8a2b5d413df6576bb776c1af5de5c4b3588fbc96bd25a6f39a", func := "fairlink/fairlinklaw12.LinkPlays", spec := "linkPlays", unfollowed := true, recurses := true, named := ["fairlink/linecode.valid", "fairlink/crc.remainders"], apart := false, laid := [("fairlink/linecode.valid", laid_fairlink_linecode_valid), ("fairlink/crc.remainders", laid_fairlink_crc_remainders)], narrowed := true }
def LinkPlaysUptoSaid : Prop := linkPlaysUptoRow.holds Tryz.pinned (OpenSpec.upto linkPlaysSpec)

end Rows
end Go.Proofs.YtjnbanjjoomecaaGreatDoor
