/-
  NARROWER THAN 'FOR EVERY INPUT', by the rows' own cells (each row's printed sentence says how): FrameEncodes: laid · FrameDecodes: laid · FrameReturns: laid · FrameCuts: laid · FrameDamage: laid · FrameScans: laid · FrameLong: laid · FrameStream: laid · FrameFlips: laid · FrameRecovers: laid.
  DERIVED. THE GIVEN ROWS OF THIS SEAT. 10 by the template 'for every input the law returns true; each argument reads behind the call as it read before'; 0 by the template 'total and deterministic' (their statements: YtdmfjmdnkfeljaaDoorTotals.lean).
  GIVEN WITH THE SEED: the statements are not yours to turn. If you find one false, say at which input.
  Laid BY PROGRAM, IN A SANDBOX (cutbox-rows.mjs): the forced cells as the released guide's own fill.sh prints them over the translation 40a3ca302bfd0357… (all of the seat's roots in one cut). By AI agents, Wed Nov 11 2026. No macro, syntax, notation, axiom, sorry.
-/
import Derived.Test.YtdmfjmdnkfeljaaDoorChecked
import GoSem.Claim
import GoSem.ClaimJoined
import GoSem.ClaimMapViews
import Derived.JoinedTies
import Derived.KernelRfl
namespace Go.Proofs.YtdmfjmdnkfeljaaDoor
/- THE CELL 'sum', in the pinned program and in every row, IS THE sha256 OF THE DUMP (.gsa) THAT YtdmfjmdnkfeljaaDoorProg.lean LOADS. Nothing in Lean hashes anything: it is a label: what it is worth is what the hold of that sum in a sandbox is worth. -/
noncomputable def Tryd.pinned : Pinned := { name := "ytdmfjmdnkfeljaadoor", sum := "40a3ca302bfd0357ecde4d5dddcd2b7513e8a7f08af08cf0d699aa935ff3dd91", checked := Tryd.checked }
namespace Rows
def none {H : Type} : Left H := { results := [], args := [] }

/- WHAT THE LISTED PACKAGE-LEVEL VARIABLES READ AS WHEN THE CALL BEGINS. Each datum BY PROGRAM (the guide's laid-datum.mjs) off the statement by which the dump's own 'gosem.cut.vars' lays the variable. In a bare row this is a premise. The card (YtdmfjmdnkfeljaaDoorCards.lean) ties it to the program's text. -/
def laid_fairlink_linecode_valid {H : Type} : DataW H := .agg [.lit (.int .u8 7), .lit (.int .u8 11), .lit (.int .u8 13), .lit (.int .u8 14), .lit (.int .u8 19), .lit (.int .u8 21), .lit (.int .u8 22), .lit (.int .u8 25), .lit (.int .u8 26), .lit (.int .u8 28), .lit (.int .u8 35), .lit (.int .u8 37), .lit (.int .u8 38), .lit (.int .u8 41), .lit (.int .u8 42), .lit (.int .u8 44), .lit (.int .u8 49), .lit (.int .u8 50), .lit (.int .u8 52), .lit (.int .u8 56)]
def laid_fairlink_crc_remainders {H : Type} : DataW H := .agg [.lit (.int .u32 0), .lit (.int .u32 498536548), .lit (.int .u32 997073096), .lit (.int .u32 651767980), .lit (.int .u32 1994146192), .lit (.int .u32 1802195444), .lit (.int .u32 1303535960), .lit (.int .u32 1342533948), .lit (.int .u32 3988292384), .lit (.int .u32 4027552580), .lit (.int .u32 3604390888), .lit (.int .u32 3412177804), .lit (.int .u32 2607071920), .lit (.int .u32 2262029012), .lit (.int .u32 2685067896), .lit (.int .u32 3183342108)]

/-- 'fairlinklaw04.FrameEncodes': WHATEVER THE INPUT: true; the input reads as it did. -/
def frameEncodesSpec : ChangeSpec := { name := "frameEncodes", fn := fun _ => fun
  | [d] => { results := [.lit (.bool true)], args := [d] }
  | _ => none }
def frameEncodesRow : OpenClaim := { program := "ytdmfjmdnkfeljaadoor", sum := "40a3ca302bfd0357ecde4d5dddcd2b7513e8a7f08af08cf0d699aa935ff3dd91", func := "fairlink/fairlinklaw04.FrameEncodes", spec := "frameEncodes", named := ["fairlink/crc.remainders", "fairlink/linecode.valid"], apart := false, laid := [("fairlink/linecode.valid", laid_fairlink_linecode_valid), ("fairlink/crc.remainders", laid_fairlink_crc_remainders)] }
def FrameEncodesSaid : Prop := frameEncodesRow.holds Tryd.pinned (OpenSpec.ofChange frameEncodesSpec)

/-- ITS FALSE NEIGHBOUR: 'it returns false'. Refute it at one input. -/
def frameEncodesWrong : ChangeSpec := { name := "frameEncodes", fn := fun _ => fun
  | [d] => { results := [.lit (.bool false)], args := [d] }
  | _ => none }
def FrameEncodesWrongFalsely : Prop := frameEncodesRow.holds Tryd.pinned (OpenSpec.ofChange frameEncodesWrong)

/-- 'fairlinklaw04.FrameDecodes': WHATEVER THE INPUT: true; the input reads as it did. -/
def frameDecodesSpec : ChangeSpec := { name := "frameDecodes", fn := fun _ => fun
  | [d] => { results := [.lit (.bool true)], args := [d] }
  | _ => none }
def frameDecodesRow : OpenClaim := { program := "ytdmfjmdnkfeljaadoor", sum := "40a3ca302bfd0357ecde4d5dddcd2b7513e8a7f08af08cf0d699aa935ff3dd91", func := "fairlink/fairlinklaw04.FrameDecodes", spec := "frameDecodes", named := ["fairlink/crc.remainders", "fairlink/linecode.valid"], apart := false, laid := [("fairlink/linecode.valid", laid_fairlink_linecode_valid), ("fairlink/crc.remainders", laid_fairlink_crc_remainders)] }
def FrameDecodesSaid : Prop := frameDecodesRow.holds Tryd.pinned (OpenSpec.ofChange frameDecodesSpec)

/-- ITS FALSE NEIGHBOUR: 'it returns false'. Refute it at one input. -/
def frameDecodesWrong : ChangeSpec := { name := "frameDecodes", fn := fun _ => fun
  | [d] => { results := [.lit (.bool false)], args := [d] }
  | _ => none }
def FrameDecodesWrongFalsely : Prop := frameDecodesRow.holds Tryd.pinned (OpenSpec.ofChange frameDecodesWrong)

/-- 'fairlinklaw04.FrameReturns': WHATEVER THE INPUT: true; the input reads as it did. -/
def frameReturnsSpec : ChangeSpec := { name := "frameReturns", fn := fun _ => fun
  | [d1, d2] => { results := [.lit (.bool true)], args := [d1, d2] }
  | _ => none }
def frameReturnsRow : OpenClaim := { program := "ytdmfjmdnkfeljaadoor", sum := "40a3ca302bfd0357ecde4d5dddcd2b7513e8a7f08af08cf0d699aa935ff3dd91", func := "fairlink/fairlinklaw04.FrameReturns", spec := "frameReturns", named := ["fairlink/crc.remainders", "fairlink/linecode.valid"], apart := false, laid := [("fairlink/linecode.valid", laid_fairlink_linecode_valid), ("fairlink/crc.remainders", laid_fairlink_crc_remainders)] }
def FrameReturnsSaid : Prop := frameReturnsRow.holds Tryd.pinned (OpenSpec.ofChange frameReturnsSpec)

/-- ITS FALSE NEIGHBOUR: 'it returns false'. Refute it at one input. -/
def frameReturnsWrong : ChangeSpec := { name := "frameReturns", fn := fun _ => fun
  | [d1, d2] => { results := [.lit (.bool false)], args := [d1, d2] }
  | _ => none }
def FrameReturnsWrongFalsely : Prop := frameReturnsRow.holds Tryd.pinned (OpenSpec.ofChange frameReturnsWrong)

/-- 'fairlinklaw04.FrameCuts': WHATEVER THE INPUT: true; the input reads as it did. -/
def frameCutsSpec : ChangeSpec := { name := "frameCuts", fn := fun _ => fun
  | [d1, d2, d3] => { results := [.lit (.bool true)], args := [d1, d2, d3] }
  | _ => none }
def frameCutsRow : OpenClaim := { program := "ytdmfjmdnkfeljaadoor", sum := "40a3ca302bfd0357ecde4d5dddcd2b7513e8a7f08af08cf0d699aa935ff3dd91", func := "fairlink/fairlinklaw04.FrameCuts", spec := "frameCuts", named := ["fairlink/crc.remainders", "fairlink/linecode.valid"], apart := false, laid := [("fairlink/linecode.valid", laid_fairlink_linecode_valid), ("fairlink/crc.remainders", laid_fairlink_crc_remainders)] }
def FrameCutsSaid : Prop := frameCutsRow.holds Tryd.pinned (OpenSpec.ofChange frameCutsSpec)

/-- ITS FALSE NEIGHBOUR: 'it returns false'. Refute it at one input. -/
def frameCutsWrong : ChangeSpec := { name := "frameCuts", fn := fun _ => fun
  | [d1, d2, d3] => { results := [.lit (.bool false)], args := [d1, d2, d3] }
  | _ => none }
def FrameCutsWrongFalsely : Prop := frameCutsRow.holds Tryd.pinned (OpenSpec.ofChange frameCutsWrong)

/-- 'fairlinklaw04.FrameDamage': WHATEVER THE INPUT: true; the input reads as it did. -/
def frameDamageSpec : ChangeSpec := { name := "frameDamage", fn := fun _ => fun
  | [d1, d2, d3] => { results := [.lit (.bool true)], args := [d1, d2, d3] }
  | _ => none }
def frameDamageRow : OpenClaim := { program := "ytdmfjmdnkfeljaadoor", sum := "40a3ca302bfd0357ecde4d5dddcd2b7513e8a7f08af08cf0d699aa935ff3dd91", func := "fairlink/fairlinklaw04.FrameDamage", spec := "frameDamage", named := ["fairlink/crc.remainders", "fairlink/linecode.valid"], apart := false, laid := [("fairlink/linecode.valid", laid_fairlink_linecode_valid), ("fairlink/crc.remainders", laid_fairlink_crc_remainders)] }
def FrameDamageSaid : Prop := frameDamageRow.holds Tryd.pinned (OpenSpec.ofChange frameDamageSpec)

/-- ITS FALSE NEIGHBOUR: 'it returns false'. Refute it at one input. -/
def frameDamageWrong : ChangeSpec := { name := "frameDamage", fn := fun _ => fun
  | [d1, d2, d3] => { results := [.lit (.bool false)], args := [d1, d2, d3] }
  | _ => none }
def FrameDamageWrongFalsely : Prop := frameDamageRow.holds Tryd.pinned (OpenSpec.ofChange frameDamageWrong)

/-- 'fairlinklaw04.FrameScans': WHATEVER THE INPUT: true; the input reads as it did. -/
def frameScansSpec : ChangeSpec := { name := "frameScans", fn := fun _ => fun
  | [d] => { results := [.lit (.bool true)], args := [d] }
  | _ => none }
def frameScansRow : OpenClaim := { program := "ytdmfjmdnkfeljaadoor", sum := "40a3ca302bfd0357ecde4d5dddcd2b7513e8a7f08af08cf0d699aa935ff3dd91", func := "fairlink/fairlinklaw04.FrameScans", spec := "frameScans", named := ["fairlink/crc.remainders", "fairlink/linecode.valid"], apart := false, laid := [("fairlink/linecode.valid", laid_fairlink_linecode_valid), ("fairlink/crc.remainders", laid_fairlink_crc_remainders)] }
def FrameScansSaid : Prop := frameScansRow.holds Tryd.pinned (OpenSpec.ofChange frameScansSpec)

/-- ITS FALSE NEIGHBOUR: 'it returns false'. Refute it at one input. -/
def frameScansWrong : ChangeSpec := { name := "frameScans", fn := fun _ => fun
  | [d] => { results := [.lit (.bool false)], args := [d] }
  | _ => none }
def FrameScansWrongFalsely : Prop := frameScansRow.holds Tryd.pinned (OpenSpec.ofChange frameScansWrong)

/-- 'fairlinklaw04.FrameLong': WHATEVER THE INPUT: true; the input reads as it did. -/
def frameLongSpec : ChangeSpec := { name := "frameLong", fn := fun _ => fun
  | [d1, d2] => { results := [.lit (.bool true)], args := [d1, d2] }
  | _ => none }
def frameLongRow : OpenClaim := { program := "ytdmfjmdnkfeljaadoor", sum := "40a3ca302bfd0357ecde4d5dddcd2b7513e8a7f08af08cf0d699aa935ff3dd91", func := "fairlink/fairlinklaw04.FrameLong", spec := "frameLong", named := ["fairlink/crc.remainders", "fairlink/linecode.valid"], apart := false, laid := [("fairlink/linecode.valid", laid_fairlink_linecode_valid), ("fairlink/crc.remainders", laid_fairlink_crc_remainders)] }
def FrameLongSaid : Prop := frameLongRow.holds Tryd.pinned (OpenSpec.ofChange frameLongSpec)

/-- ITS FALSE NEIGHBOUR: 'it returns false'. Refute it at one input. -/
def frameLongWrong : ChangeSpec := { name := "frameLong", fn := fun _ => fun
  | [d1, d2] => { results := [.lit (.bool false)], args := [d1, d2] }
  | _ => none }
def FrameLongWrongFalsely : Prop := frameLongRow.holds Tryd.pinned (OpenSpec.ofChange frameLongWrong)

/-- 'fairlinklaw04.FrameStream': WHATEVER THE INPUT: true; the input reads as it did. -/
def frameStreamSpec : ChangeSpec := { name := "frameStream", fn := fun _ => fun
  | [d1, d2] => { results := [.lit (.bool true)], args := [d1, d2] }
  | _ => none }
def frameStreamRow : OpenClaim := { program := "ytdmfjmdnkfeljaadoor", sum := "40a3ca302bfd0357ecde4d5dddcd2b7513e8a7f08af08cf0d699aa935ff3dd91", func := "fairlink/fairlinklaw04.FrameStream", spec := "frameStream", unfollowed := true, recurses := true, named := ["fairlink/crc.remainders", "fairlink/linecode.valid"], apart := false, laid := [("fairlink/linecode.valid", laid_fairlink_linecode_valid), ("fairlink/crc.remainders", laid_fairlink_crc_remainders)] }
def FrameStreamSaid : Prop := frameStreamRow.holds Tryd.pinned (OpenSpec.ofChange frameStreamSpec)

/-- ITS FALSE NEIGHBOUR: 'it returns false'. Refute it at one input. -/
def frameStreamWrong : ChangeSpec := { name := "frameStream", fn := fun _ => fun
  | [d1, d2] => { results := [.lit (.bool false)], args := [d1, d2] }
  | _ => none }
def FrameStreamWrongFalsely : Prop := frameStreamRow.holds Tryd.pinned (OpenSpec.ofChange frameStreamWrong)

/-- 'fairlinklaw04.FrameFlips': WHATEVER THE INPUT: true; the input reads as it did. -/
def frameFlipsSpec : ChangeSpec := { name := "frameFlips", fn := fun _ => fun
  | [d1, d2, d3] => { results := [.lit (.bool true)], args := [d1, d2, d3] }
  | _ => none }
def frameFlipsRow : OpenClaim := { program := "ytdmfjmdnkfeljaadoor", sum := "40a3ca302bfd0357ecde4d5dddcd2b7513e8a7f08af08cf0d699aa935ff3dd91", func := "fairlink/fairlinklaw04.FrameFlips", spec := "frameFlips", unfollowed := true, recurses := true, named := ["fairlink/crc.remainders", "fairlink/linecode.valid"], apart := false, laid := [("fairlink/linecode.valid", laid_fairlink_linecode_valid), ("fairlink/crc.remainders", laid_fairlink_crc_remainders)] }
def FrameFlipsSaid : Prop := frameFlipsRow.holds Tryd.pinned (OpenSpec.ofChange frameFlipsSpec)

/-- ITS FALSE NEIGHBOUR: 'it returns false'. Refute it at one input. -/
def frameFlipsWrong : ChangeSpec := { name := "frameFlips", fn := fun _ => fun
  | [d1, d2, d3] => { results := [.lit (.bool false)], args := [d1, d2, d3] }
  | _ => none }
def FrameFlipsWrongFalsely : Prop := frameFlipsRow.holds Tryd.pinned (OpenSpec.ofChange frameFlipsWrong)

/-- 'fairlinklaw04.FrameRecovers': WHATEVER THE INPUT: true; the input reads as it did. -/
def frameRecoversSpec : ChangeSpec := { name := "frameRecovers", fn := fun _ => fun
  | [d1, d2] => { results := [.lit (.bool true)], args := [d1, d2] }
  | _ => none }
def frameRecoversRow : OpenClaim := { program := "ytdmfjmdnkfeljaadoor", sum := "40a3ca302bfd0357ecde4d5dddcd2b7513e8a7f08af08cf0d699aa935ff3dd91", func := "fairlink/fairlinklaw04.FrameRecovers", spec := "frameRecovers", unfollowed := true, recurses := true, named := ["fairlink/crc.remainders", "fairlink/linecode.valid"], apart := false, laid := [("fairlink/linecode.valid", laid_fairlink_linecode_valid), ("fairlink/crc.remainders", laid_fairlink_crc_remainders)] }
def FrameRecoversSaid : Prop := frameRecoversRow.holds Tryd.pinned (OpenSpec.ofChange frameRecoversSpec)

/-- ITS FALSE NEIGHBOUR: 'it returns false'. Refute it at one input. -/
def frameRecoversWrong : ChangeSpec := { name := "frameRecovers", fn := fun _ => fun
  | [d1, d2] => { results := [.lit (.bool false)], args := [d1, d2] }
  | _ => none }
def FrameRecoversWrongFalsely : Prop := frameRecoversRow.holds Tryd.pinned (OpenSpec.ofChange frameRecoversWrong)

/- THE SECOND FORM. 'bulk': how many values and letters a reading holds, each counted each time it is reached (what is shared counts as often as it is met; a slice's spare places count too). A statement '..UptoSaid' is the law's where the arguments, and the package variables that the reading takes, are together of bulk at most 1048576: NARROWER than '..Said'. Prove '..Said' where nothing that the law and all that it calls make is longer than what came in: it says more and counts as full. Else prove '..UptoSaid'. A law counts once. -/
mutual
def uptoBulk {H : Type} : DataW H → Nat
  | .lit (.string bytes) => bytes.length + 1
  | .lit _ => 1
  | .nil => 1
  | .ptr d => uptoBulk d + 1
  | .slice elems spare => uptoBulkAll elems + uptoBulkAll spare + 1
  | .agg parts => uptoBulkAll parts + 1
  | .iface _ d => uptoBulk d + 1
  | .map entries => uptoBulkEntries entries + 1
  | .held _ => 1
def uptoBulkAll {H : Type} : List (DataW H) → Nat
  | [] => 0
  | d :: r => uptoBulk d + uptoBulkAll r
def uptoBulkEntries {H : Type} : List (Lit × DataW H) → Nat
  | [] => 0
  | x :: r => uptoBulkEntry x + uptoBulkEntries r
def uptoBulkEntry {H : Type} : Lit × DataW H → Nat
  | (.string bytes, d) => bytes.length + uptoBulk d + 1
  | (_, d) => uptoBulk d + 1
 end
def uptoSmall : (H : Type) → List (DataW H) → Bool := fun _ ds => decide (uptoBulkAll ds ≤ 1048576)
def OpenSpec.upto (s : _root_.Go.ChangeSpec) : _root_.Go.OpenSpec := { _root_.Go.OpenSpec.ofChange s with cond := some uptoSmall }

/-- 'fairlinklaw04.FrameEncodes', WHERE WHAT IT READS IS OF BULK AT MOST 1048576: true; the input reads as it did. -/
def frameEncodesUptoRow : OpenClaim := { program := "ytdmfjmdnkfeljaadoor", sum := "40a3ca302bfd0357ecde4d5dddcd2b7513e8a7f08af08cf0d699aa935ff3dd91", func := "fairlink/fairlinklaw04.FrameEncodes", spec := "frameEncodes", named := ["fairlink/crc.remainders", "fairlink/linecode.valid"], apart := false, laid := [("fairlink/linecode.valid", laid_fairlink_linecode_valid), ("fairlink/crc.remainders", laid_fairlink_crc_remainders)], narrowed := true }
def FrameEncodesUptoSaid : Prop := frameEncodesUptoRow.holds Tryd.pinned (OpenSpec.upto frameEncodesSpec)

/-- 'fairlinklaw04.FrameDecodes', WHERE WHAT IT READS IS OF BULK AT MOST 1048576: true; the input reads as it did. -/
def frameDecodesUptoRow : OpenClaim := { program := "ytdmfjmdnkfeljaadoor", sum := "40a3ca302bfd0357ecde4d5dddcd2b7513e8a7f08af08cf0d699aa935ff3dd91", func := "fairlink/fairlinklaw04.FrameDecodes", spec := "frameDecodes", named := ["fairlink/crc.remainders", "fairlink/linecode.valid"], apart := false, laid := [("fairlink/linecode.valid", laid_fairlink_linecode_valid), ("fairlink/crc.remainders", laid_fairlink_crc_remainders)], narrowed := true }
def FrameDecodesUptoSaid : Prop := frameDecodesUptoRow.holds Tryd.pinned (OpenSpec.upto frameDecodesSpec)

/-- 'fairlinklaw04.FrameReturns', WHERE WHAT IT READS IS OF BULK AT MOST 1048576: true; the input reads as it did. -/
def frameReturnsUptoRow : OpenClaim := { program := "ytdmfjmdnkfeljaadoor", sum := "40a3ca302bfd0357ecde4d5dddcd2b7513e8a7f08af08cf0d699aa935ff3dd91", func := "fairlink/fairlinklaw04.FrameReturns", spec := "frameReturns", named := ["fairlink/crc.remainders", "fairlink/linecode.valid"], apart := false, laid := [("fairlink/linecode.valid", laid_fairlink_linecode_valid), ("fairlink/crc.remainders", laid_fairlink_crc_remainders)], narrowed := true }
def FrameReturnsUptoSaid : Prop := frameReturnsUptoRow.holds Tryd.pinned (OpenSpec.upto frameReturnsSpec)

/-- 'fairlinklaw04.FrameCuts', WHERE WHAT IT READS IS OF BULK AT MOST 1048576: true; the input reads as it did. -/
def frameCutsUptoRow : OpenClaim := { program := "ytdmfjmdnkfeljaadoor", sum := "40a3ca302bfd0357ecde4d5dddcd2b7513e8a7f08af08cf0d699aa935ff3dd91", func := "fairlink/fairlinklaw04.FrameCuts", spec := "frameCuts", named := ["fairlink/crc.remainders", "fairlink/linecode.valid"], apart := false, laid := [("fairlink/linecode.valid", laid_fairlink_linecode_valid), ("fairlink/crc.remainders", laid_fairlink_crc_remainders)], narrowed := true }
def FrameCutsUptoSaid : Prop := frameCutsUptoRow.holds Tryd.pinned (OpenSpec.upto frameCutsSpec)

/-- 'fairlinklaw04.FrameDamage', WHERE WHAT IT READS IS OF BULK AT MOST 1048576: true; the input reads as it did. -/
def frameDamageUptoRow : OpenClaim := { program := "ytdmfjmdnkfeljaadoor", sum := "40a3ca302bfd0357ecde4d5dddcd2b7513e8a7f08af08cf0d699aa935ff3dd91", func := "fairlink/fairlinklaw04.FrameDamage", spec := "frameDamage", named := ["fairlink/crc.remainders", "fairlink/linecode.valid"], apart := false, laid := [("fairlink/linecode.valid", laid_fairlink_linecode_valid), ("fairlink/crc.remainders", laid_fairlink_crc_remainders)], narrowed := true }
def FrameDamageUptoSaid : Prop := frameDamageUptoRow.holds Tryd.pinned (OpenSpec.upto frameDamageSpec)

/-- 'fairlinklaw04.FrameScans', WHERE WHAT IT READS IS OF BULK AT MOST 1048576: true; the input reads as it did. -/
def frameScansUptoRow : OpenClaim := { program := "ytdmfjmdnkfeljaadoor", sum := "40a3ca302bfd0357ecde4d5dddcd2b7513e8a7f08af08cf0d699aa935ff3dd91", func := "fairlink/fairlinklaw04.FrameScans", spec := "frameScans", named := ["fairlink/crc.remainders", "fairlink/linecode.valid"], apart := false, laid := [("fairlink/linecode.valid", laid_fairlink_linecode_valid), ("fairlink/crc.remainders", laid_fairlink_crc_remainders)], narrowed := true }
def FrameScansUptoSaid : Prop := frameScansUptoRow.holds Tryd.pinned (OpenSpec.upto frameScansSpec)

/-- 'fairlinklaw04.FrameLong', WHERE WHAT IT READS IS OF BULK AT MOST 1048576: true; the input reads as it did. -/
def frameLongUptoRow : OpenClaim := { program := "ytdmfjmdnkfeljaadoor", sum := "40a3ca302bfd0357ecde4d5dddcd2b7513e8a7f08af08cf0d699aa935ff3dd91", func := "fairlink/fairlinklaw04.FrameLong", spec := "frameLong", named := ["fairlink/crc.remainders", "fairlink/linecode.valid"], apart := false, laid := [("fairlink/linecode.valid", laid_fairlink_linecode_valid), ("fairlink/crc.remainders", laid_fairlink_crc_remainders)], narrowed := true }
def FrameLongUptoSaid : Prop := frameLongUptoRow.holds Tryd.pinned (OpenSpec.upto frameLongSpec)

/-- 'fairlinklaw04.FrameStream', WHERE WHAT IT READS IS OF BULK AT MOST 1048576: true; the input reads as it did. -/
def frameStreamUptoRow : OpenClaim := { program := "ytdmfjmdnkfeljaadoor", sum := "40a3ca302bfd0357ecde4d5dddcd2b7513e8a7f08af08cf0d699aa935ff3dd91", func := "fairlink/fairlinklaw04.FrameStream", spec := "frameStream", unfollowed := true, recurses := true, named := ["fairlink/crc.remainders", "fairlink/linecode.valid"], apart := false, laid := [("fairlink/linecode.valid", laid_fairlink_linecode_valid), ("fairlink/crc.remainders", laid_fairlink_crc_remainders)], narrowed := true }
def FrameStreamUptoSaid : Prop := frameStreamUptoRow.holds Tryd.pinned (OpenSpec.upto frameStreamSpec)

/-- 'fairlinklaw04.FrameFlips', WHERE WHAT IT READS IS OF BULK AT MOST 1048576: true; the input reads as it did. -/
def frameFlipsUptoRow : OpenClaim := { program := "ytdmfjmdnkfeljaadoor", sum := "40a3ca302bfd0357ecde4d5dddcd2b7513e8a7f08af08cf0d699aa935ff3dd91", func := "fairlink/fairlinklaw04.FrameFlips", spec := "frameFlips", unfollowed := true, recurses := true, named := ["fairlink/crc.remainders", "fairlink/linecode.valid"], apart := false, laid := [("fairlink/linecode.valid", laid_fairlink_linecode_valid), ("fairlink/crc.remainders", laid_fairlink_crc_remainders)], narrowed := true }
def FrameFlipsUptoSaid : Prop := frameFlipsUptoRow.holds Tryd.pinned (OpenSpec.upto frameFlipsSpec)

/-- 'fairlinklaw04.FrameRecovers', WHERE WHAT IT READS IS OF BULK AT MOST 1048576: true; the input reads as it did. -/
def frameRecoversUptoRow : OpenClaim := { program := "ytdmfjmdnkfeljaadoor", sum := "40a3ca302bfd0357ecde4d5dddcd2b7513e8a7f08af08cf0d699aa935ff3dd91", func := "fairlink/fairlinklaw04.FrameRecovers", spec := "frameRecovers", unfollowed := true, recurses := true, named := ["fairlink/crc.remainders", "fairlink/linecode.valid"], apart := false, laid := [("fairlink/linecode.valid", laid_fairlink_linecode_valid), ("fairlink/crc.remainders", laid_fairlink_crc_remainders)], narrowed := true }
def FrameRecoversUptoSaid : Prop := frameRecoversUptoRow.holds Tryd.pinned (OpenSpec.upto frameRecoversSpec)

end Rows
end Go.Proofs.YtdmfjmdnkfeljaaDoor
