/-
  NARROWER THAN 'FOR EVERY INPUT', by the rows' own cells (each row's printed sentence says how): CrcSums: laid · CrcUpdates: laid · CrcLinear: laid · CrcErrors: laid · CrcResidue: laid · CrcSeals: laid · CrcBursts: laid · CrcBits: laid · CrcPairs: laid.
  DERIVED. THE GIVEN ROWS OF THIS SEAT. 9 by the template 'for every input the law returns true; each argument reads behind the call as it read before'; 0 by the template 'total and deterministic' (their statements: YtmpigciommmjcaaDoorTotals.lean).
  GIVEN WITH THE SEED: the statements are not yours to turn. If you find one false, say at which input.
  Laid BY PROGRAM, IN A SANDBOX (cutbox-rows.mjs): the forced cells as the released guide's own fill.sh prints them over the translation 323eb3584837d909… (all of the seat's roots in one cut). By AI agents, Wed Nov 11 2026. No macro, syntax, notation, axiom, sorry.
-/
import Derived.Test.YtmpigciommmjcaaDoorChecked
import GoSem.Claim
import GoSem.ClaimJoined
import GoSem.ClaimMapViews
import Derived.JoinedTies
import Derived.KernelRfl
namespace Go.Proofs.YtmpigciommmjcaaDoor
/- THE CELL 'sum', in the pinned program and in every row, IS THE sha256 OF THE DUMP (.gsa) THAT YtmpigciommmjcaaDoorProg.lean LOADS. Nothing in Lean hashes anything: it is a label: what it is worth is what the hold of that sum in a sandbox is worth. -/
noncomputable def Tryd.pinned : Pinned := { name := "ytmpigciommmjcaadoor", sum := "323eb3584837d909420674e70daaf901c806d272ea81e4bb57d48ba1a41d60a9", checked := Tryd.checked }
namespace Rows
def none {H : Type} : Left H := { results := [], args := [] }

/- WHAT THE LISTED PACKAGE-LEVEL VARIABLES READ AS WHEN THE CALL BEGINS. Each datum BY PROGRAM (the guide's laid-datum.mjs) off the statement by which the dump's own 'gosem.cut.vars' lays the variable. In a bare row this is a premise. The card (YtmpigciommmjcaaDoorCards.lean) ties it to the program's text. -/
def laid_fairlink_crc_remainders {H : Type} : DataW H := .agg [.lit (.int .u32 0), .lit (.int .u32 498536548), .lit (.int .u32 997073096), .lit (.int .u32 651767980), .lit (.int .u32 1994146192), .lit (.int .u32 1802195444), .lit (.int .u32 1303535960), .lit (.int .u32 1342533948), .lit (.int .u32 3988292384), .lit (.int .u32 4027552580), .lit (.int .u32 3604390888), .lit (.int .u32 3412177804), .lit (.int .u32 2607071920), .lit (.int .u32 2262029012), .lit (.int .u32 2685067896), .lit (.int .u32 3183342108)]

/-- 'fairlinklaw02.CrcSums': WHATEVER THE INPUT: true; the input reads as it did. -/
def crcSumsSpec : ChangeSpec := { name := "crcSums", fn := fun _ => fun
  | [d] => { results := [.lit (.bool true)], args := [d] }
  | _ => none }
def crcSumsRow : OpenClaim := { program := "ytmpigciommmjcaadoor", sum := "323eb3584837d909420674e70daaf901c806d272ea81e4bb57d48ba1a41d60a9", func := "fairlink/fairlinklaw02.CrcSums", spec := "crcSums", named := ["fairlink/crc.remainders"], apart := false, laid := [("fairlink/crc.remainders", laid_fairlink_crc_remainders)] }
def CrcSumsSaid : Prop := crcSumsRow.holds Tryd.pinned (OpenSpec.ofChange crcSumsSpec)

/-- ITS FALSE NEIGHBOUR: 'it returns false'. Refute it at one input. -/
def crcSumsWrong : ChangeSpec := { name := "crcSums", fn := fun _ => fun
  | [d] => { results := [.lit (.bool false)], args := [d] }
  | _ => none }
def CrcSumsWrongFalsely : Prop := crcSumsRow.holds Tryd.pinned (OpenSpec.ofChange crcSumsWrong)

/-- 'fairlinklaw02.CrcUpdates': WHATEVER THE INPUT: true; the input reads as it did. -/
def crcUpdatesSpec : ChangeSpec := { name := "crcUpdates", fn := fun _ => fun
  | [d1, d2, d3] => { results := [.lit (.bool true)], args := [d1, d2, d3] }
  | _ => none }
def crcUpdatesRow : OpenClaim := { program := "ytmpigciommmjcaadoor", sum := "323eb3584837d909420674e70daaf901c806d272ea81e4bb57d48ba1a41d60a9", func := "fairlink/fairlinklaw02.CrcUpdates", spec := "crcUpdates", named := ["fairlink/crc.remainders"], apart := false, laid := [("fairlink/crc.remainders", laid_fairlink_crc_remainders)] }
def CrcUpdatesSaid : Prop := crcUpdatesRow.holds Tryd.pinned (OpenSpec.ofChange crcUpdatesSpec)

/-- ITS FALSE NEIGHBOUR: 'it returns false'. Refute it at one input. -/
def crcUpdatesWrong : ChangeSpec := { name := "crcUpdates", fn := fun _ => fun
  | [d1, d2, d3] => { results := [.lit (.bool false)], args := [d1, d2, d3] }
  | _ => none }
def CrcUpdatesWrongFalsely : Prop := crcUpdatesRow.holds Tryd.pinned (OpenSpec.ofChange crcUpdatesWrong)

/-- 'fairlinklaw02.CrcLinear': WHATEVER THE INPUT: true; the input reads as it did. -/
def crcLinearSpec : ChangeSpec := { name := "crcLinear", fn := fun _ => fun
  | [d1, d2, d3] => { results := [.lit (.bool true)], args := [d1, d2, d3] }
  | _ => none }
def crcLinearRow : OpenClaim := { program := "ytmpigciommmjcaadoor", sum := "323eb3584837d909420674e70daaf901c806d272ea81e4bb57d48ba1a41d60a9", func := "fairlink/fairlinklaw02.CrcLinear", spec := "crcLinear", named := ["fairlink/crc.remainders"], apart := false, laid := [("fairlink/crc.remainders", laid_fairlink_crc_remainders)] }
def CrcLinearSaid : Prop := crcLinearRow.holds Tryd.pinned (OpenSpec.ofChange crcLinearSpec)

/-- ITS FALSE NEIGHBOUR: 'it returns false'. Refute it at one input. -/
def crcLinearWrong : ChangeSpec := { name := "crcLinear", fn := fun _ => fun
  | [d1, d2, d3] => { results := [.lit (.bool false)], args := [d1, d2, d3] }
  | _ => none }
def CrcLinearWrongFalsely : Prop := crcLinearRow.holds Tryd.pinned (OpenSpec.ofChange crcLinearWrong)

/-- 'fairlinklaw02.CrcErrors': WHATEVER THE INPUT: true; the input reads as it did. -/
def crcErrorsSpec : ChangeSpec := { name := "crcErrors", fn := fun _ => fun
  | [d1, d2] => { results := [.lit (.bool true)], args := [d1, d2] }
  | _ => none }
def crcErrorsRow : OpenClaim := { program := "ytmpigciommmjcaadoor", sum := "323eb3584837d909420674e70daaf901c806d272ea81e4bb57d48ba1a41d60a9", func := "fairlink/fairlinklaw02.CrcErrors", spec := "crcErrors", named := ["fairlink/crc.remainders"], apart := false, laid := [("fairlink/crc.remainders", laid_fairlink_crc_remainders)] }
def CrcErrorsSaid : Prop := crcErrorsRow.holds Tryd.pinned (OpenSpec.ofChange crcErrorsSpec)

/-- ITS FALSE NEIGHBOUR: 'it returns false'. Refute it at one input. -/
def crcErrorsWrong : ChangeSpec := { name := "crcErrors", fn := fun _ => fun
  | [d1, d2] => { results := [.lit (.bool false)], args := [d1, d2] }
  | _ => none }
def CrcErrorsWrongFalsely : Prop := crcErrorsRow.holds Tryd.pinned (OpenSpec.ofChange crcErrorsWrong)

/-- 'fairlinklaw02.CrcResidue': WHATEVER THE INPUT: true; the input reads as it did. -/
def crcResidueSpec : ChangeSpec := { name := "crcResidue", fn := fun _ => fun
  | [d] => { results := [.lit (.bool true)], args := [d] }
  | _ => none }
def crcResidueRow : OpenClaim := { program := "ytmpigciommmjcaadoor", sum := "323eb3584837d909420674e70daaf901c806d272ea81e4bb57d48ba1a41d60a9", func := "fairlink/fairlinklaw02.CrcResidue", spec := "crcResidue", named := ["fairlink/crc.remainders"], apart := false, laid := [("fairlink/crc.remainders", laid_fairlink_crc_remainders)] }
def CrcResidueSaid : Prop := crcResidueRow.holds Tryd.pinned (OpenSpec.ofChange crcResidueSpec)

/-- ITS FALSE NEIGHBOUR: 'it returns false'. Refute it at one input. -/
def crcResidueWrong : ChangeSpec := { name := "crcResidue", fn := fun _ => fun
  | [d] => { results := [.lit (.bool false)], args := [d] }
  | _ => none }
def CrcResidueWrongFalsely : Prop := crcResidueRow.holds Tryd.pinned (OpenSpec.ofChange crcResidueWrong)

/-- 'fairlinklaw02.CrcSeals': WHATEVER THE INPUT: true; the input reads as it did. -/
def crcSealsSpec : ChangeSpec := { name := "crcSeals", fn := fun _ => fun
  | [d] => { results := [.lit (.bool true)], args := [d] }
  | _ => none }
def crcSealsRow : OpenClaim := { program := "ytmpigciommmjcaadoor", sum := "323eb3584837d909420674e70daaf901c806d272ea81e4bb57d48ba1a41d60a9", func := "fairlink/fairlinklaw02.CrcSeals", spec := "crcSeals", named := ["fairlink/crc.remainders"], apart := false, laid := [("fairlink/crc.remainders", laid_fairlink_crc_remainders)] }
def CrcSealsSaid : Prop := crcSealsRow.holds Tryd.pinned (OpenSpec.ofChange crcSealsSpec)

/-- ITS FALSE NEIGHBOUR: 'it returns false'. Refute it at one input. -/
def crcSealsWrong : ChangeSpec := { name := "crcSeals", fn := fun _ => fun
  | [d] => { results := [.lit (.bool false)], args := [d] }
  | _ => none }
def CrcSealsWrongFalsely : Prop := crcSealsRow.holds Tryd.pinned (OpenSpec.ofChange crcSealsWrong)

/-- 'fairlinklaw02.CrcBursts': WHATEVER THE INPUT: true; the input reads as it did. -/
def crcBurstsSpec : ChangeSpec := { name := "crcBursts", fn := fun _ => fun
  | [d1, d2, d3] => { results := [.lit (.bool true)], args := [d1, d2, d3] }
  | _ => none }
def crcBurstsRow : OpenClaim := { program := "ytmpigciommmjcaadoor", sum := "323eb3584837d909420674e70daaf901c806d272ea81e4bb57d48ba1a41d60a9", func := "fairlink/fairlinklaw02.CrcBursts", spec := "crcBursts", named := ["fairlink/crc.remainders"], apart := false, laid := [("fairlink/crc.remainders", laid_fairlink_crc_remainders)] }
def CrcBurstsSaid : Prop := crcBurstsRow.holds Tryd.pinned (OpenSpec.ofChange crcBurstsSpec)

/-- ITS FALSE NEIGHBOUR: 'it returns false'. Refute it at one input. -/
def crcBurstsWrong : ChangeSpec := { name := "crcBursts", fn := fun _ => fun
  | [d1, d2, d3] => { results := [.lit (.bool false)], args := [d1, d2, d3] }
  | _ => none }
def CrcBurstsWrongFalsely : Prop := crcBurstsRow.holds Tryd.pinned (OpenSpec.ofChange crcBurstsWrong)

/-- 'fairlinklaw02.CrcBits': WHATEVER THE INPUT: true; the input reads as it did. -/
def crcBitsSpec : ChangeSpec := { name := "crcBits", fn := fun _ => fun
  | [d1, d2, d3, d4] => { results := [.lit (.bool true)], args := [d1, d2, d3, d4] }
  | _ => none }
def crcBitsRow : OpenClaim := { program := "ytmpigciommmjcaadoor", sum := "323eb3584837d909420674e70daaf901c806d272ea81e4bb57d48ba1a41d60a9", func := "fairlink/fairlinklaw02.CrcBits", spec := "crcBits", named := ["fairlink/crc.remainders"], apart := false, laid := [("fairlink/crc.remainders", laid_fairlink_crc_remainders)] }
def CrcBitsSaid : Prop := crcBitsRow.holds Tryd.pinned (OpenSpec.ofChange crcBitsSpec)

/-- ITS FALSE NEIGHBOUR: 'it returns false'. Refute it at one input. -/
def crcBitsWrong : ChangeSpec := { name := "crcBits", fn := fun _ => fun
  | [d1, d2, d3, d4] => { results := [.lit (.bool false)], args := [d1, d2, d3, d4] }
  | _ => none }
def CrcBitsWrongFalsely : Prop := crcBitsRow.holds Tryd.pinned (OpenSpec.ofChange crcBitsWrong)

/-- 'fairlinklaw02.CrcPairs': WHATEVER THE INPUT: true; the input reads as it did. -/
def crcPairsSpec : ChangeSpec := { name := "crcPairs", fn := fun _ => fun
  | [d1, d2, d3] => { results := [.lit (.bool true)], args := [d1, d2, d3] }
  | _ => none }
def crcPairsRow : OpenClaim := { program := "ytmpigciommmjcaadoor", sum := "323eb3584837d909420674e70daaf901c806d272ea81e4bb57d48ba1a41d60a9", func := "fairlink/fairlinklaw02.CrcPairs", spec := "crcPairs", named := ["fairlink/crc.remainders"], apart := false, laid := [("fairlink/crc.remainders", laid_fairlink_crc_remainders)] }
def CrcPairsSaid : Prop := crcPairsRow.holds Tryd.pinned (OpenSpec.ofChange crcPairsSpec)

/-- ITS FALSE NEIGHBOUR: 'it returns false'. Refute it at one input. -/
def crcPairsWrong : ChangeSpec := { name := "crcPairs", fn := fun _ => fun
  | [d1, d2, d3] => { results := [.lit (.bool false)], args := [d1, d2, d3] }
  | _ => none }
def CrcPairsWrongFalsely : Prop := crcPairsRow.holds Tryd.pinned (OpenSpec.ofChange crcPairsWrong)

/- THE SECOND FORM. 'bulk': how many values and letters a reading holds, each counted each time it is reached (what is shared counts as often as it is met; a slice's spare places count too). A statement '..UptoSaid' is the law's where the arguments, and the package variables that the reading takes, are together of bulk at most 1048576: NARROWER than '..Said'. Prove '..Said' where nothing that the law and all that it calls make is longer than what came in: it says more and counts as full. Else prove '..UptoSaid'. A law counts once. -/
mutual
def uptoBulk {H : Type} : DataW H → Nat
  | .lit (.string bytes) => bytes.length + 1
  | .lit _ => 1
  | .nil => 1
  | .ptr d => uptoBulk d + 1
  | .slice elems spare => uptoBulkAll elems + uptoBulkAll spare + 1
  | .agg parts => uptoBulkAll parts + 1
  | .iface _ d => uptoBulk d + 1
  | .map entries => uptoBulkEntries entries + 1
  | .held _ => 1
def uptoBulkAll {H : Type} : List (DataW H) → Nat
  | [] => 0
  | d :: r => uptoBulk d + uptoBulkAll r
def uptoBulkEntries {H : Type} : List (Lit × DataW H) → Nat
  | [] => 0
  | x :: r => uptoBulkEntry x + uptoBulkEntries r
def uptoBulkEntry {H : Type} : Lit × DataW H → Nat
  | (.string bytes, d) => bytes.length + uptoBulk d + 1
  | (_, d) => uptoBulk d + 1
 end
def uptoSmall : (H : Type) → List (DataW H) → Bool := fun _ ds => decide (uptoBulkAll ds ≤ 1048576)
def OpenSpec.upto (s : _root_.Go.ChangeSpec) : _root_.Go.OpenSpec := { _root_.Go.OpenSpec.ofChange s with cond := some uptoSmall }

/-- 'fairlinklaw02.CrcSums', WHERE WHAT IT READS IS OF BULK AT MOST 1048576: true; the input reads as it did. -/
def crcSumsUptoRow : OpenClaim := { program := "ytmpigciommmjcaadoor", sum := "323eb3584837d909420674e70daaf901c806d272ea81e4bb57d48ba1a41d60a9", func := "fairlink/fairlinklaw02.CrcSums", spec := "crcSums", named := ["fairlink/crc.remainders"], apart := false, laid := [("fairlink/crc.remainders", laid_fairlink_crc_remainders)], narrowed := true }
def CrcSumsUptoSaid : Prop := crcSumsUptoRow.holds Tryd.pinned (OpenSpec.upto crcSumsSpec)

/-- 'fairlinklaw02.CrcUpdates', WHERE WHAT IT READS IS OF BULK AT MOST 1048576: true; the input reads as it did. -/
def crcUpdatesUptoRow : OpenClaim := { program := "ytmpigciommmjcaadoor", sum := "323eb3584837d909420674e70daaf901c806d272ea81e4bb57d48ba1a41d60a9", func := "fairlink/fairlinklaw02.CrcUpdates", spec := "crcUpdates", named := ["fairlink/crc.remainders"], apart := false, laid := [("fairlink/crc.remainders", laid_fairlink_crc_remainders)], narrowed := true }
def CrcUpdatesUptoSaid : Prop := crcUpdatesUptoRow.holds Tryd.pinned (OpenSpec.upto crcUpdatesSpec)

/-- 'fairlinklaw02.CrcLinear', WHERE WHAT IT READS IS OF BULK AT MOST 1048576: true; the input reads as it did. -/
def crcLinearUptoRow : OpenClaim := { program := "ytmpigciommmjcaadoor", sum := "323eb3584837d909420674e70daaf901c806d272ea81e4bb57d48ba1a41d60a9", func := "fairlink/fairlinklaw02.CrcLinear", spec := "crcLinear", named := ["fairlink/crc.remainders"], apart := false, laid := [("fairlink/crc.remainders", laid_fairlink_crc_remainders)], narrowed := true }
def CrcLinearUptoSaid : Prop := crcLinearUptoRow.holds Tryd.pinned (OpenSpec.upto crcLinearSpec)

/-- 'fairlinklaw02.CrcErrors', WHERE WHAT IT READS IS OF BULK AT MOST 1048576: true; the input reads as it did. -/
def crcErrorsUptoRow : OpenClaim := { program := "ytmpigciommmjcaadoor", sum := "323eb3584837d909420674e70daaf901c806d272ea81e4bb57d48ba1a41d60a9", func := "fairlink/fairlinklaw02.CrcErrors", spec := "crcErrors", named := ["fairlink/crc.remainders"], apart := false, laid := [("fairlink/crc.remainders", laid_fairlink_crc_remainders)], narrowed := true }
def CrcErrorsUptoSaid : Prop := crcErrorsUptoRow.holds Tryd.pinned (OpenSpec.upto crcErrorsSpec)

/-- 'fairlinklaw02.CrcResidue', WHERE WHAT IT READS IS OF BULK AT MOST 1048576: true; the input reads as it did. -/
def crcResidueUptoRow : OpenClaim := { program := "ytmpigciommmjcaadoor", sum := "323eb3584837d909420674e70daaf901c806d272ea81e4bb57d48ba1a41d60a9", func := "fairlink/fairlinklaw02.CrcResidue", spec := "crcResidue", named := ["fairlink/crc.remainders"], apart := false, laid := [("fairlink/crc.remainders", laid_fairlink_crc_remainders)], narrowed := true }
def CrcResidueUptoSaid : Prop := crcResidueUptoRow.holds Tryd.pinned (OpenSpec.upto crcResidueSpec)

/-- 'fairlinklaw02.CrcSeals', WHERE WHAT IT READS IS OF BULK AT MOST 1048576: true; the input reads as it did. -/
def crcSealsUptoRow : OpenClaim := { program := "ytmpigciommmjcaadoor", sum := "323eb3584837d909420674e70daaf901c806d272ea81e4bb57d48ba1a41d60a9", func := "fairlink/fairlinklaw02.CrcSeals", spec := "crcSeals", named := ["fairlink/crc.remainders"], apart := false, laid := [("fairlink/crc.remainders", laid_fairlink_crc_remainders)], narrowed := true }
def CrcSealsUptoSaid : Prop := crcSealsUptoRow.holds Tryd.pinned (OpenSpec.upto crcSealsSpec)

/-- 'fairlinklaw02.CrcBursts', WHERE WHAT IT READS IS OF BULK AT MOST 1048576: true; the input reads as it did. -/
def crcBurstsUptoRow : OpenClaim := { program := "ytmpigciommmjcaadoor", sum := "323eb3584837d909420674e70daaf901c806d272ea81e4bb57d48ba1a41d60a9", func := "fairlink/fairlinklaw02.CrcBursts", spec := "crcBursts", named := ["fairlink/crc.remainders"], apart := false, laid := [("fairlink/crc.remainders", laid_fairlink_crc_remainders)], narrowed := true }
def CrcBurstsUptoSaid : Prop := crcBurstsUptoRow.holds Tryd.pinned (OpenSpec.upto crcBurstsSpec)

/-- 'fairlinklaw02.CrcBits', WHERE WHAT IT READS IS OF BULK AT MOST 1048576: true; the input reads as it did. -/
def crcBitsUptoRow : OpenClaim := { program := "ytmpigciommmjcaadoor", sum := "323eb3584837d909420674e70daaf901c806d272ea81e4bb57d48ba1a41d60a9", func := "fairlink/fairlinklaw02.CrcBits", spec := "crcBits", named := ["fairlink/crc.remainders"], apart := false, laid := [("fairlink/crc.remainders", laid_fairlink_crc_remainders)], narrowed := true }
def CrcBitsUptoSaid : Prop := crcBitsUptoRow.holds Tryd.pinned (OpenSpec.upto crcBitsSpec)

/-- 'fairlinklaw02.CrcPairs', WHERE WHAT IT READS IS OF BULK AT MOST 1048576: true; the input reads as it did. -/
def crcPairsUptoRow : OpenClaim := { program := "ytmpigciommmjcaadoor", sum := "323eb3584837d909420674e70daaf901c806d272ea81e4bb57d48ba1a41d60a9", func := "fairlink/fairlinklaw02.CrcPairs", spec := "crcPairs", named := ["fairlink/crc.remainders"], apart := false, laid := [("fairlink/crc.remainders", laid_fairlink_crc_remainders)], narrowed := true }
def CrcPairsUptoSaid : Prop := crcPairsUptoRow.holds Tryd.pinned (OpenSpec.upto crcPairsSpec)

end Rows
end Go.Proofs.YtmpigciommmjcaaDoor
