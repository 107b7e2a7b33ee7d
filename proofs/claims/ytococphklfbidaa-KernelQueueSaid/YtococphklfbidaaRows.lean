/-
  No cell of these rows narrows 'for every input' (looked for: loops, veiled, ifaces, maps, wideKeys, modest, calm, conditions, laid).
  DERIVED. THE GIVEN ROWS OF THIS SEAT. 8 by the template 'for every input the law returns true; each argument reads behind the call as it read before'; 0 by the template 'total and deterministic' (their statements: YtococphklfbidaaTotals.lean).
  GIVEN WITH THE SEED: the statements are not yours to turn. If you find one false, say at which input.
  Laid BY PROGRAM, IN A SANDBOX (cutbox-rows.mjs): the forced cells as the released guide's own fill.sh prints them over the translation 46c503858f89c9a5… (all of the seat's roots in one cut). By AI agents, Wed Nov 11 2026. No macro, syntax, notation, axiom, sorry.
-/
import Derived.Test.YtococphklfbidaaChecked
import GoSem.Claim
import GoSem.ClaimJoined
import GoSem.ClaimMapViews
import Derived.JoinedTies
import Derived.KernelRfl
namespace Go.Proofs.Ytococphklfbidaa
/- THE CELL 'sum', in the pinned program and in every row, IS THE sha256 OF THE DUMP (.gsa) THAT YtococphklfbidaaProg.lean LOADS. Nothing in Lean hashes anything: it is a label: what it is worth is what the hold of that sum in a sandbox is worth. -/
noncomputable def Try.pinned : Pinned := { name := "ytococphklfbidaa", sum := "46c503858f89c9a52dff8634a2f61682d7944c5309a5b16a9b9351cf8e531903", checked := Try.checked }
namespace Rows
def none {H : Type} : Left H := { results := [], args := [] }

/-- 'fairlinklaw31.KernelSwaps': WHATEVER THE INPUT: true; the input reads as it did. -/
def kernelSwapsSpec : ChangeSpec := { name := "kernelSwaps", fn := fun _ => fun
  | [d1, d2] => { results := [.lit (.bool true)], args := [d1, d2] }
  | _ => none }
def kernelSwapsRow : OpenClaim := { program := "ytococphklfbidaa", sum := "46c503858f89c9a52dff8634a2f61682d7944c5309a5b16a9b9351cf8e531903", func := "fairlink/fairlinklaw31.KernelSwaps", spec := "kernelSwaps", inPlace := ["slices.overlaps[fairlink/kernel.Event]"], unfollowed := true, recurses := true, apart := false }
def KernelSwapsSaid : Prop := kernelSwapsRow.holds Try.pinned (OpenSpec.ofChange kernelSwapsSpec)

/-- ITS FALSE NEIGHBOUR: 'it returns false'. Refute it at one input. -/
def kernelSwapsWrong : ChangeSpec := { name := "kernelSwaps", fn := fun _ => fun
  | [d1, d2] => { results := [.lit (.bool false)], args := [d1, d2] }
  | _ => none }
def KernelSwapsWrongFalsely : Prop := kernelSwapsRow.holds Try.pinned (OpenSpec.ofChange kernelSwapsWrong)

/-- 'fairlinklaw31.KernelFull': WHATEVER THE INPUT: true; the input reads as it did. -/
def kernelFullSpec : ChangeSpec := { name := "kernelFull", fn := fun _ => fun
  | [d] => { results := [.lit (.bool true)], args := [d] }
  | _ => none }
def kernelFullRow : OpenClaim := { program := "ytococphklfbidaa", sum := "46c503858f89c9a52dff8634a2f61682d7944c5309a5b16a9b9351cf8e531903", func := "fairlink/fairlinklaw31.KernelFull", spec := "kernelFull", inPlace := ["slices.overlaps[fairlink/kernel.Event]"], unfollowed := true, recurses := true, apart := false }
def KernelFullSaid : Prop := kernelFullRow.holds Try.pinned (OpenSpec.ofChange kernelFullSpec)

/-- ITS FALSE NEIGHBOUR: 'it returns false'. Refute it at one input. -/
def kernelFullWrong : ChangeSpec := { name := "kernelFull", fn := fun _ => fun
  | [d] => { results := [.lit (.bool false)], args := [d] }
  | _ => none }
def KernelFullWrongFalsely : Prop := kernelFullRow.holds Try.pinned (OpenSpec.ofChange kernelFullWrong)

/-- 'fairlinklaw31.KernelOrder': WHATEVER THE INPUT: true; the input reads as it did. -/
def kernelOrderSpec : ChangeSpec := { name := "kernelOrder", fn := fun _ => fun
  | [d] => { results := [.lit (.bool true)], args := [d] }
  | _ => none }
def kernelOrderRow : OpenClaim := { program := "ytococphklfbidaa", sum := "46c503858f89c9a52dff8634a2f61682d7944c5309a5b16a9b9351cf8e531903", func := "fairlink/fairlinklaw31.KernelOrder", spec := "kernelOrder", inPlace := ["slices.overlaps[fairlink/kernel.Event]"], unfollowed := true, recurses := true, apart := false }
def KernelOrderSaid : Prop := kernelOrderRow.holds Try.pinned (OpenSpec.ofChange kernelOrderSpec)

/-- ITS FALSE NEIGHBOUR: 'it returns false'. Refute it at one input. -/
def kernelOrderWrong : ChangeSpec := { name := "kernelOrder", fn := fun _ => fun
  | [d] => { results := [.lit (.bool false)], args := [d] }
  | _ => none }
def KernelOrderWrongFalsely : Prop := kernelOrderRow.holds Try.pinned (OpenSpec.ofChange kernelOrderWrong)

/-- 'fairlinklaw31.KernelBefore': WHATEVER THE INPUT: true; the input reads as it did. -/
def kernelBeforeSpec : ChangeSpec := { name := "kernelBefore", fn := fun _ => fun
  | [d1, d2, d3] => { results := [.lit (.bool true)], args := [d1, d2, d3] }
  | _ => none }
def kernelBeforeRow : OpenClaim := { program := "ytococphklfbidaa", sum := "46c503858f89c9a52dff8634a2f61682d7944c5309a5b16a9b9351cf8e531903", func := "fairlink/fairlinklaw31.KernelBefore", spec := "kernelBefore", inPlace := ["slices.overlaps[fairlink/kernel.Event]"], unfollowed := true, recurses := true, apart := false }
def KernelBeforeSaid : Prop := kernelBeforeRow.holds Try.pinned (OpenSpec.ofChange kernelBeforeSpec)

/-- ITS FALSE NEIGHBOUR: 'it returns false'. Refute it at one input. -/
def kernelBeforeWrong : ChangeSpec := { name := "kernelBefore", fn := fun _ => fun
  | [d1, d2, d3] => { results := [.lit (.bool false)], args := [d1, d2, d3] }
  | _ => none }
def KernelBeforeWrongFalsely : Prop := kernelBeforeRow.holds Try.pinned (OpenSpec.ofChange kernelBeforeWrong)

/-- 'fairlinklaw31.KernelUntil': WHATEVER THE INPUT: true; the input reads as it did. -/
def kernelUntilSpec : ChangeSpec := { name := "kernelUntil", fn := fun _ => fun
  | [d1, d2] => { results := [.lit (.bool true)], args := [d1, d2] }
  | _ => none }
def kernelUntilRow : OpenClaim := { program := "ytococphklfbidaa", sum := "46c503858f89c9a52dff8634a2f61682d7944c5309a5b16a9b9351cf8e531903", func := "fairlink/fairlinklaw31.KernelUntil", spec := "kernelUntil", inPlace := ["slices.overlaps[fairlink/kernel.Event]"], unfollowed := true, recurses := true, apart := false }
def KernelUntilSaid : Prop := kernelUntilRow.holds Try.pinned (OpenSpec.ofChange kernelUntilSpec)

/-- ITS FALSE NEIGHBOUR: 'it returns false'. Refute it at one input. -/
def kernelUntilWrong : ChangeSpec := { name := "kernelUntil", fn := fun _ => fun
  | [d1, d2] => { results := [.lit (.bool false)], args := [d1, d2] }
  | _ => none }
def KernelUntilWrongFalsely : Prop := kernelUntilRow.holds Try.pinned (OpenSpec.ofChange kernelUntilWrong)

/-- 'fairlinklaw31.KernelCancels': WHATEVER THE INPUT: true; the input reads as it did. -/
def kernelCancelsSpec : ChangeSpec := { name := "kernelCancels", fn := fun _ => fun
  | [d1, d2] => { results := [.lit (.bool true)], args := [d1, d2] }
  | _ => none }
def kernelCancelsRow : OpenClaim := { program := "ytococphklfbidaa", sum := "46c503858f89c9a52dff8634a2f61682d7944c5309a5b16a9b9351cf8e531903", func := "fairlink/fairlinklaw31.KernelCancels", spec := "kernelCancels", inPlace := ["slices.overlaps[fairlink/kernel.Event]"], unfollowed := true, recurses := true, apart := false }
def KernelCancelsSaid : Prop := kernelCancelsRow.holds Try.pinned (OpenSpec.ofChange kernelCancelsSpec)

/-- ITS FALSE NEIGHBOUR: 'it returns false'. Refute it at one input. -/
def kernelCancelsWrong : ChangeSpec := { name := "kernelCancels", fn := fun _ => fun
  | [d1, d2] => { results := [.lit (.bool false)], args := [d1, d2] }
  | _ => none }
def KernelCancelsWrongFalsely : Prop := kernelCancelsRow.holds Try.pinned (OpenSpec.ofChange kernelCancelsWrong)

/-- 'fairlinklaw31.KernelQueue': WHATEVER THE INPUT: true; the input reads as it did. -/
def kernelQueueSpec : ChangeSpec := { name := "kernelQueue", fn := fun _ => fun
  | [d] => { results := [.lit (.bool true)], args := [d] }
  | _ => none }
def kernelQueueRow : OpenClaim := { program := "ytococphklfbidaa", sum := "46c503858f89c9a52dff8634a2f61682d7944c5309a5b16a9b9351cf8e531903", func := "fairlink/fairlinklaw31.KernelQueue", spec := "kernelQueue", inPlace := ["slices.overlaps[fairlink/kernel.Event]"], unfollowed := true, recurses := true, apart := false }
def KernelQueueSaid : Prop := kernelQueueRow.holds Try.pinned (OpenSpec.ofChange kernelQueueSpec)

/-- ITS FALSE NEIGHBOUR: 'it returns false'. Refute it at one input. -/
def kernelQueueWrong : ChangeSpec := { name := "kernelQueue", fn := fun _ => fun
  | [d] => { results := [.lit (.bool false)], args := [d] }
  | _ => none }
def KernelQueueWrongFalsely : Prop := kernelQueueRow.holds Try.pinned (OpenSpec.ofChange kernelQueueWrong)

/-- 'fairlinklaw31.KernelNow': WHATEVER THE INPUT: true; the input reads as it did. -/
def kernelNowSpec : ChangeSpec := { name := "kernelNow", fn := fun _ => fun
  | [d] => { results := [.lit (.bool true)], args := [d] }
  | _ => none }
def kernelNowRow : OpenClaim := { program := "ytococphklfbidaa", sum := "46c503858f89c9a52dff8634a2f61682d7944c5309a5b16a9b9351cf8e531903", func := "fairlink/fairlinklaw31.KernelNow", spec := "kernelNow", inPlace := ["slices.overlaps[fairlink/kernel.Event]"], unfollowed := true, recurses := true, apart := false }
def KernelNowSaid : Prop := kernelNowRow.holds Try.pinned (OpenSpec.ofChange kernelNowSpec)

/-- ITS FALSE NEIGHBOUR: 'it returns false'. Refute it at one input. -/
def kernelNowWrong : ChangeSpec := { name := "kernelNow", fn := fun _ => fun
  | [d] => { results := [.lit (.bool false)], args := [d] }
  | _ => none }
def KernelNowWrongFalsely : Prop := kernelNowRow.holds Try.pinned (OpenSpec.ofChange kernelNowWrong)

/- THE SECOND FORM. 'bulk': how many values and letters a reading holds, each counted each time it is reached (what is shared counts as often as it is met; a slice's spare places count too). A statement '..UptoSaid' is the law's where the arguments, and the package variables that the reading takes, are together of bulk at most 1048576: NARROWER than '..Said'. Prove '..Said' where nothing that the law and all that it calls make is longer than what came in: it says more and counts as full. Else prove '..UptoSaid'. A law counts once. -/
mutual
def uptoBulk {H : Type} : DataW H → Nat
  | .lit (.string bytes) => bytes.length + 1
  | .lit _ => 1
  | .nil => 1
  | .ptr d => uptoBulk d + 1
  | .slice elems spare => uptoBulkAll elems + uptoBulkAll spare + 1
  | .agg parts => uptoBulkAll parts + 1
  | .iface _ d => uptoBulk d + 1
  | .map entries => uptoBulkEntries entries + 1
  | .held _ => 1
def uptoBulkAll {H : Type} : List (DataW H) → Nat
  | [] => 0
  | d :: r => uptoBulk d + uptoBulkAll r
def uptoBulkEntries {H : Type} : List (Lit × DataW H) → Nat
  | [] => 0
  | x :: r => uptoBulkEntry x + uptoBulkEntries r
def uptoBulkEntry {H : Type} : Lit × DataW H → Nat
  | (.string bytes, d) => bytes.length + uptoBulk d + 1
  | (_, d) => uptoBulk d + 1
 end
def uptoSmall : (H : Type) → List (DataW H) → Bool := fun _ ds => decide (uptoBulkAll ds ≤ 1048576)
def OpenSpec.upto (s : _root_.Go.ChangeSpec) : _root_.Go.OpenSpec := { _root_.Go.OpenSpec.ofChange s with cond := some uptoSmall }

/-- 'fairlinklaw31.KernelSwaps', WHERE WHAT IT READS IS OF BULK AT MOST 1048576: true; the input reads as it did. -/
def kernelSwapsUptoRow : OpenClaim := { program := "ytococphklfbidaa", sum := "46c503858f89c9a52dff8634a2f61682d7944c5309a5b16a9b9351cf8e531903", func := "fairlink/fairlinklaw31.KernelSwaps", spec := "kernelSwaps", inPlace := ["slices.overlaps[fairlink/kernel.Event]"], unfollowed := true, recurses := true, apart := false, narrowed := true }
def KernelSwapsUptoSaid : Prop := kernelSwapsUptoRow.holds Try.pinned (OpenSpec.upto kernelSwapsSpec)

/-- 'fairlinklaw31.KernelFull', WHERE WHAT IT READS IS OF BULK AT MOST 1048576: true; the input reads as it did. -/
def kernelFullUptoRow : OpenClaim := { program := "ytococphklfbidaa", sum := "46c503858f89c9a52dff8634a2f61682d7944c5309a5b16a9b9351cf8e531903", func := "fairlink/fairlinklaw31.KernelFull", spec := "kernelFull", inPlace := ["slices.overlaps[fairlink/kernel.Event]"], unfollowed := true, recurses := true, apart := false, narrowed := true }
def KernelFullUptoSaid : Prop := kernelFullUptoRow.holds Try.pinned (OpenSpec.upto kernelFullSpec)

/-- 'fairlinklaw31.KernelOrder', WHERE WHAT IT READS IS OF BULK AT MOST 1048576: true; the input reads as it did. -/
def kernelOrderUptoRow : OpenClaim := { program := "ytococphklfbidaa", sum := "46c503858f89c9a52dff8634a2f61682d7944c5309a5b16a9b9351cf8e531903", func := "fairlink/fairlinklaw31.KernelOrder", spec := "kernelOrder", inPlace := ["slices.overlaps[fairlink/kernel.Event]"], unfollowed := true, recurses := true, apart := false, narrowed := true }
def KernelOrderUptoSaid : Prop := kernelOrderUptoRow.holds Try.pinned (OpenSpec.upto kernelOrderSpec)

/-- 'fairlinklaw31.KernelBefore', WHERE WHAT IT READS IS OF BULK AT MOST 1048576: true; the input reads as it did. -/
def kernelBeforeUptoRow : OpenClaim := { program := "ytococphklfbidaa", sum := "46c503858f89c9a52dff8634a2f61682d7944c5309a5b16a9b9351cf8e531903", func := "fairlink/fairlinklaw31.KernelBefore", spec := "kernelBefore", inPlace := ["slices.overlaps[fairlink/kernel.Event]"], unfollowed := true, recurses := true, apart := false, narrowed := true }
def KernelBeforeUptoSaid : Prop := kernelBeforeUptoRow.holds Try.pinned (OpenSpec.upto kernelBeforeSpec)

/-- 'fairlinklaw31.KernelUntil', WHERE WHAT IT READS IS OF BULK AT MOST 1048576: true; the input reads as it did. -/
def kernelUntilUptoRow : OpenClaim := { program := "ytococphklfbidaa", sum := "46c503858f89c9a52dff8634a2f61682d7944c5309a5b16a9b9351cf8e531903", func := "fairlink/fairlinklaw31.KernelUntil", spec := "kernelUntil", inPlace := ["slices.overlaps[fairlink/kernel.Event]"], unfollowed := true, recurses := true, apart := false, narrowed := true }
def KernelUntilUptoSaid : Prop := kernelUntilUptoRow.holds Try.pinned (OpenSpec.upto kernelUntilSpec)

/-- 'fairlinklaw31.KernelCancels', WHERE WHAT IT READS IS OF BULK AT MOST 1048576: true; the input reads as it did. -/
def kernelCancelsUptoRow : OpenClaim := { program := "ytococphklfbidaa", sum := "46c503858f89c9a52dff8634a2f61682d7944c5309a5b16a9b9351cf8e531903", func := "fairlink/fairlinklaw31.KernelCancels", spec := "kernelCancels", inPlace := ["slices.overlaps[fairlink/kernel.Event]"], unfollowed := true, recurses := true, apart := false, narrowed := true }
def KernelCancelsUptoSaid : Prop := kernelCancelsUptoRow.holds Try.pinned (OpenSpec.upto kernelCancelsSpec)

/-- 'fairlinklaw31.KernelQueue', WHERE WHAT IT READS IS OF BULK AT MOST 1048576: true; the input reads as it did. -/
def kernelQueueUptoRow : OpenClaim := { program := "ytococphklfbidaa", sum := "46c503858f89c9a52dff8634a2f61682d7944c5309a5b16a9b9351cf8e531903", func := "fairlink/fairlinklaw31.KernelQueue", spec := "kernelQueue", inPlace := ["slices.overlaps[fairlink/kernel.Event]"], unfollowed := true, recurses := true, apart := false, narrowed := true }
def KernelQueueUptoSaid : Prop := kernelQueueUptoRow.holds Try.pinned (OpenSpec.upto kernelQueueSpec)

/-- 'fairlinklaw31.KernelNow', WHERE WHAT IT READS IS OF BULK AT MOST 1048576: true; the input reads as it did. -/
def kernelNowUptoRow : OpenClaim := { program := "ytococphklfbidaa", sum := "46c503858f89c9a52dff8634a2f61682d7944c5309a5b16a9b9351cf8e531903", func := "fairlink/fairlinklaw31.KernelNow", spec := "kernelNow", inPlace := ["slices.overlaps[fairlink/kernel.Event]"], unfollowed := true, recurses := true, apart := false, narrowed := true }
def KernelNowUptoSaid : Prop := kernelNowUptoRow.holds Try.pinned (OpenSpec.upto kernelNowSpec)

end Rows
end Go.Proofs.Ytococphklfbidaa
