/-
  No cell of these rows narrows 'for every input' (looked for: loops, veiled, ifaces, maps, wideKeys, modest, calm, conditions, laid).
  DERIVED. THE GIVEN ROWS OF THIS SEAT. 8 by the template 'for every input the law returns true; each argument reads behind the call as it read before'; 0 by the template 'total and deterministic' (their statements: YtgpeekicpkgpmaaTotals.lean).
  GIVEN WITH THE SEED: the statements are not yours to turn. If you find one false, say at which input.
  Laid BY PROGRAM, IN A SANDBOX (cutbox-rows.mjs): the forced cells as the released guide's own fill.sh prints them over the translation 69f55b36eb2d07fd… (all of the seat's roots in one cut). By AI agents, Wed Nov 11 2026. No macro, syntax, notation, axiom, sorry.
-/
import Derived.Test.YtgpeekicpkgpmaaChecked
import GoSem.Claim
import GoSem.ClaimJoined
import GoSem.ClaimMapViews
import Derived.JoinedTies
import Derived.KernelRfl
namespace Go.Proofs.Ytgpeekicpkgpmaa
/- THE CELL 'sum', in the pinned program and in every row, IS THE sha256 OF THE DUMP (.gsa) THAT YtgpeekicpkgpmaaProg.lean LOADS. Nothing in Lean hashes anything: it is a label: what it is worth is what the hold of that sum in a sandbox is worth. -/
noncomputable def Try.pinned : Pinned := { name := "ytgpeekicpkgpmaa", sum := "69f55b36eb2d07fd03edc72e26160d9da344381b1b9e011e97667366667881fc", checked := Try.checked }
namespace Rows
def none {H : Type} : Left H := { results := [], args := [] }

/-- 'fairlinklaw06.RetryNaks': WHATEVER THE INPUT: true; the input reads as it did. -/
def retryNaksSpec : ChangeSpec := { name := "retryNaks", fn := fun _ => fun
  | [d1, d2, d3, d4] => { results := [.lit (.bool true)], args := [d1, d2, d3, d4] }
  | _ => none }
def retryNaksRow : OpenClaim := { program := "ytgpeekicpkgpmaa", sum := "69f55b36eb2d07fd03edc72e26160d9da344381b1b9e011e97667366667881fc", func := "fairlink/fairlinklaw06.RetryNaks", spec := "retryNaks", apart := false }
def RetryNaksSaid : Prop := retryNaksRow.holds Try.pinned (OpenSpec.ofChange retryNaksSpec)

/-- ITS FALSE NEIGHBOUR: 'it returns false'. Refute it at one input. -/
def retryNaksWrong : ChangeSpec := { name := "retryNaks", fn := fun _ => fun
  | [d1, d2, d3, d4] => { results := [.lit (.bool false)], args := [d1, d2, d3, d4] }
  | _ => none }
def RetryNaksWrongFalsely : Prop := retryNaksRow.holds Try.pinned (OpenSpec.ofChange retryNaksWrong)

/-- 'fairlinklaw06.RetryUnsent': WHATEVER THE INPUT: true; the input reads as it did. -/
def retryUnsentSpec : ChangeSpec := { name := "retryUnsent", fn := fun _ => fun
  | [d1, d2, d3, d4] => { results := [.lit (.bool true)], args := [d1, d2, d3, d4] }
  | _ => none }
def retryUnsentRow : OpenClaim := { program := "ytgpeekicpkgpmaa", sum := "69f55b36eb2d07fd03edc72e26160d9da344381b1b9e011e97667366667881fc", func := "fairlink/fairlinklaw06.RetryUnsent", spec := "retryUnsent", apart := false }
def RetryUnsentSaid : Prop := retryUnsentRow.holds Try.pinned (OpenSpec.ofChange retryUnsentSpec)

/-- ITS FALSE NEIGHBOUR: 'it returns false'. Refute it at one input. -/
def retryUnsentWrong : ChangeSpec := { name := "retryUnsent", fn := fun _ => fun
  | [d1, d2, d3, d4] => { results := [.lit (.bool false)], args := [d1, d2, d3, d4] }
  | _ => none }
def RetryUnsentWrongFalsely : Prop := retryUnsentRow.holds Try.pinned (OpenSpec.ofChange retryUnsentWrong)

/-- 'fairlinklaw06.RetrySends': WHATEVER THE INPUT: true; the input reads as it did. -/
def retrySendsSpec : ChangeSpec := { name := "retrySends", fn := fun _ => fun
  | [d1, d2, d3] => { results := [.lit (.bool true)], args := [d1, d2, d3] }
  | _ => none }
def retrySendsRow : OpenClaim := { program := "ytgpeekicpkgpmaa", sum := "69f55b36eb2d07fd03edc72e26160d9da344381b1b9e011e97667366667881fc", func := "fairlink/fairlinklaw06.RetrySends", spec := "retrySends", apart := false }
def RetrySendsSaid : Prop := retrySendsRow.holds Try.pinned (OpenSpec.ofChange retrySendsSpec)

/-- ITS FALSE NEIGHBOUR: 'it returns false'. Refute it at one input. -/
def retrySendsWrong : ChangeSpec := { name := "retrySends", fn := fun _ => fun
  | [d1, d2, d3] => { results := [.lit (.bool false)], args := [d1, d2, d3] }
  | _ => none }
def RetrySendsWrongFalsely : Prop := retrySendsRow.holds Try.pinned (OpenSpec.ofChange retrySendsWrong)

/-- 'fairlinklaw06.RetryPrefix': WHATEVER THE INPUT: true; the input reads as it did. -/
def retryPrefixSpec : ChangeSpec := { name := "retryPrefix", fn := fun _ => fun
  | [d] => { results := [.lit (.bool true)], args := [d] }
  | _ => none }
def retryPrefixRow : OpenClaim := { program := "ytgpeekicpkgpmaa", sum := "69f55b36eb2d07fd03edc72e26160d9da344381b1b9e011e97667366667881fc", func := "fairlink/fairlinklaw06.RetryPrefix", spec := "retryPrefix", apart := false }
def RetryPrefixSaid : Prop := retryPrefixRow.holds Try.pinned (OpenSpec.ofChange retryPrefixSpec)

/-- ITS FALSE NEIGHBOUR: 'it returns false'. Refute it at one input. -/
def retryPrefixWrong : ChangeSpec := { name := "retryPrefix", fn := fun _ => fun
  | [d] => { results := [.lit (.bool false)], args := [d] }
  | _ => none }
def RetryPrefixWrongFalsely : Prop := retryPrefixRow.holds Try.pinned (OpenSpec.ofChange retryPrefixWrong)

/-- 'fairlinklaw06.RetryReceives': WHATEVER THE INPUT: true; the input reads as it did. -/
def retryReceivesSpec : ChangeSpec := { name := "retryReceives", fn := fun _ => fun
  | [d] => { results := [.lit (.bool true)], args := [d] }
  | _ => none }
def retryReceivesRow : OpenClaim := { program := "ytgpeekicpkgpmaa", sum := "69f55b36eb2d07fd03edc72e26160d9da344381b1b9e011e97667366667881fc", func := "fairlink/fairlinklaw06.RetryReceives", spec := "retryReceives", apart := false }
def RetryReceivesSaid : Prop := retryReceivesRow.holds Try.pinned (OpenSpec.ofChange retryReceivesSpec)

/-- ITS FALSE NEIGHBOUR: 'it returns false'. Refute it at one input. -/
def retryReceivesWrong : ChangeSpec := { name := "retryReceives", fn := fun _ => fun
  | [d] => { results := [.lit (.bool false)], args := [d] }
  | _ => none }
def RetryReceivesWrongFalsely : Prop := retryReceivesRow.holds Try.pinned (OpenSpec.ofChange retryReceivesWrong)

/-- 'fairlinklaw06.RetryCompletes': WHATEVER THE INPUT: true; the input reads as it did. -/
def retryCompletesSpec : ChangeSpec := { name := "retryCompletes", fn := fun _ => fun
  | [d] => { results := [.lit (.bool true)], args := [d] }
  | _ => none }
def retryCompletesRow : OpenClaim := { program := "ytgpeekicpkgpmaa", sum := "69f55b36eb2d07fd03edc72e26160d9da344381b1b9e011e97667366667881fc", func := "fairlink/fairlinklaw06.RetryCompletes", spec := "retryCompletes", apart := false }
def RetryCompletesSaid : Prop := retryCompletesRow.holds Try.pinned (OpenSpec.ofChange retryCompletesSpec)

/-- ITS FALSE NEIGHBOUR: 'it returns false'. Refute it at one input. -/
def retryCompletesWrong : ChangeSpec := { name := "retryCompletes", fn := fun _ => fun
  | [d] => { results := [.lit (.bool false)], args := [d] }
  | _ => none }
def RetryCompletesWrongFalsely : Prop := retryCompletesRow.holds Try.pinned (OpenSpec.ofChange retryCompletesWrong)

/-- 'fairlinklaw06.RetryWraps': WHATEVER THE INPUT: true; the input reads as it did. -/
def retryWrapsSpec : ChangeSpec := { name := "retryWraps", fn := fun _ => fun
  | [d1, d2] => { results := [.lit (.bool true)], args := [d1, d2] }
  | _ => none }
def retryWrapsRow : OpenClaim := { program := "ytgpeekicpkgpmaa", sum := "69f55b36eb2d07fd03edc72e26160d9da344381b1b9e011e97667366667881fc", func := "fairlink/fairlinklaw06.RetryWraps", spec := "retryWraps", apart := false }
def RetryWrapsSaid : Prop := retryWrapsRow.holds Try.pinned (OpenSpec.ofChange retryWrapsSpec)

/-- ITS FALSE NEIGHBOUR: 'it returns false'. Refute it at one input. -/
def retryWrapsWrong : ChangeSpec := { name := "retryWraps", fn := fun _ => fun
  | [d1, d2] => { results := [.lit (.bool false)], args := [d1, d2] }
  | _ => none }
def RetryWrapsWrongFalsely : Prop := retryWrapsRow.holds Try.pinned (OpenSpec.ofChange retryWrapsWrong)

/-- 'fairlinklaw06.RetryNothing': WHATEVER THE INPUT: true; the input reads as it did. -/
def retryNothingSpec : ChangeSpec := { name := "retryNothing", fn := fun _ => fun
  | [d1, d2] => { results := [.lit (.bool true)], args := [d1, d2] }
  | _ => none }
def retryNothingRow : OpenClaim := { program := "ytgpeekicpkgpmaa", sum := "69f55b36eb2d07fd03edc72e26160d9da344381b1b9e011e97667366667881fc", func := "fairlink/fairlinklaw06.RetryNothing", spec := "retryNothing", apart := false }
def RetryNothingSaid : Prop := retryNothingRow.holds Try.pinned (OpenSpec.ofChange retryNothingSpec)

/-- ITS FALSE NEIGHBOUR: 'it returns false'. Refute it at one input. -/
def retryNothingWrong : ChangeSpec := { name := "retryNothing", fn := fun _ => fun
  | [d1, d2] => { results := [.lit (.bool false)], args := [d1, d2] }
  | _ => none }
def RetryNothingWrongFalsely : Prop := retryNothingRow.holds Try.pinned (OpenSpec.ofChange retryNothingWrong)

/- THE SECOND FORM. 'bulk': how many values and letters a reading holds, each counted each time it is reached (what is shared counts as often as it is met; a slice's spare places count too). A statement '..UptoSaid' is the law's where the arguments, and the package variables that the reading takes, are together of bulk at most 1048576: NARROWER than '..Said'. Prove '..Said' where nothing that the law and all that it calls make is longer than what came in: it says more and counts as full. Else prove '..UptoSaid'. A law counts once. -/
mutual
def uptoBulk {H : Type} : DataW H → Nat
  | .lit (.string bytes) => bytes.length + 1
  | .lit _ => 1
  | .nil => 1
  | .ptr d => uptoBulk d + 1
  | .slice elems spare => uptoBulkAll elems + uptoBulkAll spare + 1
  | .agg parts => uptoBulkAll parts + 1
  | .iface _ d => uptoBulk d + 1
  | .map entries => uptoBulkEntries entries + 1
  | .held _ => 1
def uptoBulkAll {H : Type} : List (DataW H) → Nat
  | [] => 0
  | d :: r => uptoBulk d + uptoBulkAll r
def uptoBulkEntries {H : Type} : List (Lit × DataW H) → Nat
  | [] => 0
  | x :: r => uptoBulkEntry x + uptoBulkEntries r
def uptoBulkEntry {H : Type} : Lit × DataW H → Nat
  | (.string bytes, d) => bytes.length + uptoBulk d + 1
  | (_, d) => uptoBulk d + 1
 end
def uptoSmall : (H : Type) → List (DataW H) → Bool := fun _ ds => decide (uptoBulkAll ds ≤ 1048576)
def OpenSpec.upto (s : _root_.Go.ChangeSpec) : _root_.Go.OpenSpec := { _root_.Go.OpenSpec.ofChange s with cond := some uptoSmall }

/-- 'fairlinklaw06.RetryNaks', WHERE WHAT IT READS IS OF BULK AT MOST 1048576: true; the input reads as it did. -/
def retryNaksUptoRow : OpenClaim := { program := "ytgpeekicpkgpmaa", sum := "69f55b36eb2d07fd03edc72e26160d9da344381b1b9e011e97667366667881fc", func := "fairlink/fairlinklaw06.RetryNaks", spec := "retryNaks", apart := false, narrowed := true }
def RetryNaksUptoSaid : Prop := retryNaksUptoRow.holds Try.pinned (OpenSpec.upto retryNaksSpec)

/-- 'fairlinklaw06.RetryUnsent', WHERE WHAT IT READS IS OF BULK AT MOST 1048576: true; the input reads as it did. -/
def retryUnsentUptoRow : OpenClaim := { program := "ytgpeekicpkgpmaa", sum := "69f55b36eb2d07fd03edc72e26160d9da344381b1b9e011e97667366667881fc", func := "fairlink/fairlinklaw06.RetryUnsent", spec := "retryUnsent", apart := false, narrowed := true }
def RetryUnsentUptoSaid : Prop := retryUnsentUptoRow.holds Try.pinned (OpenSpec.upto retryUnsentSpec)

/-- 'fairlinklaw06.RetrySends', WHERE WHAT IT READS IS OF BULK AT MOST 1048576: true; the input reads as it did. -/
def retrySendsUptoRow : OpenClaim := { program := "ytgpeekicpkgpmaa", sum := "69f55b36eb2d07fd03edc72e26160d9da344381b1b9e011e97667366667881fc", func := "fairlink/fairlinklaw06.RetrySends", spec := "retrySends", apart := false, narrowed := true }
def RetrySendsUptoSaid : Prop := retrySendsUptoRow.holds Try.pinned (OpenSpec.upto retrySendsSpec)

/-- 'fairlinklaw06.RetryPrefix', WHERE WHAT IT READS IS OF BULK AT MOST 1048576: true; the input reads as it did. -/
def retryPrefixUptoRow : OpenClaim := { program := "ytgpeekicpkgpmaa", sum := "69f55b36eb2d07fd03edc72e26160d9da344381b1b9e011e97667366667881fc", func := "fairlink/fairlinklaw06.RetryPrefix", spec := "retryPrefix", apart := false, narrowed := true }
def RetryPrefixUptoSaid : Prop := retryPrefixUptoRow.holds Try.pinned (OpenSpec.upto retryPrefixSpec)

/-- 'fairlinklaw06.RetryReceives', WHERE WHAT IT READS IS OF BULK AT MOST 1048576: true; the input reads as it did. -/
def retryReceivesUptoRow : OpenClaim := { program := "ytgpeekicpkgpmaa", sum := "69f55b36eb2d07fd03edc72e26160d9da344381b1b9e011e97667366667881fc", func := "fairlink/fairlinklaw06.RetryReceives", spec := "retryReceives", apart := false, narrowed := true }
def RetryReceivesUptoSaid : Prop := retryReceivesUptoRow.holds Try.pinned (OpenSpec.upto retryReceivesSpec)

/-- 'fairlinklaw06.RetryCompletes', WHERE WHAT IT READS IS OF BULK AT MOST 1048576: true; the input reads as it did. -/
def retryCompletesUptoRow : OpenClaim := { program := "ytgpeekicpkgpmaa", sum := "69f55b36eb2d07fd03edc72e26160d9da344381b1b9e011e97667366667881fc", func := "fairlink/fairlinklaw06.RetryCompletes", spec := "retryCompletes", apart := false, narrowed := true }
def RetryCompletesUptoSaid : Prop := retryCompletesUptoRow.holds Try.pinned (OpenSpec.upto retryCompletesSpec)

/-- 'fairlinklaw06.RetryWraps', WHERE WHAT IT READS IS OF BULK AT MOST 1048576: true; the input reads as it did. -/
def retryWrapsUptoRow : OpenClaim := { program := "ytgpeekicpkgpmaa", sum := "69f55b36eb2d07fd03edc72e26160d9da344381b1b9e011e97667366667881fc", func := "fairlink/fairlinklaw06.RetryWraps", spec := "retryWraps", apart := false, narrowed := true }
def RetryWrapsUptoSaid : Prop := retryWrapsUptoRow.holds Try.pinned (OpenSpec.upto retryWrapsSpec)

/-- 'fairlinklaw06.RetryNothing', WHERE WHAT IT READS IS OF BULK AT MOST 1048576: true; the input reads as it did. -/
def retryNothingUptoRow : OpenClaim := { program := "ytgpeekicpkgpmaa", sum := "69f55b36eb2d07fd03edc72e26160d9da344381b1b9e011e97667366667881fc", func := "fairlink/fairlinklaw06.RetryNothing", spec := "retryNothing", apart := false, narrowed := true }
def RetryNothingUptoSaid : Prop := retryNothingUptoRow.holds Try.pinned (OpenSpec.upto retryNothingSpec)

end Rows
end Go.Proofs.Ytgpeekicpkgpmaa
