/-
  No cell of these rows narrows 'for every input' (looked for: loops, veiled, ifaces, maps, wideKeys, modest, calm, conditions, laid).
  DERIVED. THE GIVEN ROWS OF THIS SEAT. 8 by the template 'for every input the law returns true; each argument reads behind the call as it read before'; 0 by the template 'total and deterministic' (their statements: YtekojekgjfefkaaTotals.lean).
  GIVEN WITH THE SEED: the statements are not yours to turn. If you find one false, say at which input.
  Laid BY PROGRAM, IN A SANDBOX (cutbox-rows.mjs): the forced cells as the released guide's own fill.sh prints them over the translation ccac1a325850f458… (all of the seat's roots in one cut). By AI agents, Wed Nov 11 2026. No macro, syntax, notation, axiom, sorry.
-/
import Derived.Test.YtekojekgjfefkaaChecked
import GoSem.Claim
import GoSem.ClaimJoined
import GoSem.ClaimMapViews
import Derived.JoinedTies
import Derived.KernelRfl
namespace Go.Proofs.Ytekojekgjfefkaa
/- THE CELL 'sum', in the pinned program and in every row, IS THE sha256 OF THE DUMP (.gsa) THAT YtekojekgjfefkaaProg.lean LOADS. Nothing in Lean hashes anything: it is a label: what it is worth is what the hold of that sum in a sandbox is worth. -/
noncomputable def Try.pinned : Pinned := { name := "ytekojekgjfefkaa", sum := "ccac1a325850f4583fe0fcfc7179ebcb6c8f2bf0816b8a24188db5a0734aa469", checked := Try.checked }
namespace Rows
def none {H : Type} : Left H := { results := [], args := [] }

/-- 'fairlinklaw05.CableNew': WHATEVER THE INPUT: true; the input reads as it did. -/
def cableNewSpec : ChangeSpec := { name := "cableNew", fn := fun _ => fun
  | [d1, d2] => { results := [.lit (.bool true)], args := [d1, d2] }
  | _ => none }
def cableNewRow : OpenClaim := { program := "ytekojekgjfefkaa", sum := "ccac1a325850f4583fe0fcfc7179ebcb6c8f2bf0816b8a24188db5a0734aa469", func := "fairlink/fairlinklaw05.CableNew", spec := "cableNew", unfollowed := true, recurses := true, apart := false }
def CableNewSaid : Prop := cableNewRow.holds Try.pinned (OpenSpec.ofChange cableNewSpec)

/-- ITS FALSE NEIGHBOUR: 'it returns false'. Refute it at one input. -/
def cableNewWrong : ChangeSpec := { name := "cableNew", fn := fun _ => fun
  | [d1, d2] => { results := [.lit (.bool false)], args := [d1, d2] }
  | _ => none }
def CableNewWrongFalsely : Prop := cableNewRow.holds Try.pinned (OpenSpec.ofChange cableNewWrong)

/-- 'fairlinklaw05.CableCarries': WHATEVER THE INPUT: true; the input reads as it did. -/
def cableCarriesSpec : ChangeSpec := { name := "cableCarries", fn := fun _ => fun
  | [d1, d2] => { results := [.lit (.bool true)], args := [d1, d2] }
  | _ => none }
def cableCarriesRow : OpenClaim := { program := "ytekojekgjfefkaa", sum := "ccac1a325850f4583fe0fcfc7179ebcb6c8f2bf0816b8a24188db5a0734aa469", func := "fairlink/fairlinklaw05.CableCarries", spec := "cableCarries", unfollowed := true, recurses := true, apart := false }
def CableCarriesSaid : Prop := cableCarriesRow.holds Try.pinned (OpenSpec.ofChange cableCarriesSpec)

/-- ITS FALSE NEIGHBOUR: 'it returns false'. Refute it at one input. -/
def cableCarriesWrong : ChangeSpec := { name := "cableCarries", fn := fun _ => fun
  | [d1, d2] => { results := [.lit (.bool false)], args := [d1, d2] }
  | _ => none }
def CableCarriesWrongFalsely : Prop := cableCarriesRow.holds Try.pinned (OpenSpec.ofChange cableCarriesWrong)

/-- 'fairlinklaw05.CableFaults': WHATEVER THE INPUT: true; the input reads as it did. -/
def cableFaultsSpec : ChangeSpec := { name := "cableFaults", fn := fun _ => fun
  | [d1, d2, d3] => { results := [.lit (.bool true)], args := [d1, d2, d3] }
  | _ => none }
def cableFaultsRow : OpenClaim := { program := "ytekojekgjfefkaa", sum := "ccac1a325850f4583fe0fcfc7179ebcb6c8f2bf0816b8a24188db5a0734aa469", func := "fairlink/fairlinklaw05.CableFaults", spec := "cableFaults", unfollowed := true, recurses := true, apart := false }
def CableFaultsSaid : Prop := cableFaultsRow.holds Try.pinned (OpenSpec.ofChange cableFaultsSpec)

/-- ITS FALSE NEIGHBOUR: 'it returns false'. Refute it at one input. -/
def cableFaultsWrong : ChangeSpec := { name := "cableFaults", fn := fun _ => fun
  | [d1, d2, d3] => { results := [.lit (.bool false)], args := [d1, d2, d3] }
  | _ => none }
def CableFaultsWrongFalsely : Prop := cableFaultsRow.holds Try.pinned (OpenSpec.ofChange cableFaultsWrong)

/-- 'fairlinklaw05.CableFull': WHATEVER THE INPUT: true; the input reads as it did. -/
def cableFullSpec : ChangeSpec := { name := "cableFull", fn := fun _ => fun
  | [d] => { results := [.lit (.bool true)], args := [d] }
  | _ => none }
def cableFullRow : OpenClaim := { program := "ytekojekgjfefkaa", sum := "ccac1a325850f4583fe0fcfc7179ebcb6c8f2bf0816b8a24188db5a0734aa469", func := "fairlink/fairlinklaw05.CableFull", spec := "cableFull", unfollowed := true, recurses := true, apart := false }
def CableFullSaid : Prop := cableFullRow.holds Try.pinned (OpenSpec.ofChange cableFullSpec)

/-- ITS FALSE NEIGHBOUR: 'it returns false'. Refute it at one input. -/
def cableFullWrong : ChangeSpec := { name := "cableFull", fn := fun _ => fun
  | [d] => { results := [.lit (.bool false)], args := [d] }
  | _ => none }
def CableFullWrongFalsely : Prop := cableFullRow.holds Try.pinned (OpenSpec.ofChange cableFullWrong)

/-- 'fairlinklaw05.CableRuns': WHATEVER THE INPUT: true; the input reads as it did. -/
def cableRunsSpec : ChangeSpec := { name := "cableRuns", fn := fun _ => fun
  | [d1, d2, d3] => { results := [.lit (.bool true)], args := [d1, d2, d3] }
  | _ => none }
def cableRunsRow : OpenClaim := { program := "ytekojekgjfefkaa", sum := "ccac1a325850f4583fe0fcfc7179ebcb6c8f2bf0816b8a24188db5a0734aa469", func := "fairlink/fairlinklaw05.CableRuns", spec := "cableRuns", unfollowed := true, recurses := true, apart := false }
def CableRunsSaid : Prop := cableRunsRow.holds Try.pinned (OpenSpec.ofChange cableRunsSpec)

/-- ITS FALSE NEIGHBOUR: 'it returns false'. Refute it at one input. -/
def cableRunsWrong : ChangeSpec := { name := "cableRuns", fn := fun _ => fun
  | [d1, d2, d3] => { results := [.lit (.bool false)], args := [d1, d2, d3] }
  | _ => none }
def CableRunsWrongFalsely : Prop := cableRunsRow.holds Try.pinned (OpenSpec.ofChange cableRunsWrong)

/-- 'fairlinklaw05.CableBalances': WHATEVER THE INPUT: true; the input reads as it did. -/
def cableBalancesSpec : ChangeSpec := { name := "cableBalances", fn := fun _ => fun
  | [d1, d2, d3] => { results := [.lit (.bool true)], args := [d1, d2, d3] }
  | _ => none }
def cableBalancesRow : OpenClaim := { program := "ytekojekgjfefkaa", sum := "ccac1a325850f4583fe0fcfc7179ebcb6c8f2bf0816b8a24188db5a0734aa469", func := "fairlink/fairlinklaw05.CableBalances", spec := "cableBalances", unfollowed := true, recurses := true, apart := false }
def CableBalancesSaid : Prop := cableBalancesRow.holds Try.pinned (OpenSpec.ofChange cableBalancesSpec)

/-- ITS FALSE NEIGHBOUR: 'it returns false'. Refute it at one input. -/
def cableBalancesWrong : ChangeSpec := { name := "cableBalances", fn := fun _ => fun
  | [d1, d2, d3] => { results := [.lit (.bool false)], args := [d1, d2, d3] }
  | _ => none }
def CableBalancesWrongFalsely : Prop := cableBalancesRow.holds Try.pinned (OpenSpec.ofChange cableBalancesWrong)

/-- 'fairlinklaw05.CableCuts': WHATEVER THE INPUT: true; the input reads as it did. -/
def cableCutsSpec : ChangeSpec := { name := "cableCuts", fn := fun _ => fun
  | [d1, d2, d3] => { results := [.lit (.bool true)], args := [d1, d2, d3] }
  | _ => none }
def cableCutsRow : OpenClaim := { program := "ytekojekgjfefkaa", sum := "ccac1a325850f4583fe0fcfc7179ebcb6c8f2bf0816b8a24188db5a0734aa469", func := "fairlink/fairlinklaw05.CableCuts", spec := "cableCuts", unfollowed := true, recurses := true, apart := false }
def CableCutsSaid : Prop := cableCutsRow.holds Try.pinned (OpenSpec.ofChange cableCutsSpec)

/-- ITS FALSE NEIGHBOUR: 'it returns false'. Refute it at one input. -/
def cableCutsWrong : ChangeSpec := { name := "cableCuts", fn := fun _ => fun
  | [d1, d2, d3] => { results := [.lit (.bool false)], args := [d1, d2, d3] }
  | _ => none }
def CableCutsWrongFalsely : Prop := cableCutsRow.holds Try.pinned (OpenSpec.ofChange cableCutsWrong)

/-- 'fairlinklaw05.CableNil': WHATEVER THE INPUT: true; the input reads as it did. -/
def cableNilSpec : ChangeSpec := { name := "cableNil", fn := fun _ => fun
  | [d] => { results := [.lit (.bool true)], args := [d] }
  | _ => none }
def cableNilRow : OpenClaim := { program := "ytekojekgjfefkaa", sum := "ccac1a325850f4583fe0fcfc7179ebcb6c8f2bf0816b8a24188db5a0734aa469", func := "fairlink/fairlinklaw05.CableNil", spec := "cableNil", unfollowed := true, recurses := true, apart := false }
def CableNilSaid : Prop := cableNilRow.holds Try.pinned (OpenSpec.ofChange cableNilSpec)

/-- ITS FALSE NEIGHBOUR: 'it returns false'. Refute it at one input. -/
def cableNilWrong : ChangeSpec := { name := "cableNil", fn := fun _ => fun
  | [d] => { results := [.lit (.bool false)], args := [d] }
  | _ => none }
def CableNilWrongFalsely : Prop := cableNilRow.holds Try.pinned (OpenSpec.ofChange cableNilWrong)

/- THE SECOND FORM. 'bulk': how many values and letters a reading holds, each counted each time it is reached (what is shared counts as often as it is met; a slice's spare places count too). A statement '..UptoSaid' is the law's where the arguments, and the package variables that the reading takes, are together of bulk at most 1048576: NARROWER than '..Said'. Prove '..Said' where nothing that the law and all that it calls make is longer than what came in: it says more and counts as full. Else prove '..UptoSaid'. A law counts once. -/
mutual
def uptoBulk {H : Type} : DataW H → Nat
  | .lit (.string bytes) => bytes.length + 1
  | .lit _ => 1
  | .nil => 1
  | .ptr d => uptoBulk d + 1
  | .slice elems spare => uptoBulkAll elems + uptoBulkAll spare + 1
  | .agg parts => uptoBulkAll parts + 1
  | .iface _ d => uptoBulk d + 1
  | .map entries => uptoBulkEntries entries + 1
  | .held _ => 1
def uptoBulkAll {H : Type} : List (DataW H) → Nat
  | [] => 0
  | d :: r => uptoBulk d + uptoBulkAll r
def uptoBulkEntries {H : Type} : List (Lit × DataW H) → Nat
  | [] => 0
  | x :: r => uptoBulkEntry x + uptoBulkEntries r
def uptoBulkEntry {H : Type} : Lit × DataW H → Nat
  | (.string bytes, d) => bytes.length + uptoBulk d + 1
  | (_, d) => uptoBulk d + 1
 end
def uptoSmall : (H : Type) → List (DataW H) → Bool := fun _ ds => decide (uptoBulkAll ds ≤ 1048576)
def OpenSpec.upto (s : _root_.Go.ChangeSpec) : _root_.Go.OpenSpec := { _root_.Go.OpenSpec.ofChange s with cond := some uptoSmall }

/-- 'fairlinklaw05.CableNew', WHERE WHAT IT READS IS OF BULK AT MOST 1048576: true; the input reads as it did. -/
def cableNewUptoRow : OpenClaim := { program := "ytekojekgjfefkaa", sum := "ccac1a325850f4583fe0fcfc7179ebcb6c8f2bf0816b8a24188db5a0734aa469", func := "fairlink/fairlinklaw05.CableNew", spec := "cableNew", unfollowed := true, recurses := true, apart := false, narrowed := true }
def CableNewUptoSaid : Prop := cableNewUptoRow.holds Try.pinned (OpenSpec.upto cableNewSpec)

/-- 'fairlinklaw05.CableCarries', WHERE WHAT IT READS IS OF BULK AT MOST 1048576: true; the input reads as it did. -/
def cableCarriesUptoRow : OpenClaim := { program := "ytekojekgjfefkaa", sum := "ccac1a325850f4583fe0fcfc7179ebcb6c8f2bf0816b8a24188db5a0734aa469", func := "fairlink/fairlinklaw05.CableCarries", spec := "cableCarries", unfollowed := true, recurses := true, apart := false, narrowed := true }
def CableCarriesUptoSaid : Prop := cableCarriesUptoRow.holds Try.pinned (OpenSpec.upto cableCarriesSpec)

/-- 'fairlinklaw05.CableFaults', WHERE WHAT IT READS IS OF BULK AT MOST 1048576: true; the input reads as it did. -/
def cableFaultsUptoRow : OpenClaim := { program := "ytekojekgjfefkaa", sum := "ccac1a325850f4583fe0fcfc7179ebcb6c8f2bf0816b8a24188db5a0734aa469", func := "fairlink/fairlinklaw05.CableFaults", spec := "cableFaults", unfollowed := true, recurses := true, apart := false, narrowed := true }
def CableFaultsUptoSaid : Prop := cableFaultsUptoRow.holds Try.pinned (OpenSpec.upto cableFaultsSpec)

/-- 'fairlinklaw05.CableFull', WHERE WHAT IT READS IS OF BULK AT MOST 1048576: true; the input reads as it did. -/
def cableFullUptoRow : OpenClaim := { program := "ytekojekgjfefkaa", sum := "ccac1a325850f4583fe0fcfc7179ebcb6c8f2bf0816b8a24188db5a0734aa469", func := "fairlink/fairlinklaw05.CableFull", spec := "cableFull", unfollowed := true, recurses := true, apart := false, narrowed := true }
def CableFullUptoSaid : Prop := cableFullUptoRow.holds Try.pinned (OpenSpec.upto cableFullSpec)

/-- 'fairlinklaw05.CableRuns', WHERE WHAT IT READS IS OF BULK AT MOST 1048576: true; the input reads as it did. -/
def cableRunsUptoRow : OpenClaim := { program := "ytekojekgjfefkaa", sum := "ccac1a325850f4583fe0fcfc7179ebcb6c8f2bf0816b8a24188db5a0734aa469", func := "fairlink/fairlinklaw05.CableRuns", spec := "cableRuns", unfollowed := true, recurses := true, apart := false, narrowed := true }
def CableRunsUptoSaid : Prop := cableRunsUptoRow.holds Try.pinned (OpenSpec.upto cableRunsSpec)

/-- 'fairlinklaw05.CableBalances', WHERE WHAT IT READS IS OF BULK AT MOST 1048576: true; the input reads as it did. -/
def cableBalancesUptoRow : OpenClaim := { program := "ytekojekgjfefkaa", sum := "ccac1a325850f4583fe0fcfc7179ebcb6c8f2bf0816b8a24188db5a0734aa469", func := "fairlink/fairlinklaw05.CableBalances", spec := "cableBalances", unfollowed := true, recurses := true, apart := false, narrowed := true }
def CableBalancesUptoSaid : Prop := cableBalancesUptoRow.holds Try.pinned (OpenSpec.upto cableBalancesSpec)

/-- 'fairlinklaw05.CableCuts', WHERE WHAT IT READS IS OF BULK AT MOST 1048576: true; the input reads as it did. -/
def cableCutsUptoRow : OpenClaim := { program := "ytekojekgjfefkaa", sum := "ccac1a325850f4583fe0fcfc7179ebcb6c8f2bf0816b8a24188db5a0734aa469", func := "fairlink/fairlinklaw05.CableCuts", spec := "cableCuts", unfollowed := true, recurses := true, apart := false, narrowed := true }
def CableCutsUptoSaid : Prop := cableCutsUptoRow.holds Try.pinned (OpenSpec.upto cableCutsSpec)

/-- 'fairlinklaw05.CableNil', WHERE WHAT IT READS IS OF BULK AT MOST 1048576: true; the input reads as it did. -/
def cableNilUptoRow : OpenClaim := { program := "ytekojekgjfefkaa", sum := "ccac1a325850f4583fe0fcfc7179ebcb6c8f2bf0816b8a24188db5a0734aa469", func := "fairlink/fairlinklaw05.CableNil", spec := "cableNil", unfollowed := true, recurses := true, apart := false, narrowed := true }
def CableNilUptoSaid : Prop := cableNilUptoRow.holds Try.pinned (OpenSpec.upto cableNilSpec)

end Rows
end Go.Proofs.Ytekojekgjfefkaa
