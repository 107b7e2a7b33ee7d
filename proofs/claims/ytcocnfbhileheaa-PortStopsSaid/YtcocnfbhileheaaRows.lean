/-
  No cell of these rows narrows 'for every input' (looked for: loops, veiled, ifaces, maps, wideKeys, modest, calm, conditions, laid).
  DERIVED. THE GIVEN ROWS OF THIS SEAT. 9 by the template 'for every input the law returns true; each argument reads behind the call as it read before'; 0 by the template 'total and deterministic' (their statements: YtcocnfbhileheaaTotals.lean).
  GIVEN WITH THE SEED: the statements are not yours to turn. If you find one false, say at which input.
  Laid BY PROGRAM, IN A SANDBOX (cutbox-rows.mjs): the forced cells as the released guide's own fill.sh prints them over the translation fc2252974b44d299… (all of the seat's roots in one cut). By AI agents, Wed Nov 11 2026. No macro, syntax, notation, axiom, sorry.
-/
import Derived.Test.YtcocnfbhileheaaChecked
import GoSem.Claim
import GoSem.ClaimJoined
import GoSem.ClaimMapViews
import Derived.JoinedTies
import Derived.KernelRfl
namespace Go.Proofs.Ytcocnfbhileheaa
/- THE CELL 'sum', in the pinned program and in every row, IS THE sha256 OF THE DUMP (.gsa) THAT YtcocnfbhileheaaProg.lean LOADS. Nothing in Lean hashes anything: it is a label: what it is worth is what the hold of that sum in a sandbox is worth. -/
noncomputable def Try.pinned : Pinned := { name := "ytcocnfbhileheaa", sum := "fc2252974b44d2990df0a115c996399889687be9046c773140544e24062b6d38", checked := Try.checked }
namespace Rows
def none {H : Type} : Left H := { results := [], args := [] }

/-- 'fairlinklaw11.PortStale': WHATEVER THE INPUT: true; the input reads as it did. -/
def portStaleSpec : ChangeSpec := { name := "portStale", fn := fun _ => fun
  | [d1, d2] => { results := [.lit (.bool true)], args := [d1, d2] }
  | _ => none }
def portStaleRow : OpenClaim := { program := "ytcocnfbhileheaa", sum := "fc2252974b44d2990df0a115c996399889687be9046c773140544e24062b6d38", func := "fairlink/fairlinklaw11.PortStale", spec := "portStale", unfollowed := true, recurses := true, apart := false }
def PortStaleSaid : Prop := portStaleRow.holds Try.pinned (OpenSpec.ofChange portStaleSpec)

/-- ITS FALSE NEIGHBOUR: 'it returns false'. Refute it at one input. -/
def portStaleWrong : ChangeSpec := { name := "portStale", fn := fun _ => fun
  | [d1, d2] => { results := [.lit (.bool false)], args := [d1, d2] }
  | _ => none }
def PortStaleWrongFalsely : Prop := portStaleRow.holds Try.pinned (OpenSpec.ofChange portStaleWrong)

/-- 'fairlinklaw11.PortPackets': WHATEVER THE INPUT: true; the input reads as it did. -/
def portPacketsSpec : ChangeSpec := { name := "portPackets", fn := fun _ => fun
  | [d1, d2, d3] => { results := [.lit (.bool true)], args := [d1, d2, d3] }
  | _ => none }
def portPacketsRow : OpenClaim := { program := "ytcocnfbhileheaa", sum := "fc2252974b44d2990df0a115c996399889687be9046c773140544e24062b6d38", func := "fairlink/fairlinklaw11.PortPackets", spec := "portPackets", unfollowed := true, recurses := true, apart := false }
def PortPacketsSaid : Prop := portPacketsRow.holds Try.pinned (OpenSpec.ofChange portPacketsSpec)

/-- ITS FALSE NEIGHBOUR: 'it returns false'. Refute it at one input. -/
def portPacketsWrong : ChangeSpec := { name := "portPackets", fn := fun _ => fun
  | [d1, d2, d3] => { results := [.lit (.bool false)], args := [d1, d2, d3] }
  | _ => none }
def PortPacketsWrongFalsely : Prop := portPacketsRow.holds Try.pinned (OpenSpec.ofChange portPacketsWrong)

/-- 'fairlinklaw11.PortPrefix': WHATEVER THE INPUT: true; the input reads as it did. -/
def portPrefixSpec : ChangeSpec := { name := "portPrefix", fn := fun _ => fun
  | [d1, d2, d3, d4] => { results := [.lit (.bool true)], args := [d1, d2, d3, d4] }
  | _ => none }
def portPrefixRow : OpenClaim := { program := "ytcocnfbhileheaa", sum := "fc2252974b44d2990df0a115c996399889687be9046c773140544e24062b6d38", func := "fairlink/fairlinklaw11.PortPrefix", spec := "portPrefix", unfollowed := true, recurses := true, apart := false }
def PortPrefixSaid : Prop := portPrefixRow.holds Try.pinned (OpenSpec.ofChange portPrefixSpec)

/-- ITS FALSE NEIGHBOUR: 'it returns false'. Refute it at one input. -/
def portPrefixWrong : ChangeSpec := { name := "portPrefix", fn := fun _ => fun
  | [d1, d2, d3, d4] => { results := [.lit (.bool false)], args := [d1, d2, d3, d4] }
  | _ => none }
def PortPrefixWrongFalsely : Prop := portPrefixRow.holds Try.pinned (OpenSpec.ofChange portPrefixWrong)

/-- 'fairlinklaw11.PortSilence': WHATEVER THE INPUT: true; the input reads as it did. -/
def portSilenceSpec : ChangeSpec := { name := "portSilence", fn := fun _ => fun
  | [d1, d2, d3, d4] => { results := [.lit (.bool true)], args := [d1, d2, d3, d4] }
  | _ => none }
def portSilenceRow : OpenClaim := { program := "ytcocnfbhileheaa", sum := "fc2252974b44d2990df0a115c996399889687be9046c773140544e24062b6d38", func := "fairlink/fairlinklaw11.PortSilence", spec := "portSilence", unfollowed := true, recurses := true, apart := false }
def PortSilenceSaid : Prop := portSilenceRow.holds Try.pinned (OpenSpec.ofChange portSilenceSpec)

/-- ITS FALSE NEIGHBOUR: 'it returns false'. Refute it at one input. -/
def portSilenceWrong : ChangeSpec := { name := "portSilence", fn := fun _ => fun
  | [d1, d2, d3, d4] => { results := [.lit (.bool false)], args := [d1, d2, d3, d4] }
  | _ => none }
def PortSilenceWrongFalsely : Prop := portSilenceRow.holds Try.pinned (OpenSpec.ofChange portSilenceWrong)

/-- 'fairlinklaw11.PortComplete': WHATEVER THE INPUT: true; the input reads as it did. -/
def portCompleteSpec : ChangeSpec := { name := "portComplete", fn := fun _ => fun
  | [d1, d2, d3, d4] => { results := [.lit (.bool true)], args := [d1, d2, d3, d4] }
  | _ => none }
def portCompleteRow : OpenClaim := { program := "ytcocnfbhileheaa", sum := "fc2252974b44d2990df0a115c996399889687be9046c773140544e24062b6d38", func := "fairlink/fairlinklaw11.PortComplete", spec := "portComplete", unfollowed := true, recurses := true, apart := false }
def PortCompleteSaid : Prop := portCompleteRow.holds Try.pinned (OpenSpec.ofChange portCompleteSpec)

/-- ITS FALSE NEIGHBOUR: 'it returns false'. Refute it at one input. -/
def portCompleteWrong : ChangeSpec := { name := "portComplete", fn := fun _ => fun
  | [d1, d2, d3, d4] => { results := [.lit (.bool false)], args := [d1, d2, d3, d4] }
  | _ => none }
def PortCompleteWrongFalsely : Prop := portCompleteRow.holds Try.pinned (OpenSpec.ofChange portCompleteWrong)

/-- 'fairlinklaw11.PortStops': WHATEVER THE INPUT: true; the input reads as it did. -/
def portStopsSpec : ChangeSpec := { name := "portStops", fn := fun _ => fun
  | [d1, d2] => { results := [.lit (.bool true)], args := [d1, d2] }
  | _ => none }
def portStopsRow : OpenClaim := { program := "ytcocnfbhileheaa", sum := "fc2252974b44d2990df0a115c996399889687be9046c773140544e24062b6d38", func := "fairlink/fairlinklaw11.PortStops", spec := "portStops", unfollowed := true, recurses := true, apart := false }
def PortStopsSaid : Prop := portStopsRow.holds Try.pinned (OpenSpec.ofChange portStopsSpec)

/-- ITS FALSE NEIGHBOUR: 'it returns false'. Refute it at one input. -/
def portStopsWrong : ChangeSpec := { name := "portStops", fn := fun _ => fun
  | [d1, d2] => { results := [.lit (.bool false)], args := [d1, d2] }
  | _ => none }
def PortStopsWrongFalsely : Prop := portStopsRow.holds Try.pinned (OpenSpec.ofChange portStopsWrong)

/-- 'fairlinklaw11.PortRestarts': WHATEVER THE INPUT: true; the input reads as it did. -/
def portRestartsSpec : ChangeSpec := { name := "portRestarts", fn := fun _ => fun
  | [d1, d2, d3, d4] => { results := [.lit (.bool true)], args := [d1, d2, d3, d4] }
  | _ => none }
def portRestartsRow : OpenClaim := { program := "ytcocnfbhileheaa", sum := "fc2252974b44d2990df0a115c996399889687be9046c773140544e24062b6d38", func := "fairlink/fairlinklaw11.PortRestarts", spec := "portRestarts", unfollowed := true, recurses := true, apart := false }
def PortRestartsSaid : Prop := portRestartsRow.holds Try.pinned (OpenSpec.ofChange portRestartsSpec)

/-- ITS FALSE NEIGHBOUR: 'it returns false'. Refute it at one input. -/
def portRestartsWrong : ChangeSpec := { name := "portRestarts", fn := fun _ => fun
  | [d1, d2, d3, d4] => { results := [.lit (.bool false)], args := [d1, d2, d3, d4] }
  | _ => none }
def PortRestartsWrongFalsely : Prop := portRestartsRow.holds Try.pinned (OpenSpec.ofChange portRestartsWrong)

/-- 'fairlinklaw11.PortOffers': WHATEVER THE INPUT: true; the input reads as it did. -/
def portOffersSpec : ChangeSpec := { name := "portOffers", fn := fun _ => fun
  | [d1, d2, d3] => { results := [.lit (.bool true)], args := [d1, d2, d3] }
  | _ => none }
def portOffersRow : OpenClaim := { program := "ytcocnfbhileheaa", sum := "fc2252974b44d2990df0a115c996399889687be9046c773140544e24062b6d38", func := "fairlink/fairlinklaw11.PortOffers", spec := "portOffers", unfollowed := true, recurses := true, apart := false }
def PortOffersSaid : Prop := portOffersRow.holds Try.pinned (OpenSpec.ofChange portOffersSpec)

/-- ITS FALSE NEIGHBOUR: 'it returns false'. Refute it at one input. -/
def portOffersWrong : ChangeSpec := { name := "portOffers", fn := fun _ => fun
  | [d1, d2, d3] => { results := [.lit (.bool false)], args := [d1, d2, d3] }
  | _ => none }
def PortOffersWrongFalsely : Prop := portOffersRow.holds Try.pinned (OpenSpec.ofChange portOffersWrong)

/-- 'fairlinklaw11.PortCalls': WHATEVER THE INPUT: true; the input reads as it did. -/
def portCallsSpec : ChangeSpec := { name := "portCalls", fn := fun _ => fun
  | [d1, d2] => { results := [.lit (.bool true)], args := [d1, d2] }
  | _ => none }
def portCallsRow : OpenClaim := { program := "ytcocnfbhileheaa", sum := "fc2252974b44d2990df0a115c996399889687be9046c773140544e24062b6d38", func := "fairlink/fairlinklaw11.PortCalls", spec := "portCalls", unfollowed := true, recurses := true, apart := false }
def PortCallsSaid : Prop := portCallsRow.holds Try.pinned (OpenSpec.ofChange portCallsSpec)

/-- ITS FALSE NEIGHBOUR: 'it returns false'. Refute it at one input. -/
def portCallsWrong : ChangeSpec := { name := "portCalls", fn := fun _ => fun
  | [d1, d2] => { results := [.lit (.bool false)], args := [d1, d2] }
  | _ => none }
def PortCallsWrongFalsely : Prop := portCallsRow.holds Try.pinned (OpenSpec.ofChange portCallsWrong)

/- THE SECOND FORM. 'bulk': how many values and letters a reading holds, each counted each time it is reached (what is shared counts as often as it is met; a slice's spare places count too). A statement '..UptoSaid' is the law's where the arguments, and the package variables that the reading takes, are together of bulk at most 1048576: NARROWER than '..Said'. Prove '..Said' where nothing that the law and all that it calls make is longer than what came in: it says more and counts as full. Else prove '..UptoSaid'. A law counts once. -/
mutual
def uptoBulk {H : Type} : DataW H → Nat
  | .lit (.string bytes) => bytes.length + 1
  | .lit _ => 1
  | .nil => 1
  | .ptr d => uptoBulk d + 1
  | .slice elems spare => uptoBulkAll elems + uptoBulkAll spare + 1
  | .agg parts => uptoBulkAll parts + 1
  | .iface _ d => uptoBulk d + 1
  | .map entries => uptoBulkEntries entries + 1
  | .held _ => 1
def uptoBulkAll {H : Type} : List (DataW H) → Nat
  | [] => 0
  | d :: r => uptoBulk d + uptoBulkAll r
def uptoBulkEntries {H : Type} : List (Lit × DataW H) → Nat
  | [] => 0
  | x :: r => uptoBulkEntry x + uptoBulkEntries r
def uptoBulkEntry {H : Type} : Lit × DataW H → Nat
  | (.string bytes, d) => bytes.length + uptoBulk d + 1
  | (_, d) => uptoBulk d + 1
 end
def uptoSmall : (H : Type) → List (DataW H) → Bool := fun _ ds => decide (uptoBulkAll ds ≤ 1048576)
def OpenSpec.upto (s : _root_.Go.ChangeSpec) : _root_.Go.OpenSpec := { _root_.Go.OpenSpec.ofChange s with cond := some uptoSmall }

/-- 'fairlinklaw11.PortStale', WHERE WHAT IT READS IS OF BULK AT MOST 1048576: true; the input reads as it did. -/
def portStaleUptoRow : OpenClaim := { program := "ytcocnfbhileheaa", sum := "fc2252974b44d2990df0a115c996399889687be9046c773140544e24062b6d38", func := "fairlink/fairlinklaw11.PortStale", spec := "portStale", unfollowed := true, recurses := true, apart := false, narrowed := true }
def PortStaleUptoSaid : Prop := portStaleUptoRow.holds Try.pinned (OpenSpec.upto portStaleSpec)

/-- 'fairlinklaw11.PortPackets', WHERE WHAT IT READS IS OF BULK AT MOST 1048576: true; the input reads as it did. -/
def portPacketsUptoRow : OpenClaim := { program := "ytcocnfbhileheaa", sum := "fc2252974b44d2990df0a115c996399889687be9046c773140544e24062b6d38", func := "fairlink/fairlinklaw11.PortPackets", spec := "portPackets", unfollowed := true, recurses := true, apart := false, narrowed := true }
def PortPacketsUptoSaid : Prop := portPacketsUptoRow.holds Try.pinned (OpenSpec.upto portPacketsSpec)

/-- 'fairlinklaw11.PortPrefix', WHERE WHAT IT READS IS OF BULK AT MOST 1048576: true; the input reads as it did. -/
def portPrefixUptoRow : OpenClaim := { program := "ytcocnfbhileheaa", sum := "fc2252974b44d2990df0a115c996399889687be9046c773140544e24062b6d38", func := "fairlink/fairlinklaw11.PortPrefix", spec := "portPrefix", unfollowed := true, recurses := true, apart := false, narrowed := true }
def PortPrefixUptoSaid : Prop := portPrefixUptoRow.holds Try.pinned (OpenSpec.upto portPrefixSpec)

/-- 'fairlinklaw11.PortSilence', WHERE WHAT IT READS IS OF BULK AT MOST 1048576: true; the input reads as it did. -/
def portSilenceUptoRow : OpenClaim := { program := "ytcocnfbhileheaa", sum := "fc2252974b44d2990df0a115c996399889687be9046c773140544e24062b6d38", func := "fairlink/fairlinklaw11.PortSilence", spec := "portSilence", unfollowed := true, recurses := true, apart := false, narrowed := true }
def PortSilenceUptoSaid : Prop := portSilenceUptoRow.holds Try.pinned (OpenSpec.upto portSilenceSpec)

/-- 'fairlinklaw11.PortComplete', WHERE WHAT IT READS IS OF BULK AT MOST 1048576: true; the input reads as it did. -/
def portCompleteUptoRow : OpenClaim := { program := "ytcocnfbhileheaa", sum := "fc2252974b44d2990df0a115c996399889687be9046c773140544e24062b6d38", func := "fairlink/fairlinklaw11.PortComplete", spec := "portComplete", unfollowed := true, recurses := true, apart := false, narrowed := true }
def PortCompleteUptoSaid : Prop := portCompleteUptoRow.holds Try.pinned (OpenSpec.upto portCompleteSpec)

/-- 'fairlinklaw11.PortStops', WHERE WHAT IT READS IS OF BULK AT MOST 1048576: true; the input reads as it did. -/
def portStopsUptoRow : OpenClaim := { program := "ytcocnfbhileheaa", sum := "fc2252974b44d2990df0a115c996399889687be9046c773140544e24062b6d38", func := "fairlink/fairlinklaw11.PortStops", spec := "portStops", unfollowed := true, recurses := true, apart := false, narrowed := true }
def PortStopsUptoSaid : Prop := portStopsUptoRow.holds Try.pinned (OpenSpec.upto portStopsSpec)

/-- 'fairlinklaw11.PortRestarts', WHERE WHAT IT READS IS OF BULK AT MOST 1048576: true; the input reads as it did. -/
def portRestartsUptoRow : OpenClaim := { program := "ytcocnfbhileheaa", sum := "fc2252974b44d2990df0a115c996399889687be9046c773140544e24062b6d38", func := "fairlink/fairlinklaw11.PortRestarts", spec := "portRestarts", unfollowed := true, recurses := true, apart := false, narrowed := true }
def PortRestartsUptoSaid : Prop := portRestartsUptoRow.holds Try.pinned (OpenSpec.upto portRestartsSpec)

/-- 'fairlinklaw11.PortOffers', WHERE WHAT IT READS IS OF BULK AT MOST 1048576: true; the input reads as it did. -/
def portOffersUptoRow : OpenClaim := { program := "ytcocnfbhileheaa", sum := "fc2252974b44d2990df0a115c996399889687be9046c773140544e24062b6d38", func := "fairlink/fairlinklaw11.PortOffers", spec := "portOffers", unfollowed := true, recurses := true, apart := false, narrowed := true }
def PortOffersUptoSaid : Prop := portOffersUptoRow.holds Try.pinned (OpenSpec.upto portOffersSpec)

/-- 'fairlinklaw11.PortCalls', WHERE WHAT IT READS IS OF BULK AT MOST 1048576: true; the input reads as it did. -/
def portCallsUptoRow : OpenClaim := { program := "ytcocnfbhileheaa", sum := "fc2252974b44d2990df0a115c996399889687be9046c773140544e24062b6d38", func := "fairlink/fairlinklaw11.PortCalls", spec := "portCalls", unfollowed := true, recurses := true, apart := false, narrowed := true }
def PortCallsUptoSaid : Prop := portCallsUptoRow.holds Try.pinned (OpenSpec.upto portCallsSpec)

end Rows
end Go.Proofs.Ytcocnfbhileheaa
