/- What IntU needs besides. -/
import Derived.Test.YtckdblgobmofgaaGreatDoorRows
import Derived.Test.YtckdblgobmofgaaGreatDoorPkA1
import Derived.ProofKit
import Derived.OpenShut
import Derived.ShutString
import Derived.ChangeOld
import Derived.Below
namespace Go.Proofs.YtckdblgobmofgaaGreatDoor
open Go.ChangeShapes Go.WideShapes Go.ChangeAt Go.RowKit

def IsInt (k : IntKind) (v : Value) : Prop := ∃ x, v = .int k x ∧ (Lit.int k x).wf = true
section
variable {H : Type} {enc : TypeId × Value → H} {P : Program} {W : World} {base : Nat} {t e : TypeId} {v : Value} {d : DataW H} {ps : List MemPlace} {r : Reach}
end

end Go.Proofs.YtckdblgobmofgaaGreatDoor

