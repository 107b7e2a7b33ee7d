/- What WalkLinkMemory needs besides. -/
import Derived.Test.YtcbnhebiagdbiaaGreatDoorRows
import Derived.Test.YtcbnhebiagdbiaaGreatDoorPkA1
import Derived.ProofKit
import Derived.OpenShut
import Derived.ShutString
import Derived.ChangeOld
import Derived.Below
namespace Go.Proofs.YtcbnhebiagdbiaaGreatDoor
open Go.ChangeShapes Go.WideShapes Go.ChangeAt Go.RowKit

def IsBytes (W : World) (v : Value) : Prop := ∃ bs, By W v bs

section
variable {H : Type} {enc : TypeId × Value → H} {P : Program} {W : World} {base : Nat} {t e : TypeId} {v : Value} {d : DataW H} {ps : List MemPlace} {r : Reach}
end

end Go.Proofs.YtcbnhebiagdbiaaGreatDoor

