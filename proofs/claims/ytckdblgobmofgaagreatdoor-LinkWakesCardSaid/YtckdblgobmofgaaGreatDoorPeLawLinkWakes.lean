/- What LawLinkWakes needs besides. -/
import Derived.Test.YtckdblgobmofgaaGreatDoorRows
import Derived.Test.YtckdblgobmofgaaGreatDoorPkA1
import Derived.ProofKit
import Derived.OpenShut
import Derived.ShutString
import Derived.ChangeOld
import Derived.Below
import Derived.Test.YtckdblgobmofgaaGreatDoorPeIntU
namespace Go.Proofs.YtckdblgobmofgaaGreatDoor
open Go.ChangeShapes Go.WideShapes Go.ChangeAt Go.RowKit

section
variable {H : Type} {enc : TypeId × Value → H} {P : Program} {W : World} {base : Nat} {t e : TypeId} {v : Value} {d : DataW H} {ps : List MemPlace} {r : Reach}
theorem open_isInt {k : IntKind} (ht : P.underlying t = some (.int k)) (hval : Value.okWide P W r base t v) (hd : DataW.Trod enc P W 0 (fun _ => true) true t v d ps) : IsInt k v := by
  obtain ⟨x, rfl, _, _, wx⟩ := open_int ht hval hd
  exact ⟨x, rfl, wx⟩
end

end Go.Proofs.YtckdblgobmofgaaGreatDoor

