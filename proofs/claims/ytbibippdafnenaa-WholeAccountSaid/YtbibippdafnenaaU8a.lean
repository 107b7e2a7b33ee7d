/- A byte as an element that may be written. -/
import Derived.Test.YtbibippdafnenaaMgB
namespace Go.Proofs.Ytbibippdafnenaa
open Go.RowKit

/-- a byte as an element -/
def eU8 : El (BitVec 8) where
  size := 1
  rd _ _ _ cs x := cs = [.int .u8 (U x)]
  len h := by rw [h]; rfl
  keep h _ _ := h
  mono h _ _ := h
  one h u hu := by rw [h] at hu; obtain rfl := List.mem_singleton.1 hu; rfl
theorem els_u8 {w : World} {Z : BS} : ∀ {F : BS} {us : List Value} {xs : List (BitVec 8)}, Els eU8 w F Z us xs → us = cu xs
  | _, _, [], h => h
  | _, _, x :: xs, ⟨cs, rest, _, _, e, _, _, _, h1, h2⟩ => by
    rw [e, show cs = [.int .u8 (U x)] from h1, els_u8 h2]; rfl
theorem sq_by8 {w : World} {T : TypeId} {F Z : BS} {v : Value} {xs : List (BitVec 8)} (h : Sq eU8 T w F Z v xs) : By w v xs := by
  obtain ⟨K, D, us, _, _, _, h3, h4⟩ := h
  have := h3.rd
  rwa [els_u8 h4] at this
theorem els_cu {w : World} {Z : BS} : ∀ xs : List (BitVec 8), Els eU8 w (fun _ => False) Z (cu xs) xs
  | [] => rfl
  | _ :: xs => ⟨_, _, _, _, rfl, fun _ f => f, fun _ f => f, fun _ f => f.elim, rfl, els_cu xs⟩
end Go.Proofs.Ytbibippdafnenaa
