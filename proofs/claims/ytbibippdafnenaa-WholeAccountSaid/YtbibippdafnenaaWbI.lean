/- The law's array of lines: pointers. -/
import Derived.Test.YtbibippdafnenaaWaA
namespace Go.Proofs.Ytbibippdafnenaa
open Go.RowKit
set_option maxRecDepth 100000

/-- where a line lies, if it is made -/
def ptO : Option Nat → Value
  | none => .pointer none
  | some p => .pointer (some ⟨p, 0, none⟩)
def ePo : El (Option Nat) where
  size := 1
  rd _ _ _ cs o := cs = [ptO o]
  len h := by rw [h]; rfl
  keep h _ _ := h
  mono h _ _ := h
  one h u hu := by
    rw [h] at hu
    obtain rfl := List.mem_singleton.1 hu
    unfold ptO; split <;> rfl
theorem pure_po : Pure ePo (fun o => [ptO o]) := fun _ _ _ _ _ => Iff.rfl
theorem slPo : SlT Try.prog 26 27 (.pointer none) ePo.size 8 := ⟨Try.underlying26, info_parts (by kernel_rfl), rfl, by decide⟩
theorem Held.putP {F Z : BS} {W w : World} {ts : List Th} {T : TypeId} {b off n cap : Nat} {xs : List (Option Nat)} (h : Held F Z W ts w) (i : Nat) (hi : ts[i]? = some (tSq ePo T (.slice (some ⟨b, off, none⟩) n cap) xs)) {c : Nat} (y : Option Nat) (hc : c < xs.length) :
    Held F Z W (ts.set i (tSq ePo T (.slice (some ⟨b, off, none⟩) n cap) (xs.set c y))) (w.setCell ⟨b, off + c, none⟩ (ptO y)) := by
  have := h.put pure_po i hi (c := c) (j := 0) (a := xs[c]) (a' := y) (u := ptO y) (List.getElem?_eq_getElem hc) (by decide) rfl
  simpa [ePo] using this
theorem po_cell {T : TypeId} {w : World} {F Z : BS} {b off n cap : Nat} {xs : List (Option Nat)} (h : Sq ePo T w F Z (.slice (some ⟨b, off, none⟩) n cap) xs) {i : Nat} {x : Option Nat} (hi : xs[i]? = some x) : w.cell? ⟨b, off + i, none⟩ = some (ptO x) := by
  obtain ⟨b', off', cs, A, e, _, hr, _, hc⟩ := Sq.at h (by decide) hi
  obtain ⟨rfl, rfl⟩ : b = b' ∧ off = off' := by simpa using e
  have := hc 0 (ptO x) (by rw [show cs = [ptO x] from hr]; rfl)
  simpa [ePo] using this
end Go.Proofs.Ytbibippdafnenaa
