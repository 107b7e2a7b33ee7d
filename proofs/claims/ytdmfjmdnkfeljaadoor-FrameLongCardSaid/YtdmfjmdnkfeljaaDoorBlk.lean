/- Blocks of a struct. No condition on the program. -/
import Derived.Test.YtdmfjmdnkfeljaaDoorSep
import Derived.WalkLawsBesides
import Derived.BigRegion
import Derived.Deep.RegionWith
namespace Go.Proofs.YtdmfjmdnkfeljaaDoor
open Go.RowKit

/-- a world in which only draws have been made since -/
def Dr (w w' : World) : Prop := ∃ n, w' = w.drewN n
theorem Dr.refl (w : World) : Dr w w := ⟨0, rfl⟩
/-! a block that holds a struct -/
theorem blk_cell {w : World} {p : Nat} {cs : Array Value} {T : TypeId} {i : Nat} {u : Value} (h : w.heap[p]? = some (.cells cs T (0, 0))) (hi : cs[i]? = some u) : w.cell? ⟨p, i, none⟩ = some u := by
  simp only [World.cell?, h]; exact hi
theorem blk_free {w : World} {p : Nat} {cs : Array Value} {T : TypeId} (h : w.heap[p]? = some (.cells cs T (0, 0))) (i : Nat) : w.frozen? ⟨p, i, none⟩ = false := frozen_of_row w p i cs T h
end Go.Proofs.YtdmfjmdnkfeljaaDoor
