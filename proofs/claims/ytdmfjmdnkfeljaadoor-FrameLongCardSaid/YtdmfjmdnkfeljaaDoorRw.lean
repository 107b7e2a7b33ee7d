/- Blocks that a walk writes, cell by cell. No condition on the program. -/
import Derived.Test.YtdmfjmdnkfeljaaDoorSep
namespace Go.Proofs.YtdmfjmdnkfeljaaDoor
open Go.RowKit

/-! what a walk has done to a block: stores and draws, one after another -/
theorem row_set {w : World} {p i : Nat} {cs : Array Value} {T : TypeId} {u : Value} (h : w.heap[p]? = some (.cells cs T (0, 0))) : (w.setCell ⟨p, i, none⟩ u).heap[p]? = some (.cells (cs.setIfInBounds i u) T (0, 0)) := heap_setCell_same w p i cs T u h
theorem row_drewN {w : World} {p n : Nat} {o : Option Obj} (h : w.heap[p]? = o) : (w.drewN n).heap[p]? = o := h
theorem row_drew {w : World} {p : Nat} {o : Option Obj} (h : w.heap[p]? = o) : w.drew.heap[p]? = o := h
theorem row_trans {w : World} {p : Nat} {cs cs' : Array Value} {T : TypeId} (h : w.heap[p]? = some (.cells cs T (0, 0))) (e : cs = cs') : w.heap[p]? = some (.cells cs' T (0, 0)) := by subst e; exact h
theorem row_alloc {w : World} {p : Nat} {o : Obj} (o' : Obj) (h : w.heap[p]? = some o) : (w.alloc o').heap[p]? = some o := (Below.heap_alloc w o' p (lt_of_block h)).trans h
theorem row_set_other {w : World} {p q i : Nat} {o : Option Obj} {u : Value} (hq : p ≠ q) (h : w.heap[p]? = o) : (w.setCell ⟨q, i, none⟩ u).heap[p]? = o := (heap_setCell_other w ⟨q, i, none⟩ p u hq).trans h
theorem alloc_cell (w : World) (o : Obj) {a : Addr} {v : Value} (h : w.cell? a = some v) : (w.alloc o).cell? a = some v :=
  (World.cell?_of_block (Below.heap_alloc w o _ (World.block_lt_of_cell? w _ h))).trans h
theorem Bw.alloc {w w' : World} (h : Below w.heap.size w w') (o : Obj) : Below w.heap.size w (w'.alloc o) := Below.alloc h h.size o
theorem Bw.drew {w w' : World} (h : Below w.heap.size w w') : Below w.heap.size w w'.drew := ⟨h.os, h.tape, h.output, h.size, h.block⟩
theorem Bw.drewN {w w' : World} (h : Below w.heap.size w w') (n : Nat) : Below w.heap.size w (w'.drewN n) := ⟨h.os, h.tape, h.output, h.size, h.block⟩
theorem Sl.drewN {w : World} {F : Nat → Prop} {e : TypeId} {size : Nat} {v : Value} {n : Nat} {us : List Value} (h : Sl w F e size v n us) (k : Nat) : Sl (w.drewN k) F e size v n us := h.keep fun _ _ _ => rfl
end Go.Proofs.YtdmfjmdnkfeljaaDoor
