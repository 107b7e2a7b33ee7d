/- Bytes in new blocks, and the table of the check sum behind what takes new blocks. No condition on the program. -/
import Derived.Test.YtdmfjmdnkfeljaaDoorCrcB
import Derived.Test.YtdmfjmdnkfeljaaDoorMgB
namespace Go.Proofs.YtdmfjmdnkfeljaaDoor
open Go.RowKit

theorem By_blk {w : World} {g : Nat} {arr : Array Value} {T : TypeId} {fr : Nat × Nat} (bs : List (BitVec 8)) (h : w.heap[g]? = some (.cells arr T fr)) (hc : arr.toList.take bs.length = cu bs) {n cap : Nat} (hn : n = bs.length) (hcap : n ≤ cap ∧ cap ≤ maxLen) :
    By w (.slice (some ⟨g, 0, none⟩) n cap) bs := by
  subst hn
  refine ⟨by rw [cu_length, Nat.mul_one], _, cap, rfl, hcap.1, hcap.2, (fun e => by cases e), fun b hb j u hj => ?_⟩
  obtain rfl := Option.some.inj hb
  refine ⟨rfl, ?_⟩
  rw [← hc, List.getElem?_take] at hj
  split at hj
  · simp only [World.cell?, h, Nat.zero_add]
    simpa using hj
  · cases hj
theorem size_lt {w : World} {g : Nat} {o : Obj} (h : w.heap[g]? = some o) : g < w.heap.size := by
  rcases Nat.lt_or_ge g w.heap.size with h' | h'
  · exact h'
  · rw [Array.getElem?_eq_none h'] at h; cases h
theorem heap_new (w : World) (o : Obj) : (w.alloc o).heap[w.heap.size]? = some o := by unfold World.alloc; simp
theorem heap_old (w : World) (o : Obj) {g : Nat} (h : g < w.heap.size) : (w.alloc o).heap[g]? = w.heap[g]? := by
  unfold World.alloc; rw [Array.getElem?_push_lt h]; simp [h]
theorem By_lit (w : World) (g : Nat) (arr : Array Value) (T : TypeId) (bs : List (BitVec 8)) (n cap : Nat) (hg : g = w.heap.size) (hc : arr.toList.take bs.length = cu bs) (hn : n = bs.length) (hcap : n ≤ cap) (hm : cap ≤ maxLen) :
    By (w.alloc (.cells arr T)) (.slice (some ⟨g, 0, none⟩) n cap) bs := by
  subst hg; exact By_blk bs (heap_new _ _) hc hn ⟨hcap, hm⟩
theorem By_litf (w : World) (g : Nat) (arr : Array Value) (T : TypeId) (fr : Nat × Nat) (bs : List (BitVec 8)) (n cap : Nat) (hg : g = w.heap.size) (hc : arr.toList.take bs.length = cu bs) (hn : n = bs.length) (hcap : n ≤ cap) (hm : cap ≤ maxLen) :
    By (w.alloc (.cells arr T fr)) (.slice (some ⟨g, 0, none⟩) n cap) bs := by
  subst hg; exact By_blk bs (heap_new _ _) hc hn ⟨hcap, hm⟩
theorem By.alloc {w : World} {v : Value} {bs : List (BitVec 8)} (h : By w v bs) (o : Obj) : By (w.alloc o) v bs := h.below ((Below.refl _ _).alloc (Nat.le_refl _) _)
theorem below_dr {B : Nat} {a w w' : World} (h : Below B a w) (hd : Dr w w') : Below B a w' := by
  obtain ⟨n, rfl⟩ := hd; exact below_drewN h n
theorem Tab.keep {w w' : World} (h : Tab w) (hk : 1 < w.heap.size → w'.heap[1]? = w.heap[1]?) : Tab w' := fun r => by
  have := h r
  have hlt := World.block_lt_of_cell? w _ this
  exact (World.cell?_of_block (hk hlt)).trans this
theorem Tab.below {w w' : World} (h : Tab w) (hb : Below w.heap.size w w') : Tab w' := h.keep fun hk => hb.block _ hk
theorem Tab.alloc {w : World} (h : Tab w) (o : Obj) : Tab (w.alloc o) := Tab.below h ((Below.refl _ _).alloc (Nat.le_refl _) _)
theorem By.slice {w : World} {v : Value} {bs : List (BitVec 8)} (h : By w v bs) : ∃ a cap, v = .slice a bs.length cap := by
  obtain ⟨_, a, cap, rfl, _⟩ := h; exact ⟨a, cap, rfl⟩
end Go.Proofs.YtdmfjmdnkfeljaaDoor
