/- awake of the law's package returns true. -/
import Derived.Test.YtmpigciommmjcaaDoorCrcC
import Derived.Lib.SlBytesConst
namespace Go.Proofs.YtmpigciommmjcaaDoor
open Go.RowKit

theorem By_blk {w : World} {g : Nat} {arr : Array Value} {T : TypeId} {fr : Nat × Nat} (bs : List (BitVec 8)) (h : w.heap[g]? = some (.cells arr T fr)) (hc : arr.toList.take bs.length = cu bs) {n cap : Nat} (hn : n = bs.length) (hcap : n ≤ cap ∧ cap ≤ maxLen) :
    By w (.slice (some ⟨g, 0, none⟩) n cap) bs := by
  subst hn
  refine ⟨by rw [cu_length, Nat.mul_one], _, cap, rfl, hcap.1, hcap.2, (fun e => by cases e), fun b hb j u hj => ?_⟩
  obtain rfl := Option.some.inj hb
  refine ⟨rfl, ?_⟩
  rw [← hc, List.getElem?_take] at hj
  split at hj
  · simp only [World.cell?, h, Nat.zero_add]
    simpa using hj
  · cases hj
theorem size_lt {w : World} {g : Nat} {o : Obj} (h : w.heap[g]? = some o) : g < w.heap.size := by
  rcases Nat.lt_or_ge g w.heap.size with h' | h'
  · exact h'
  · rw [Array.getElem?_eq_none h'] at h; cases h
theorem heap_new (w : World) (o : Obj) : (w.alloc o).heap[w.heap.size]? = some o := by unfold World.alloc; simp
theorem heap_old (w : World) (o : Obj) {g : Nat} (h : g < w.heap.size) : (w.alloc o).heap[g]? = w.heap[g]? := by
  unfold World.alloc; rw [Array.getElem?_push_lt h]; simp [h]
theorem By_lit (w : World) (g : Nat) (arr : Array Value) (T : TypeId) (bs : List (BitVec 8)) (n cap : Nat) (hg : g = w.heap.size) (hc : arr.toList.take bs.length = cu bs) (hn : n = bs.length) (hcap : n ≤ cap) (hm : cap ≤ maxLen) :
    By (w.alloc (.cells arr T)) (.slice (some ⟨g, 0, none⟩) n cap) bs := by
  subst hg; exact By_blk bs (heap_new _ _) hc hn ⟨hcap, hm⟩
theorem By_litf (w : World) (g : Nat) (arr : Array Value) (T : TypeId) (fr : Nat × Nat) (bs : List (BitVec 8)) (n cap : Nat) (hg : g = w.heap.size) (hc : arr.toList.take bs.length = cu bs) (hn : n = bs.length) (hcap : n ≤ cap) (hm : cap ≤ maxLen) :
    By (w.alloc (.cells arr T fr)) (.slice (some ⟨g, 0, none⟩) n cap) bs := by
  subst hg; exact By_blk bs (heap_new _ _) hc hn ⟨hcap, hm⟩
theorem By.alloc {w : World} {v : Value} {bs : List (BitVec 8)} (h : By w v bs) (o : Obj) : By (w.alloc o) v bs := h.below ((Below.refl _ _).alloc (Nat.le_refl _) _)
theorem below_dr {B : Nat} {a w w' : World} (h : Below B a w) (hd : Dr w w') : Below B a w' := by
  obtain ⟨n, rfl⟩ := hd; exact below_drewN h n
theorem Tab.keep {w w' : World} (h : Tab w) (hk : 0 < w.heap.size → w'.heap[0]? = w.heap[0]?) : Tab w' := fun r => by
  have := h r
  have hlt := World.block_lt_of_cell? w _ this
  exact (World.cell?_of_block (hk hlt)).trans this
theorem Tab.below {w w' : World} (h : Tab w) (hb : Below w.heap.size w w') : Tab w' := h.keep fun hk => hb.block _ hk
theorem Tab.alloc {w : World} (h : Tab w) (o : Obj) : Tab (w.alloc o) := Tab.below h ((Below.refl _ _).alloc (Nat.le_refl _) _)

def nums : List (BitVec 8) := [49, 50, 51, 52, 53, 54, 55, 56, 57]
theorem nums_sum : (U (csum nums) == 3421780262) = true := by decide +kernel
theorem nil_sum : (U (csum []) == 0) = true := by decide +kernel
theorem ex_errs : errors [15] [30] = (2, 5) := by decide +kernel

set_option maxHeartbeats 200000 in
theorem awake_any (w : World) (ht : Tab w) : Calls Tryd.prog 12 #[] w fun e w' => e = .returned (.bool true) ∧ Below w.heap.size w w' := by
  have h1 := nums_sum
  have h2 := nil_sum
  have HT := Lib.hid ht; clear ht
  have kc := fun (w : World) (C : Array Value) (n c : Nat) => Lib.run_convert_bytes_const (P := Tryd.prog) w 22 5 C n c Tryd.underlying22 Tryd.underlying5
  go_enter Tryd.func12, Tryd.ntmps12
  go_wp2_with fail
  have b1 : By (w.alloc (.cells #[.int .u8 15] 5)) (.slice (some ⟨w.heap.size, 0, none⟩) 1 1) [15] := By_lit w _ _ _ [15] 1 1 rfl rfl rfl (Nat.le_refl _) (by decide)
  have b2 : By ((w.alloc (.cells #[.int .u8 15] 5)).alloc (.cells #[.int .u8 30] 5)) (.slice (some ⟨w.heap.size + 1, 0, none⟩) 1 1) [30] := By_lit _ _ _ _ [30] 1 1 (by simp) rfl rfl (Nat.le_refl _) (by decide)
  refine (errors_any _ _ [15] [30] _ (b1.alloc _) b2 (by decide)).mono ?_
  rintro e w1 ⟨rfl, hd⟩
  rw [ex_errs]
  have hb1 : Below w.heap.size w w1 := below_dr (((Below.refl _ _).alloc (Nat.le_refl _) _).alloc (by simp) _) hd
  have Ht1 := Lib.hid (HT.out.below hb1)
  have HD := Lib.hid hd; clear hd
  have HB := Lib.hid hb1; clear hb1
  go_wp2_with fail
  refine (sum_any _ nums _ (By_litf w1 _ _ _ _ nums 9 9 (by rfl) (by rfl) (by rfl) (Nat.le_refl _) (by decide)) (Ht1.out.alloc _)).mono ?_
  rintro e w2 ⟨rfl, rfl⟩
  go_wp2_with fail
  refine (sum_any _ [] _ (By.of_nil _) (Ht1.out.alloc _)).mono ?_
  rintro e w2 ⟨rfl, rfl⟩
  go_wp2_with fail
  go_ret
  exact ⟨rfl, HB.out.alloc HB.out.size _⟩
end Go.Proofs.YtmpigciommmjcaaDoor
