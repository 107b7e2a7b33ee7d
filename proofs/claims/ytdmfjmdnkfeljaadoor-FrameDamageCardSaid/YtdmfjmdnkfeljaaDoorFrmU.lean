/- The contracts of frame.New and of the law's awake. Both tables must lie as laid. -/
import Derived.Test.YtdmfjmdnkfeljaaDoorFrmT
namespace Go.Proofs.YtdmfjmdnkfeljaaDoor
open Go.RowKit

set_option maxHeartbeats 1000000 in
theorem newF_any (w : World) : Calls Tryd.prog 27 #[] w fun e w' => e = .returned (.pointer (some ⟨w.heap.size, 0, none⟩)) ∧ w' = w.alloc (.cells #[.bool false, .slice none 0 0, .int .i64 0] 78) := by
  go_enter Tryd.func27, Tryd.ntmps27
  go_wp2_with fail
  go_ret
  exact ⟨rfl, rfl⟩
def awP : Pk := ⟨2, 1, 258, 3, [9]⟩
theorem awP_good : Good awP := ⟨by decide, by decide, by decide, by decide, by decide, by decide, by decide, by decide⟩
theorem awP_take : (encP awP).take 14 = [2, 1, 0, 0, 0, 1, 2, 0, 0, 0, 0, 3, 1, 9] := by decide +kernel
theorem awP_len : (encP awP).length = 18 ∧ (symP awP).length = 38 := by decide +kernel
set_option maxRecDepth 100000 in
set_option maxHeartbeats 8000000 in
theorem awake_any (w : World) (ht : Tabs w) : Calls Tryd.prog 13 #[] w fun e w' => e = .returned (.bool true) ∧ Below w.heap.size w w' := by
  have HT := Lib.hid ht
  clear ht
  go_enter Tryd.func13, Tryd.ntmps13
  have hen := fun (b : Nat) (w1 : World) (hb : By w1 (.slice (some ⟨b, 0, none⟩) 1 1) [9]) (h : Tab w1) => show Calls Tryd.prog 16 #[.agg #[.int .u8 2, .int .i64 1, .int .i64 258, .int .i64 3, .slice (some ⟨b, 0, none⟩) 1 1]] w1 (fun e w' => ∃ v', e = .returned (.tuple #[v', .int .i64 0]) ∧ Nb w' w1.heap.size v' (encP awP) ∧ Below w1.heap.size w1 w') from encF_good awP _ 1 w1 hb h awP_good
  have hsy := fun (b : Nat) (w1 : World) (hb : By w1 (.slice (some ⟨b, 0, none⟩) 1 1) [9]) (h : Tabs w1) => show Calls Tryd.prog 17 #[.agg #[.int .u8 2, .int .i64 1, .int .i64 258, .int .i64 3, .slice (some ⟨b, 0, none⟩) 1 1]] w1 (fun e w' => ∃ v', e = .returned (.tuple #[v', .int .i64 0]) ∧ Nb w' w1.heap.size v' (symP awP) ∧ Below w1.heap.size w1 w') from symF_good awP _ 1 w1 hb h awP_good
  have HEN := Lib.hid hen; have HSY := Lib.hid hsy
  clear hen hsy
  go_wp2_with fail
  obtain ⟨w1, hw1⟩ : ∃ w1, w1 = (w.alloc (.cells #[.int .u8 9] 5)).alloc (.cells #[.int .u8 2, .int .i64 1, .int .i64 258, .int .i64 3, .slice (some ⟨w.heap.size, 0, none⟩) 1 1] 24) := ⟨_, rfl⟩
  rw [← hw1]
  have HB1 := Lib.hid (show Below w.heap.size w w1 by rw [hw1]; (repeat (first | (with_reducible exact Below.refl _ _) | (with_reducible refine Bw.alloc ?_ _) | (with_reducible refine Bw.drewN ?_ _) | (with_reducible refine Bw.drew ?_))))
  have HBY := Lib.hid (show By w1 (.slice (some ⟨w.heap.size, 0, none⟩) 1 1) [9] by rw [hw1]; exact By.alloc (By_lit w _ _ _ [9] 1 1 rfl rfl rfl (Nat.le_refl _) (by decide)) _)
  have HROW := Lib.hid (show w1.heap[w.heap.size + 1]? = some (.cells #[.int .u8 2, .int .i64 1, .int .i64 258, .int .i64 3, .slice (some ⟨w.heap.size, 0, none⟩) 1 1] 24) by rw [hw1]; have := heap_alloc_new (w.alloc (.cells #[.int .u8 9] 5)) (.cells #[.int .u8 2, .int .i64 1, .int .i64 258, .int .i64 3, .slice (some ⟨w.heap.size, 0, none⟩) 1 1] 24); simpa using this)
  have HT1 := Lib.hid (HT.out.below HB1.out)
  have hz1 := lt_of_block HROW.out
  clear hw1
  refine (HEN.out _ w1 HBY.out HT1.out.tab).mono ?_
  rintro e w2 ⟨v2, rfl, hn2, hb2⟩
  obtain ⟨va, vc, rfl⟩ := hn2.slice
  have hvc : 14 ≤ vc := by
    obtain ⟨_, a', c', e, h1, _⟩ := hn2.by
    obtain ⟨rfl, rfl⟩ : va = a' ∧ vc = c' := by simpa using e
    rw [awP_len.1] at h1; omega
  have hvc' : (0 : Int) ≤ 14 ∧ (14 : Int) ≤ (vc : Int) := by omega
  have HN2 := Lib.hid hn2
  have HROW2 := Lib.hid ((hb2.block _ hz1).trans HROW.out)
  have HB2 := Lib.hid (HB1.out.trans (hb2.mono HB1.out.size))
  have HBY2 := Lib.hid (HBY.out.below hb2)
  have HT2 := Lib.hid (HT.out.below HB2.out)
  clear hn2 hb2
  obtain ⟨b0, b1, b2, b3, b4⟩ := pk_cells HROW2.out
  go_wp2_with fail
  refine (HSY.out _ w2 HBY2.out HT2.out).mono ?_
  rintro e w3 ⟨v3, rfl, hn3, hb3⟩
  obtain ⟨xa, xc, rfl⟩ := hn3.slice
  have HN3 := Lib.hid (HN2.out.below hb3)
  have HB3 := Lib.hid (HB2.out.trans (hb3.mono HB2.out.size))
  rw [awP_len.2]
  rw [awP_len.1] at HN3 ⊢
  clear hn3 hb3 b0 b1 b2 b3 b4
  have HTK := Lib.hid (show By w3 (.slice va 14 vc) [2, 1, 0, 0, 0, 1, 2, 0, 0, 0, 0, 3, 1, 9] by rw [← awP_take]; exact By.take HN3.out.by (by decide))
  go_wp2_with fail
  refine (equal_any _ _ [2, 1, 0, 0, 0, 1, 2, 0, 0, 0, 0, 3, 1, 9] [2, 1, 0, 0, 0, 1, 2, 0, 0, 0, 0, 3, 1, 9] _ (By.alloc HTK.out _) (By_lit w3 _ _ _ [2, 1, 0, 0, 0, 1, 2, 0, 0, 0, 0, 3, 1, 9] 14 14 rfl rfl rfl (Nat.le_refl _) (by decide)) (by simp) (by simp)).mono ?_
  rintro e w4 ⟨rfl, hd⟩
  have HB4 := Lib.hid (below_dr (Below.trans HB3.out (show Below w.heap.size w3 _ from (below_alloc w3 _).mono HB3.out.size)) hd)
  clear hd
  go_wp2_with fail
  refine (newF_any w4).mono ?_
  rintro e w5 ⟨rfl, rfl⟩
  go_wp2_with fail
  go_ret
  exact ⟨rfl, Bw.alloc HB4.out _⟩
end Go.Proofs.YtdmfjmdnkfeljaaDoor
