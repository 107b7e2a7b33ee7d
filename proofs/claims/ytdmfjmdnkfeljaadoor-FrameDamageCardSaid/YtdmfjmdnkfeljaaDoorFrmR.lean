/- The contract of the reference's Symbols, at valid packets. -/
import Derived.Test.YtdmfjmdnkfeljaaDoorFrmO
namespace Go.Proofs.YtdmfjmdnkfeljaaDoor
open Go.RowKit

set_option maxRecDepth 100000 in
set_option maxHeartbeats 8000000 in
theorem symR_good (p : Pk) (a : Option Addr) (c : Nat) (w : World) (hb : By w (.slice a p.pay.length c) p.pay) (hg : Good p) :
    Calls Tryd.prog 21 #[.agg #[.int .u8 (U p.kind), .int .i64 p.cls, .int .i64 p.number, .int .i64 p.value, .slice a p.pay.length c]] w fun e w' => ∃ v', e = .returned v' ∧ Nb w' w.heap.size v' (symP p) ∧ Below w.heap.size w w' := by
  have HG := Lib.hid hg; have HBY := Lib.hid hb
  have hpl := hg.pay
  clear hg hb
  go_enter Tryd.func21, Tryd.ntmps21
  go_upto_region 1 with (fail)
  obtain ⟨w0, hw0⟩ : ∃ w0, w0 = w.alloc (.cells #[.int .u8 (U p.kind), .int .i64 p.cls, .int .i64 p.number, .int .i64 p.value, .slice a p.pay.length c] 24) := ⟨_, rfl⟩
  rw [← hw0]
  have HROW := Lib.hid (show w0.heap[w.heap.size]? = some (.cells #[.int .u8 (U p.kind), .int .i64 p.cls, .int .i64 p.number, .int .i64 p.value, .slice a p.pay.length c] 24) by rw [hw0]; exact heap_alloc_new w _)
  have HB0 := Lib.hid (show Below w.heap.size w w0 by rw [hw0]; exact below_alloc w _)
  have hz0 : w.heap.size < w0.heap.size := lt_of_block HROW.out
  clear hw0
  obtain ⟨b0, b1, b2, b3, b4⟩ := pk_cells HROW.out
  have HBY0 := Lib.hid (HBY.out.below HB0.out)
  go_wp2_with fail
  refine (encR_good p a c _ (By.alloc HBY0.out _) HG.out).mono ?_
  rintro e w1 ⟨v1, rfl, hn1, hb1⟩
  have HX1 := Lib.hid ((Nb.lit w0 w0.heap.size [49] #[.int .u8 49] 1 rfl (Nat.le_refl _) rfl rfl (by decide)).below hb1)
  have hb1' : Below w0.heap.size w0 w1 := Below.trans (below_alloc w0 (.cells #[.int .u8 49] 5)) (hb1.mono (by simp))
  have HN1 := Lib.hid hn1
  have HB1 := Lib.hid (HB0.out.trans (hb1'.mono (Nat.le_of_lt hz0)))
  have HZ1 := Lib.hid hb1'.size
  obtain ⟨bs, hbs⟩ : ∃ bs, bs = encP p := ⟨_, rfl⟩
  have hbl : bs.length ≤ 81 := by rw [hbs, encP_length]; omega
  rw [← hbs] at HN1
  have HS := Lib.hid (show symP p = ([49] ++ encS bs) ++ [50] by unfold symP; rw [hbs]; rfl)
  clear hb1 hb1' hn1 hbs b0 b1 b2 b3 b4
  go_wp2_with fail
  refine (refEnc_any v1 bs w1 HN1.out.by (by omega)).mono ?_
  rintro e w2 ⟨v2, rfl, hn2, hb2⟩
  have HX2 := Lib.hid (HX1.out.below hb2)
  have HN2 := Lib.hid hn2
  have HB2 := Lib.hid (HB1.out.trans (hb2.mono HB1.out.size))
  have HZ2 := Lib.hid (Nat.le_trans HZ1.out hb2.size)
  have hel : (encS bs).length ≤ 162 := by rw [encS_length]; omega
  clear hn2 hb2
  generalize encS bs = es at *
  go_upto_region 3 with (at_builtin; refine wpList_nb rfl _ _ rfl w0.heap.size _ [49] rfl (by exact HX2.out) _ es rfl HN2.out.by (by show 1 + es.length ≤ _; omega) HZ2.out ?_; intro x3a x3c w3 hn3 hb3; generalize Value.slice x3a (([49] : List Byte).length + es.length) x3c = v3 at hn3 ⊢; have HN3 := Lib.hid hn3; have HB3 := Lib.hid (HB2.out.trans (hb3.mono (Nat.le_of_lt hz0))); have HZ3 := Lib.hid (Nat.le_trans HZ2.out hb3.size); clear hn3 hb3)
  have hz3 := HZ3.out
  go_wp2_with (at_builtin; refine wpList_nb rfl _ _ rfl w0.heap.size _ ([49] ++ es) rfl (by exact HN3.out.below (by (repeat (first | (with_reducible exact Below.refl _ _) | (with_reducible refine Bw.alloc ?_ _) | (with_reducible refine Bw.drewN ?_ _) | (with_reducible refine Bw.drew ?_))))) _ [50] rfl (By_lit _ _ _ _ [50] 1 1 rfl rfl rfl (Nat.le_refl _) (by decide)) (by rw [List.length_append]; show 1 + es.length + 1 ≤ _; omega) (by simp; omega) ?_; intro x4a x4c w4 hn4 hb4; generalize Value.slice x4a (([49] ++ es : List Byte).length + ([50] : List Byte).length) x4c = v4 at hn4 ⊢; have HN4 := Lib.hid hn4; have HB4 := Lib.hid (HB3.out.trans (((show Below w0.heap.size w3 _ from (show Below w3.heap.size w3 _ by (repeat (first | (with_reducible exact Below.refl _ _) | (with_reducible refine Bw.alloc ?_ _) | (with_reducible refine Bw.drewN ?_ _) | (with_reducible refine Bw.drew ?_)))).mono hz3).trans hb4).mono (Nat.le_of_lt hz0))); clear hn4 hb4)
  go_ret
  exact ⟨v4, rfl, by rw [HS.out]; exact HN4.out.lower (Nat.le_of_lt hz0), HB4.out⟩
end Go.Proofs.YtdmfjmdnkfeljaaDoor
