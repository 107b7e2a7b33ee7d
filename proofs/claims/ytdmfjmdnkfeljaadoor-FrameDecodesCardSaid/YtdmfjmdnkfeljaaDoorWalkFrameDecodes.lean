/- The walk of FrameDecodes. -/
import Derived.Test.YtdmfjmdnkfeljaaDoorFrmV
import Derived.Test.YtdmfjmdnkfeljaaDoorFrnA
namespace Go.Proofs.YtdmfjmdnkfeljaaDoor
open Go.RowKit

set_option maxRecDepth 100000 in
set_option maxHeartbeats 4000000 in
theorem walkFrameDecodes (W : World) (v0 : Value) (o0 : IsBytes W v0) (ht : Tabs W) :
    Calls Tryd.prog 4 #[v0] W fun e w' => e = .returned (.bool true) ∧ Below W.heap.size W w' := by
  obtain ⟨bs, hmo⟩ := o0
  obtain ⟨ma, mc, rfl⟩ := hmo.slice
  have HT := Lib.hid ht; have HMO := Lib.hid hmo
  clear ht hmo
  go_enter Tryd.func4, Tryd.ntmps4
  go_wp2_with fail
  refine (awake_any W HT.out).mono ?_
  rintro e w1 ⟨rfl, hb⟩
  have HB1 := Lib.hid hb; clear hb
  by_cases hbig : 300 < bs.length
  · go_wp2_with fail
    go_ret
    exact ⟨rfl, HB1.out⟩
  have hbig2 : bs.length ≤ 300 := by omega
  go_wp2_with fail
  refine (decF_any _ bs w1 (HMO.out.below HB1.out) (HT.out.below HB1.out).tab (by omega)).mono ?_
  rintro e w2 ⟨ra, rc, rfl, hn, hb⟩
  have HN2 := Lib.hid hn.by
  have HB2 := Lib.hid (HB1.out.trans (hb.mono HB1.out.size))
  clear hb hn
  obtain ⟨r, hr⟩ : ∃ r, r = decP bs := ⟨_, rfl⟩
  rw [← hr] at HN2 ⊢
  have HR := Lib.hid hr
  clear hr
  obtain ⟨q, qf⟩ := r
  dsimp only at HN2 ⊢
  go_wp2_with fail
  obtain ⟨w3, hw3⟩ : ∃ w3, w3 = w2.alloc (.cells #[.int .u8 (U q.kind), .int .i64 q.cls, .int .i64 q.number, .int .i64 q.value, .slice ra q.pay.length rc] 24) := ⟨_, rfl⟩
  rw [← hw3]
  have HQ3 := Lib.hid (show w3.heap[w2.heap.size]? = some (.cells #[.int .u8 (U q.kind), .int .i64 q.cls, .int .i64 q.number, .int .i64 q.value, .slice ra q.pay.length rc] 24) by rw [hw3]; exact heap_alloc_new w2 _)
  have hb3 : Below w2.heap.size w2 w3 := by rw [hw3]; exact below_alloc w2 _
  have HB3 := Lib.hid (HB2.out.trans (hb3.mono HB2.out.size))
  have HN3 := Lib.hid (HN2.out.below hb3)
  clear hw3 hb3
  refine (decR_any _ bs w3 (HMO.out.below HB3.out) (by omega)).mono ?_
  rintro e w4 ⟨sa, sc, rfl, hn, hb⟩
  rw [← HR.out] at hn ⊢
  have HM4 := Lib.hid hn.by
  have HB4 := Lib.hid (HB3.out.trans (hb.mono HB3.out.size))
  have HN4 := Lib.hid (HN3.out.below hb)
  have HQ4 := Lib.hid ((hb.block _ (lt_of_block HQ3.out)).trans HQ3.out)
  clear hb hn
  dsimp only at HM4 ⊢
  go_upto_region 7 with (fail)
  obtain ⟨w5, hw5⟩ : ∃ w5, w5 = w4.alloc (.cells #[.int .u8 (U q.kind), .int .i64 q.cls, .int .i64 q.number, .int .i64 q.value, .slice sa q.pay.length sc] 24) := ⟨_, rfl⟩
  rw [← hw5]
  have HP5 := Lib.hid (show w5.heap[w4.heap.size]? = some (.cells #[.int .u8 (U q.kind), .int .i64 q.cls, .int .i64 q.number, .int .i64 q.value, .slice sa q.pay.length sc] 24) by rw [hw5]; exact heap_alloc_new w4 _)
  have hb5 : Below w4.heap.size w4 w5 := by rw [hw5]; exact below_alloc w4 _
  have HQ5 := Lib.hid ((hb5.block _ (lt_of_block HQ4.out)).trans HQ4.out)
  have HB5 := Lib.hid (HB4.out.trans (hb5.mono HB4.out.size))
  have HN5 := Lib.hid (HN4.out.below hb5)
  have HM5 := Lib.hid (HM4.out.below hb5)
  clear hw5 hb5
  obtain ⟨b0, b1, b2, b3, b4⟩ := pk_cells HP5.out
  obtain ⟨d0, d1, d2, d3, d4⟩ := pk_cells HQ5.out
  go_wp2_with fail
  refine (sameR_refl q ra sa rc sc w5 HN5.out HM5.out).mono ?_
  rintro e w6 ⟨rfl, hb⟩
  have HB6 := Lib.hid (HB5.out.trans (hb.mono HB5.out.size))
  clear hb b0 b1 b2 b3 b4 d0 d1 d2 d3 d4
  go_wp2_with fail
  go_ret
  exact ⟨rfl, HB6.out⟩
end Go.Proofs.YtdmfjmdnkfeljaaDoor
