/- The walk of FrameEncodes. -/
import Derived.Test.YtdmfjmdnkfeljaaDoorFrmV
namespace Go.Proofs.YtdmfjmdnkfeljaaDoor
open Go.RowKit

set_option maxRecDepth 100000 in
set_option maxHeartbeats 8000000 in
theorem walkFrameEncodes (W : World) (v0 : Value) (o0 : IsPk W v0) (ht : Tabs W) :
    Calls Tryd.prog 3 #[v0] W fun e w' => e = .returned (.bool true) ∧ Below W.heap.size W w' := by
  obtain ⟨p, a, c, rfl, hby⟩ := o0
  have HT := Lib.hid ht; have HBY := Lib.hid hby
  clear ht hby
  go_enter Tryd.func3, Tryd.ntmps3
  go_wp2_with fail
  obtain ⟨w0, hw0⟩ : ∃ w0, w0 = W.alloc (.cells #[.int .u8 (U p.kind), .int .i64 p.cls, .int .i64 p.number, .int .i64 p.value, .slice a p.pay.length c] 24) := ⟨_, rfl⟩
  rw [← hw0]
  have HR0 := Lib.hid (show w0.heap[W.heap.size]? = some (.cells #[.int .u8 (U p.kind), .int .i64 p.cls, .int .i64 p.number, .int .i64 p.value, .slice a p.pay.length c] 24) by rw [hw0]; exact heap_alloc_new W _)
  have HB0 := Lib.hid (show Below W.heap.size W w0 by rw [hw0]; exact below_alloc W _)
  clear hw0
  refine (awake_any w0 (HT.out.below HB0.out)).mono ?_
  rintro e w1 ⟨rfl, hb⟩
  have HR1 := Lib.hid ((hb.block _ (lt_of_block HR0.out)).trans HR0.out)
  have HB1 := Lib.hid (HB0.out.trans (hb.mono HB0.out.size)); clear hb
  obtain ⟨b0, b1, b2, b3, b4⟩ := pk_cells HR1.out
  by_cases hbig : 300 < p.pay.length
  · go_wp2_with fail
    go_ret
    exact ⟨rfl, HB1.out⟩
  · go_wp2_with fail
    refine (clone_any _ p.pay w1 (HBY.out.below HB1.out) (by omega)).mono ?_
    rintro e w2 ⟨v2, rfl, hn2, hb⟩
    have HR2 := Lib.hid ((hb.block _ (lt_of_block HR1.out)).trans HR1.out)
    have HB2 := Lib.hid (HB1.out.trans (hb.mono HB1.out.size))
    have HN2 := Lib.hid hn2
    clear hb hn2 b0 b1 b2 b3 b4
    obtain ⟨b0, b1, b2, b3, b4⟩ := pk_cells HR2.out
    go_wp2_with fail
    refine (refValid_any p a c w2).mono ?_
    rintro e w3 ⟨rfl, hb⟩
    have HR3 := Lib.hid ((hb.block _ (lt_of_block HR2.out)).trans HR2.out)
    have HB3 := Lib.hid (HB2.out.trans (hb.mono HB2.out.size))
    have HN3 := Lib.hid (HN2.out.below hb)
    clear hb b0 b1 b2 b3 b4
    obtain ⟨b0, b1, b2, b3, b4⟩ := pk_cells HR3.out
    by_cases hg : Good p
    · have HG := Lib.hid hg
      have hv : validP p = true := validP_iff.2 hg
      rw [hv]
      clear hg
      go_wp2_with fail
      refine (encF_good p a c w3 (HBY.out.below HB3.out) (HT.out.below HB3.out).tab HG.out).mono ?_
      rintro e w4 ⟨v4, rfl, hn4, hb⟩
      have HR4 := Lib.hid ((hb.block _ (lt_of_block HR3.out)).trans HR3.out)
      have HB4 := Lib.hid (HB3.out.trans (hb.mono HB3.out.size))
      have HN4 := Lib.hid (HN3.out.below hb)
      have HE4 := Lib.hid hn4
      clear hb hn4 b0 b1 b2 b3 b4
      obtain ⟨b0, b1, b2, b3, b4⟩ := pk_cells HR4.out
      go_wp2_with fail
      refine (symF_good p a c w4 (HBY.out.below HB4.out) (HT.out.below HB4.out) HG.out).mono ?_
      rintro e w5 ⟨v5, rfl, hn5, hb⟩
      have HR5 := Lib.hid ((hb.block _ (lt_of_block HR4.out)).trans HR4.out)
      have HB5 := Lib.hid (HB4.out.trans (hb.mono HB4.out.size))
      have HN5 := Lib.hid (HN4.out.below hb)
      have HE5 := Lib.hid (HE4.out.below hb)
      have HS5 := Lib.hid hn5
      clear hb hn5 b0 b1 b2 b3 b4
      obtain ⟨b0, b1, b2, b3, b4⟩ := pk_cells HR5.out
      go_wp2_with fail
      refine (valid_any p a c w5).mono ?_
      rintro e w6 ⟨rfl, hb⟩
      rw [hv]
      have HR6 := Lib.hid ((hb.block _ (lt_of_block HR5.out)).trans HR5.out)
      have HB6 := Lib.hid (HB5.out.trans (hb.mono HB5.out.size))
      have HN6 := Lib.hid (HN5.out.below hb)
      have HE6 := Lib.hid (HE5.out.below hb)
      have HS6 := Lib.hid (HS5.out.below hb)
      clear hb b0 b1 b2 b3 b4
      obtain ⟨b0, b1, b2, b3, b4⟩ := pk_cells HR6.out
      go_wp2_with fail
      refine (equal_any _ v2 p.pay p.pay w6 (HBY.out.below HB6.out) HN6.out.by (by omega) (by omega)).mono ?_
      rintro e w7 ⟨rfl, hd⟩
      have hsm : (p.pay == p.pay) = true := by simp
      rw [hsm]
      have hb : Below w6.heap.size w6 w7 := by obtain ⟨n, rfl⟩ := hd; exact below_drew w6 n
      have HR7 := Lib.hid ((hb.block _ (lt_of_block HR6.out)).trans HR6.out)
      have HB7 := Lib.hid (HB6.out.trans (hb.mono HB6.out.size))
      have HE7 := Lib.hid (HE6.out.below hb)
      have HS7 := Lib.hid (HS6.out.below hb)
      clear hb hd b0 b1 b2 b3 b4
      obtain ⟨b0, b1, b2, b3, b4⟩ := pk_cells HR7.out
      have hpl := HG.out.pay
      have hle : (encP p).length ≤ 81 := by rw [encP_length]; omega
      have hls : (symP p).length ≤ 164 := by rw [symP_length]; omega
      go_wp2_with fail
      refine (encR_good p a c w7 (HBY.out.below HB7.out) HG.out).mono ?_
      rintro e w8 ⟨v8, rfl, hn8, hb⟩
      have HR8 := Lib.hid ((hb.block _ (lt_of_block HR7.out)).trans HR7.out)
      have HB8 := Lib.hid (HB7.out.trans (hb.mono HB7.out.size))
      have HE8 := Lib.hid (HE7.out.below hb)
      have HS8 := Lib.hid (HS7.out.below hb)
      have HF8 := Lib.hid hn8
      clear hb hn8 b0 b1 b2 b3 b4
      go_wp2_with fail
      refine (equal_any v4 v8 (encP p) (encP p) w8 HE8.out.by HF8.out.by (by omega) (by omega)).mono ?_
      rintro e w9 ⟨rfl, hd⟩
      have hse : (encP p == encP p) = true := by simp
      rw [hse]
      have hb : Below w8.heap.size w8 w9 := by obtain ⟨n, rfl⟩ := hd; exact below_drew w8 n
      have HR9 := Lib.hid ((hb.block _ (lt_of_block HR8.out)).trans HR8.out)
      have HB9 := Lib.hid (HB8.out.trans (hb.mono HB8.out.size))
      have HS9 := Lib.hid (HS8.out.below hb)
      clear hb hd
      obtain ⟨b0, b1, b2, b3, b4⟩ := pk_cells HR9.out
      go_wp2_with fail
      refine (symR_good p a c w9 (HBY.out.below HB9.out) HG.out).mono ?_
      rintro e w10 ⟨v10, rfl, hn10, hb⟩
      have HB10 := Lib.hid (HB9.out.trans (hb.mono HB9.out.size))
      have HS10 := Lib.hid (HS9.out.below hb)
      have HF10 := Lib.hid hn10
      clear hb hn10 b0 b1 b2 b3 b4
      go_wp2_with fail
      refine (equal_any v5 v10 (symP p) (symP p) w10 HS10.out.by HF10.out.by (by omega) (by omega)).mono ?_
      rintro e w11 ⟨rfl, hd⟩
      have hss : (symP p == symP p) = true := by simp
      rw [hss]
      go_wp2_with fail
      go_ret
      exact ⟨rfl, below_dr HB10.out hd⟩
    · have hv : validP p = false := by rw [Bool.eq_false_iff]; exact fun e => hg (validP_iff.1 e)
      have HG := Lib.hid hg
      rw [hv]
      clear hg
      go_wp2_with fail
      refine (encF_bad p a c w3 HG.out).mono ?_
      rintro e w4 ⟨rfl, hb⟩
      have HR4 := Lib.hid ((hb.block _ (lt_of_block HR3.out)).trans HR3.out)
      have HB4 := Lib.hid (HB3.out.trans (hb.mono HB3.out.size))
      have HN4 := Lib.hid (HN3.out.below hb)
      clear hb b0 b1 b2 b3 b4
      obtain ⟨b0, b1, b2, b3, b4⟩ := pk_cells HR4.out
      go_wp2_with fail
      refine (symF_bad p a c w4 HG.out).mono ?_
      rintro e w5 ⟨rfl, hb⟩
      have HR5 := Lib.hid ((hb.block _ (lt_of_block HR4.out)).trans HR4.out)
      have HB5 := Lib.hid (HB4.out.trans (hb.mono HB4.out.size))
      have HN5 := Lib.hid (HN4.out.below hb)
      clear hb b0 b1 b2 b3 b4
      obtain ⟨b0, b1, b2, b3, b4⟩ := pk_cells HR5.out
      go_wp2_with fail
      refine (valid_any p a c w5).mono ?_
      rintro e w6 ⟨rfl, hb⟩
      rw [hv]
      have HR6 := Lib.hid ((hb.block _ (lt_of_block HR5.out)).trans HR5.out)
      have HB6 := Lib.hid (HB5.out.trans (hb.mono HB5.out.size))
      have HN6 := Lib.hid (HN5.out.below hb)
      clear hb b0 b1 b2 b3 b4
      obtain ⟨b0, b1, b2, b3, b4⟩ := pk_cells HR6.out
      go_wp2_with fail
      refine (equal_any _ v2 p.pay p.pay w6 (HBY.out.below HB6.out) HN6.out.by (by omega) (by omega)).mono ?_
      rintro e w7 ⟨rfl, hd⟩
      have hsm : (p.pay == p.pay) = true := by simp
      rw [hsm]
      go_wp2_with fail
      go_ret
      exact ⟨rfl, below_dr HB6.out hd⟩
end Go.Proofs.YtdmfjmdnkfeljaaDoor
