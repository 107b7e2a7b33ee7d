/- The contract of the reference's Encode of packets, at valid packets. -/
import Derived.Test.YtdmfjmdnkfeljaaDoorFrmN
import Derived.Deep.Cut
namespace Go.Proofs.YtdmfjmdnkfeljaaDoor
open Go.RowKit

set_option maxRecDepth 100000 in
set_option maxHeartbeats 8000000 in
theorem encR_good (p : Pk) (a : Option Addr) (c : Nat) (w : World) (hb : By w (.slice a p.pay.length c) p.pay) (hg : Good p) :
    Calls Tryd.prog 20 #[.agg #[.int .u8 (U p.kind), .int .i64 p.cls, .int .i64 p.number, .int .i64 p.value, .slice a p.pay.length c]] w fun e w' => ∃ v', e = .returned v' ∧ Nb w' w.heap.size v' (encP p) ∧ Below w.heap.size w w' := by
  have HBY := Lib.hid hb
  have hc0 := hg.c0; have hc1 := hg.c1; have hpl := hg.pay; have hn0 := hg.n0; have hn1 := hg.n1; have hv0 := hg.v0; have hv1 := hg.v1
  clear hg hb
  obtain ⟨kk, cls, num', val, pay⟩ := p
  dsimp only at hc0 hc1 hpl hn0 hn1 hv0 hv1 ⊢
  obtain ⟨n, rfl⟩ := Int.eq_ofNat_of_zero_le hn0
  obtain ⟨v, rfl⟩ := Int.eq_ofNat_of_zero_le hv0
  obtain ⟨p, hp⟩ : ∃ p : Pk, p = ⟨kk, cls, (n : Int), (v : Int), pay⟩ := ⟨_, rfl⟩
  have HE := Lib.hid (show encP p = sealed ((([kk, BitVec.ofInt 8 cls] ++ five n) ++ five v) ++ [BitVec.ofNat 8 pay.length] ++ pay) by rw [hp]; rfl)
  rw [← hp]
  clear hp
  have hucl := U_cls hc0 hc1
  have HL0 := Lib.hid (show (#[Value.int .u8 (U kk), Value.int .u8 cls] : Array Value).toList = cu [kk, BitVec.ofInt 8 cls] by show [Value.int .u8 (U kk), Value.int .u8 cls] = [Value.int .u8 (U kk), Value.int .u8 (U (BitVec.ofInt 8 cls))]; rw [hucl])
  clear hucl
  have hn1' : n < 1099511627776 := by omega
  have hv1' : v < 1099511627776 := by omega
  go_enter Tryd.func20, Tryd.ntmps20
  go_upto_region 1 with (fail)
  obtain ⟨w1, hw1⟩ : ∃ w1, w1 = w.alloc (.cells #[.int .u8 (U kk), .int .i64 cls, .int .i64 (n : Int), .int .i64 (v : Int), .slice a pay.length c] 24) := ⟨_, rfl⟩
  rw [← hw1]
  have HROW := Lib.hid (show w1.heap[w.heap.size]? = some (.cells #[.int .u8 (U kk), .int .i64 cls, .int .i64 (n : Int), .int .i64 (v : Int), .slice a pay.length c] 24) by rw [hw1]; exact heap_alloc_new w _)
  have HB1 := Lib.hid (show Below w.heap.size w w1 by rw [hw1]; exact below_alloc w _)
  have hz1 : w.heap.size < w1.heap.size := lt_of_block HROW.out
  clear hw1
  obtain ⟨b0, b1, b2, b3, b4⟩ := pk_cells HROW.out
  go_wp2_with fail
  refine (refFive_any n hn1' _).mono ?_
  rintro e w2 ⟨f2a, f2c, rfl, hf2, hb2⟩
  have HX2 := Lib.hid ((Nb.lit w1 w1.heap.size [kk, BitVec.ofInt 8 cls] _ 2 rfl (Nat.le_refl _) HL0.out rfl (by decide)).below hb2)
  have hb2' : Below w1.heap.size w1 w2 := Below.trans (below_alloc w1 _) (hb2.mono (by simp))
  have HF2 := Lib.hid hf2
  have HROW2 := Lib.hid ((hb2'.block w.heap.size hz1).trans HROW.out)
  have HB2 := Lib.hid (HB1.out.trans (hb2'.mono HB1.out.size))
  have HZ2 := Lib.hid hb2'.size
  clear hf2 hb2 hb2' b0 b1 b2 b3 b4
  go_upto_region 3 with (at_builtin; refine wpList_nb rfl _ _ rfl w1.heap.size _ [kk, BitVec.ofInt 8 cls] rfl (by exact HX2.out) _ (five n) rfl HF2.out.by (by rw [five_length]; simp) HZ2.out ?_; intro x3a x3c w3 hn3 hb3; generalize Value.slice x3a (([kk, BitVec.ofInt 8 cls] : List Byte).length + (five n).length) x3c = v3 at hn3 ⊢; have HN3 := Lib.hid hn3; have HROW3 := Lib.hid ((hb3.block w.heap.size hz1).trans HROW2.out); have HB3 := Lib.hid (HB2.out.trans (hb3.mono (Nat.le_of_lt hz1))); have HZ3 := Lib.hid (Nat.le_trans HZ2.out hb3.size); clear hn3 hb3)
  generalize hxs : [kk, BitVec.ofInt 8 cls] ++ five n = xs at *
  have hxl : xs.length ≤ 7 := by rw [← hxs]; simp [five]
  clear hxs
  obtain ⟨b0, b1, b2, b3, b4⟩ := pk_cells HROW3.out
  go_wp2_with fail
  refine (refFive_any v hv1' _).mono ?_
  rintro e w4 ⟨f4a, f4c, rfl, hf4, hb4⟩
  have HX4 := Lib.hid (HN3.out.below hb4)
  have HF4 := Lib.hid hf4
  have HROW4 := Lib.hid ((hb4.block w.heap.size (lt_of_block HROW3.out)).trans HROW3.out)
  have HB4 := Lib.hid (HB3.out.trans (hb4.mono HB3.out.size))
  have HZ4 := Lib.hid (Nat.le_trans HZ3.out hb4.size)
  clear hf4 hb4 b0 b1 b2 b3 b4
  go_upto_region 4 with (at_builtin; refine wpList_nb rfl _ _ rfl w1.heap.size _ xs rfl (by exact HX4.out) _ (five v) rfl HF4.out.by (by rw [five_length]; omega) HZ4.out ?_; intro x5a x5c w5 hn5 hb5; generalize Value.slice x5a (xs.length + (five v).length) x5c = v5 at hn5 ⊢; have HN5 := Lib.hid hn5; have HROW5 := Lib.hid ((hb5.block w.heap.size hz1).trans HROW4.out); have HB5 := Lib.hid (HB4.out.trans (hb5.mono (Nat.le_of_lt hz1))); have HZ5 := Lib.hid (Nat.le_trans HZ4.out hb5.size); clear hn5 hb5)
  generalize hys : xs ++ five v = ys at *
  have hyl : ys.length ≤ 12 := by rw [← hys]; simp [five]; omega
  clear hys
  obtain ⟨b0, b1, b2, b3, b4⟩ := pk_cells HROW5.out
  have HL1 := Lib.hid (show [Value.int .u8 (pay.length : Int)] = cu [BitVec.ofNat 8 pay.length] by show _ = [Value.int .u8 (U (BitVec.ofNat 8 pay.length))]; rw [U_len hpl])
  have hs5 := lt_of_block HROW5.out
  go_upto_region 5 with (at_builtin; refine wpList_nb rfl _ _ rfl w1.heap.size _ ys rfl (by exact HN5.out.below (by (repeat (first | (with_reducible exact Below.refl _ _) | (with_reducible refine Bw.alloc ?_ _) | (with_reducible refine Bw.drewN ?_ _) | (with_reducible refine Bw.drew ?_))))) _ [BitVec.ofNat 8 pay.length] rfl (By_lit _ _ _ _ [BitVec.ofNat 8 pay.length] 1 1 rfl HL1.out rfl (Nat.le_refl _) (by decide)) (by show ys.length + 1 ≤ _; omega) (by have := HZ5.out; simp; omega) ?_; intro x6a x6c w6 hn6 hb6; generalize Value.slice x6a (ys.length + ([BitVec.ofNat 8 pay.length] : List Byte).length) x6c = v6 at hn6 ⊢; have HN6 := Lib.hid hn6; have hb6' := (show Below w1.heap.size w5 _ from (show Below w5.heap.size w5 _ by (repeat (first | (with_reducible exact Below.refl _ _) | (with_reducible refine Bw.alloc ?_ _) | (with_reducible refine Bw.drewN ?_ _) | (with_reducible refine Bw.drew ?_)))).mono HZ5.out).trans hb6; have HROW6 := Lib.hid ((hb6'.block w.heap.size hz1).trans HROW5.out); have HB6 := Lib.hid (HB5.out.trans (hb6'.mono (Nat.le_of_lt hz1))); have HZ6 := Lib.hid (Nat.le_trans HZ5.out hb6'.size); have HBY6 := Lib.hid (HBY.out.below HB6.out); clear hn6 hb6 hb6')
  generalize hzs : ys ++ [BitVec.ofNat 8 pay.length] = zs at *
  have hzl : zs.length ≤ 13 := by rw [← hzs]; simp; omega
  clear hzs b0 b1 b2 b3 b4
  obtain ⟨b0, b1, b2, b3, b4⟩ := pk_cells HROW6.out
  go_wp2_with (at_builtin; refine wpList_nb rfl _ _ rfl w1.heap.size _ zs rfl (by exact HN6.out) _ pay rfl HBY6.out (by omega) HZ6.out ?_; intro x7a x7c w7 hn7 hb7; generalize Value.slice x7a (zs.length + pay.length) x7c = v7 at hn7 ⊢; have HN7 := Lib.hid hn7; have HB7 := Lib.hid (HB6.out.trans (hb7.mono (Nat.le_of_lt hz1))); have HZ7 := Lib.hid (Nat.le_trans HZ6.out hb7.size); clear hn7 hb7)
  refine (refsum_any v7 (zs ++ pay) w7 HN7.out.by).mono ?_
  rintro e w' ⟨rfl, rfl⟩
  have hbl : (zs ++ pay).length ≤ 77 := by rw [List.length_append]; omega
  have HE2 := Lib.hid (show encP p = (zs ++ pay) ++ le4 (csum (zs ++ pay)) from HE.out)
  generalize zs ++ pay = bd at *
  obtain ⟨S, hS⟩ : ∃ S, S = csum bd := ⟨_, rfl⟩
  rw [← hS] at HE2 ⊢
  clear hS b0 b1 b2 b3 b4
  go_wp2_with fail
  go_loopw [3, 5] (fun u3 i wr => ∃ k : Nat, k ≤ 4 ∧ i = .int .i64 (k : Int) ∧ Hid (Nb wr w1.heap.size u3 (bd ++ (le4 S).take k)) ∧ Hid (Below w1.heap.size w7 wr)) (fun _ i _ => 4 - (intOf i).toNat)
  case atStart => exact ⟨0, by omega, by go_num, Lib.hid (by rw [List.take_zero, List.append_nil]; exact HN7.out), Lib.hid (Below.refl _ _)⟩
  case round =>
    obtain ⟨k, hk, rfl, HO, HBW⟩ := hrel
    have hwr : w1.heap.size ≤ wr.heap.size := Nat.le_trans HZ7.out HBW.out.size
    by_cases hlt : k < 4
    · have HEK := Lib.hid (show bd ++ (le4 S).take (k + 1) = (bd ++ (le4 S).take k) ++ [(S >>> (8 * k)).setWidth 8] by rw [le4_take S k hlt, List.append_assoc])
      have hxl : (bd ++ (le4 S).take k).length ≤ 81 := by simp [le4]; omega
      generalize bd ++ (le4 S).take k = xs at *
      clear hn1' hv1' hn0 hn1 hv0 hv1
      go_wp2_with (at_builtin; refine wpList_nb rfl _ _ rfl w1.heap.size _ xs rfl (by exact HO.out.below (by (repeat (first | (with_reducible exact Below.refl _ _) | (with_reducible refine Bw.alloc ?_ _) | (with_reducible refine Bw.drewN ?_ _) | (with_reducible refine Bw.drew ?_))))) _ [(S >>> (8 * k)).setWidth 8] rfl (By_lit _ _ _ _ [(S >>> (8 * k)).setWidth 8] 1 1 rfl rfl rfl (Nat.le_refl _) (by decide)) (by show xs.length + 1 ≤ _; omega) (by simp; omega) ?_; intro a' c' w8 hn8 hb8; have HN8 := Lib.hid hn8; have HB8 := Lib.hid (HBW.out.trans (Below.trans ((show Below wr.heap.size wr _ by (repeat (first | (with_reducible exact Below.refl _ _) | (with_reducible refine Bw.alloc ?_ _) | (with_reducible refine Bw.drewN ?_ _) | (with_reducible refine Bw.drew ?_)))).mono hwr) hb8)); clear hn8 hb8)
      go_roundw
      case rel => exact ⟨k + 1, by omega, by go_num, Lib.hid (by rw [HEK.out]; exact HN8.out), HB8⟩
      case measure => simp [intOf]; omega
    · obtain rfl : k = 4 := by omega
      go_wp2_with fail
      go_ret
      exact ⟨_, rfl, by rw [HE2.out]; have := HO.out; rw [List.take_of_length_le (by simp [le4])] at this; exact this.lower (Nat.le_of_lt hz1), HB7.out.trans (HBW.out.mono (Nat.le_of_lt hz1))⟩
end Go.Proofs.YtdmfjmdnkfeljaaDoor
