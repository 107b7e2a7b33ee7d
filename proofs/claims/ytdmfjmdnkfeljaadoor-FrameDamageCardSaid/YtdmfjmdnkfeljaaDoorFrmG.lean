/- The contract of the frame's Encode. Both tables must lie as laid. -/
import Derived.Test.YtdmfjmdnkfeljaaDoorFrmF
import Derived.Deep.Cut
namespace Go.Proofs.YtdmfjmdnkfeljaaDoor
open Go.RowKit

theorem pk_cells {w : World} {s : Nat} {u0 u1 u2 u3 u4 : Value} {T : TypeId} (h : w.heap[s]? = some (.cells #[u0, u1, u2, u3, u4] T)) : w.cell? ⟨s, 0, none⟩ = some u0 ∧ w.cell? ⟨s, 1, none⟩ = some u1 ∧ w.cell? ⟨s, 2, none⟩ = some u2 ∧ w.cell? ⟨s, 3, none⟩ = some u3 ∧ w.cell? ⟨s, 4, none⟩ = some u4 :=
  ⟨blk_cell (i := 0) h rfl, blk_cell (i := 1) h rfl, blk_cell (i := 2) h rfl, blk_cell (i := 3) h rfl, blk_cell (i := 4) h rfl⟩
theorem U_cls {c : Int} (h0 : 0 ≤ c) (h1 : c < 4) : U (BitVec.ofInt 8 c) = c := ofInt_U c h0 (by omega)
theorem U_len {n : Nat} (h : n ≤ 64) : U (BitVec.ofNat 8 n) = (n : Int) := by unfold U; rw [BitVec.toNat_ofNat]; omega
set_option maxRecDepth 100000 in
set_option maxHeartbeats 4000000 in
theorem encF_bad (p : Pk) (a : Option Addr) (c : Nat) (w : World) (hg : ¬ Good p) :
    Calls Tryd.prog 16 #[.agg #[.int .u8 (U p.kind), .int .i64 p.cls, .int .i64 p.number, .int .i64 p.value, .slice a p.pay.length c]] w fun e w' => e = .returned (.tuple #[.slice none 0 0, .int .i64 1]) ∧ Below w.heap.size w w' := by
  have HG := Lib.hid hg
  clear hg
  go_enter Tryd.func16, Tryd.ntmps16
  go_wp2_with fail
  refine (valid_bad p a c _ HG.out).mono ?_
  rintro e w1 ⟨rfl, hb⟩
  have HB1 := Lib.hid ((show Below w.heap.size w (w.alloc (.cells #[.int .u8 (U p.kind), .int .i64 p.cls, .int .i64 p.number, .int .i64 p.value, .slice a p.pay.length c] 24)) by (repeat (first | (with_reducible exact Below.refl _ _) | (with_reducible refine Bw.alloc ?_ _) | (with_reducible refine Bw.drewN ?_ _) | (with_reducible refine Bw.drew ?_)))).trans (hb.mono (by simp)))
  clear hb
  go_wp2_with fail
  go_ret2
  exact ⟨rfl, HB1.out⟩
set_option maxRecDepth 100000 in
set_option maxHeartbeats 8000000 in
theorem encF_good (p : Pk) (a : Option Addr) (c : Nat) (w : World) (hb : By w (.slice a p.pay.length c) p.pay) (ht : Tab w) (hg : Good p) :
    Calls Tryd.prog 16 #[.agg #[.int .u8 (U p.kind), .int .i64 p.cls, .int .i64 p.number, .int .i64 p.value, .slice a p.pay.length c]] w fun e w' => ∃ v', e = .returned (.tuple #[v', .int .i64 0]) ∧ Nb w' w.heap.size v' (encP p) ∧ Below w.heap.size w w' := by
  have HG := Lib.hid hg
  have HBY := Lib.hid hb; have HT := Lib.hid ht
  have hc0 := hg.c0; have hc1 := hg.c1; have hpl := hg.pay; have hn0 := hg.n0; have hn1 := hg.n1; have hv0 := hg.v0; have hv1 := hg.v1
  clear hg hb ht
  obtain ⟨kk, cls, num', val, pay⟩ := p
  dsimp only at hc0 hc1 hpl hn0 hn1 hv0 hv1 ⊢
  obtain ⟨n, rfl⟩ := Int.eq_ofNat_of_zero_le hn0
  obtain ⟨v, rfl⟩ := Int.eq_ofNat_of_zero_le hv0
  obtain ⟨p, hp⟩ : ∃ p : Pk, p = ⟨kk, cls, (n : Int), (v : Int), pay⟩ := ⟨_, rfl⟩
  have HE := Lib.hid (show encP p = sealed ((([kk, BitVec.ofInt 8 cls] ++ five n) ++ five v) ++ [BitVec.ofNat 8 pay.length] ++ pay) by rw [hp]; rfl)
  have hpv := valid_good p a c
  rw [hp] at hpv
  dsimp only at hpv
  have HPV := Lib.hid hpv
  rw [← hp]
  clear hp hpv
  go_enter Tryd.func16, Tryd.ntmps16
  go_wp2_with fail
  refine (HPV.out _ HG.out).mono ?_
  rintro e w1 ⟨rfl, hb⟩
  have HROW := Lib.hid ((hb.block w.heap.size (by simp)).trans (heap_alloc_new w (.cells #[.int .u8 (U kk), .int .i64 cls, .int .i64 (n : Int), .int .i64 (v : Int), .slice a pay.length c] 24)))
  have HB1 := Lib.hid ((show Below w.heap.size w (w.alloc (.cells #[.int .u8 (U kk), .int .i64 cls, .int .i64 (n : Int), .int .i64 (v : Int), .slice a pay.length c] 24)) by (repeat (first | (with_reducible exact Below.refl _ _) | (with_reducible refine Bw.alloc ?_ _) | (with_reducible refine Bw.drewN ?_ _) | (with_reducible refine Bw.drew ?_)))).trans (hb.mono (by simp)))
  have hz1 : w.heap.size < w1.heap.size := lt_of_block HROW.out
  clear hb
  obtain ⟨b0, b1, b2, b3, b4⟩ := pk_cells HROW.out
  have hucl := U_cls hc0 hc1
  have HL0 := Lib.hid (show (#[Value.int .u8 (U kk), Value.int .u8 cls] : Array Value).toList = cu [kk, BitVec.ofInt 8 cls] by show [Value.int .u8 (U kk), Value.int .u8 cls] = [Value.int .u8 (U kk), Value.int .u8 (U (BitVec.ofInt 8 cls))]; rw [hucl])
  clear hucl
  have hn1' : n < 1099511627776 := by omega
  have hv1' : v < 1099511627776 := by omega
  go_wp2_with fail
  refine (appNum_any n hn1' w1.heap.size _ [kk, BitVec.ofInt 8 cls] _ (Nb.lit w1 w1.heap.size [kk, BitVec.ofInt 8 cls] _ 2 rfl (Nat.le_refl _) HL0.out rfl (by decide)) (by simp) (by simp)).mono ?_
  rintro e w2 ⟨x2, rfl, hn2, hb2⟩
  have HN2 := Lib.hid hn2
  have hb2' : Below w1.heap.size w1 w2 := (show Below w1.heap.size w1 _ by (repeat (first | (with_reducible exact Below.refl _ _) | (with_reducible refine Bw.alloc ?_ _) | (with_reducible refine Bw.drewN ?_ _) | (with_reducible refine Bw.drew ?_)))).trans hb2
  have HROW2 := Lib.hid ((hb2'.block w.heap.size hz1).trans HROW.out)
  have HB2 := Lib.hid (HB1.out.trans (hb2'.mono HB1.out.size))
  have HZ2 := Lib.hid hb2'.size
  clear hn2 hb2 hb2' b0 b1 b2 b3 b4
  obtain ⟨b0, b1, b2, b3, b4⟩ := pk_cells HROW2.out
  go_wp2_with fail
  refine (appNum_any v hv1' w1.heap.size _ ([kk, BitVec.ofInt 8 cls] ++ five n) _ HN2.out HZ2.out (by rw [List.length_append, five_length]; simp)).mono ?_
  rintro e w3 ⟨x3, rfl, hn3, hb3⟩
  obtain ⟨x3a, x3c, rfl⟩ := hn3.slice
  have HN3 := Lib.hid hn3
  have HROW3 := Lib.hid ((hb3.block w.heap.size hz1).trans HROW2.out)
  have HB3 := Lib.hid (HB2.out.trans (hb3.mono (Nat.le_of_lt hz1)))
  have HZ3 := Lib.hid (Nat.le_trans HZ2.out hb3.size)
  have HBY3 := Lib.hid (HBY.out.below HB3.out)
  clear hn3 hb3 b0 b1 b2 b3 b4
  obtain ⟨b0, b1, b2, b3, b4⟩ := pk_cells HROW3.out
  have hs3 := lt_of_block HROW3.out
  have HL1 := Lib.hid (show [Value.int .u8 (pay.length : Int)] = cu [BitVec.ofNat 8 pay.length] by show _ = [Value.int .u8 (U (BitVec.ofNat 8 pay.length))]; rw [U_len hpl])
  generalize hxs : (([kk, BitVec.ofInt 8 cls] ++ five n) ++ five v) = xs at *
  have hxl : xs.length ≤ 12 := by rw [← hxs]; simp [five]
  clear hxs
  go_upto_region 7 with (at_builtin; refine wpList_nb rfl _ _ rfl w1.heap.size _ xs rfl (by exact HN3.out.below (by (repeat (first | (with_reducible exact Below.refl _ _) | (with_reducible refine Bw.alloc ?_ _) | (with_reducible refine Bw.drewN ?_ _) | (with_reducible refine Bw.drew ?_))))) _ [BitVec.ofNat 8 pay.length] rfl (By_lit _ _ _ _ [BitVec.ofNat 8 pay.length] 1 1 rfl HL1.out rfl (Nat.le_refl _) (by decide)) (by show xs.length + 1 ≤ _; omega) (by have := HZ3.out; simp; omega) ?_; intro x4a x4c w4 hn4 hb4; have HN4 := Lib.hid hn4; have hb4' := (show Below w1.heap.size w3 _ from (show Below w3.heap.size w3 _ by (repeat (first | (with_reducible exact Below.refl _ _) | (with_reducible refine Bw.alloc ?_ _) | (with_reducible refine Bw.drewN ?_ _) | (with_reducible refine Bw.drew ?_)))).mono HZ3.out).trans hb4; have HROW4 := Lib.hid ((hb4'.block w.heap.size hz1).trans HROW3.out); have HB4 := Lib.hid (HB3.out.trans (hb4'.mono (Nat.le_of_lt hz1))); have HZ4 := Lib.hid (Nat.le_trans HZ3.out hb4'.size); have HBY4 := Lib.hid (HBY.out.below HB4.out); clear hn4 hb4 hb4')
  clear b0 b1 b2 b3 b4
  obtain ⟨b0, b1, b2, b3, b4⟩ := pk_cells HROW4.out
  obtain ⟨ys, hys⟩ : ∃ ys, ys = xs ++ [BitVec.ofNat 8 pay.length] := ⟨_, rfl⟩
  have hle : ys.length = xs.length + 1 := by rw [hys]; simp
  have hly : ys.length ≤ 13 := by omega
  have HX4 := Lib.hid (show Nb w4 w1.heap.size (.slice x4a (xs.length + 1) x4c) ys by rw [hys]; exact HN4.out)
  rw [← hys] at HE
  rw [← hle] at HX4 ⊢
  clear hle hys HN4
  go_wp2_with (at_builtin; refine wpList_nb rfl _ _ rfl w1.heap.size _ ys rfl (by exact HX4.out) _ pay rfl HBY4.out (by omega) HZ4.out ?_; intro x5a x5c w5 hn5 hb5; generalize Value.slice x5a (ys.length + pay.length) x5c = v5 at hn5 ⊢; have HN5 := Lib.hid hn5; have HB5 := Lib.hid (HB4.out.trans (hb5.mono (Nat.le_of_lt hz1))); have HT5 := Lib.hid (HT.out.below HB5.out); clear hn5 hb5)
  refine (append_any _ (ys ++ pay) w5 HN5.out.by HT5.out (by rw [List.length_append]; omega)).mono ?_
  rintro e w6 ⟨v6, rfl, ho6, hb6⟩
  have HO6 := Lib.hid ho6
  have HB6 := Lib.hid (HB5.out.trans (hb6.mono HB5.out.size))
  clear ho6 hb6
  go_wp2_with fail
  go_ret2
  exact ⟨v6, rfl, by rw [HE.out]; exact (Nb.of_ow HO6.out).lower HB5.out.size, HB6.out⟩
end Go.Proofs.YtdmfjmdnkfeljaaDoor
