/- The walk of FrameReturns. -/
import Derived.Test.YtdmfjmdnkfeljaaDoorFrmV
import Derived.Test.YtdmfjmdnkfeljaaDoorFrmJ
namespace Go.Proofs.YtdmfjmdnkfeljaaDoor
open Go.RowKit

set_option maxRecDepth 100000 in
set_option maxHeartbeats 16000000 in
theorem walkFrameReturns (W : World) (v0 v1 : Value) (o0 : IsPk W v0) (o1 : IsBytes W v1) (ht : Tabs W) :
    Calls Tryd.prog 5 #[v0, v1] W fun e w' => e = .returned (.bool true) ∧ Below W.heap.size W w' := by
  obtain ⟨p, a, c, rfl, hby⟩ := o0
  obtain ⟨bs, hmo⟩ := o1
  obtain ⟨ma, mc, rfl⟩ := hmo.slice
  have HT := Lib.hid ht; have HBY := Lib.hid hby; have HMO := Lib.hid hmo
  clear ht hby hmo
  go_enter Tryd.func5, Tryd.ntmps5
  go_wp2_with fail
  obtain ⟨w0, hw0⟩ : ∃ w0, w0 = W.alloc (.cells #[.int .u8 (U p.kind), .int .i64 p.cls, .int .i64 p.number, .int .i64 p.value, .slice a p.pay.length c] 24) := ⟨_, rfl⟩
  rw [← hw0]
  have HR0 := Lib.hid (show w0.heap[W.heap.size]? = some (.cells #[.int .u8 (U p.kind), .int .i64 p.cls, .int .i64 p.number, .int .i64 p.value, .slice a p.pay.length c] 24) by rw [hw0]; exact heap_alloc_new W _)
  have HB0 := Lib.hid (show Below W.heap.size W w0 by rw [hw0]; exact below_alloc W _)
  clear hw0
  refine (awake_any w0 (HT.out.below HB0.out)).mono ?_
  rintro e w1 ⟨rfl, hb⟩
  have HR1 := Lib.hid ((hb.block _ (lt_of_block HR0.out)).trans HR0.out)
  have HB1 := Lib.hid (HB0.out.trans (hb.mono HB0.out.size)); clear hb
  obtain ⟨b0, b1, b2, b3, b4⟩ := pk_cells HR1.out
  by_cases hbig : 300 < p.pay.length
  · go_wp2_with fail
    go_ret
    exact ⟨rfl, HB1.out⟩
  by_cases hbig2 : 300 < bs.length
  · go_wp2_with fail
    go_ret
    exact ⟨rfl, HB1.out⟩
  have hbig2' : bs.length ≤ 300 := by omega
  go_wp2_with fail
  refine (decF_any _ bs w1 (HMO.out.below HB1.out) (HT.out.below HB1.out).tab (by omega)).mono ?_
  rintro e w5 ⟨ra, rc, rfl, hn5, hb⟩
  have HR5 := Lib.hid ((hb.block _ (lt_of_block HR1.out)).trans HR1.out)
  have HB5 := Lib.hid (HB1.out.trans (hb.mono HB1.out.size))
  have HN5 := Lib.hid hn5.by
  have HGD := Lib.hid (fun q h => decP_good (b := bs) (p := q) h)
  clear hb hn5 b0 b1 b2 b3 b4
  obtain ⟨r, hr⟩ : ∃ r, r = decP bs := ⟨_, rfl⟩
  rw [← hr] at HN5 HGD ⊢
  clear hr
  obtain ⟨q, qf⟩ := r
  dsimp only at HN5 ⊢
  obtain ⟨b0, b1, b2, b3, b4⟩ := pk_cells HR5.out
  have hp0 : W.heap.size < w5.heap.size := lt_of_block HR5.out
  obtain ⟨w6, hw6⟩ : ∃ w6, w6 = w5.alloc (.cells #[.int .u8 (U q.kind), .int .i64 q.cls, .int .i64 q.number, .int .i64 q.value, .slice ra q.pay.length rc] 24) := ⟨_, rfl⟩
  have HW6 := Lib.hid hw6
  have HB6 := Lib.hid (show Below w5.heap.size w5 w6 by rw [hw6]; exact below_alloc w5 _)
  have HR6 := Lib.hid (show w6.heap[w5.heap.size]? = some (.cells #[.int .u8 (U q.kind), .int .i64 q.cls, .int .i64 q.number, .int .i64 q.value, .slice ra q.pay.length rc] 24) by rw [hw6]; exact heap_alloc_new w5 _)
  clear hw6
  by_cases hqf : qf = 0
  case' pos =>
    subst hqf
    obtain ⟨hgq, heq⟩ := HGD.out q rfl
    have HGQ := Lib.hid hgq; have HEQ := Lib.hid heq
    clear hgq heq
    have hpq := HGQ.out.pay
    go_wp2_with fail
    rw [← HW6.out]
    refine (encF_good q ra rc w6 (HN5.out.below HB6.out) (HT.out.below (HB5.out.trans (HB6.out.mono HB5.out.size))).tab HGQ.out).mono ?_
    rintro e w7 ⟨v7, rfl, hn7, hb⟩
    rw [HEQ.out] at hn7
    have HN7 := Lib.hid hn7.by
    have HR7 := Lib.hid ((hb.block _ (lt_of_block HR6.out)).trans HR6.out)
    have HB7 := Lib.hid (HB6.out.trans (hb.mono HB6.out.size))
    clear hb hn7
    obtain ⟨x7, c7, rfl⟩ := HN7.out.slice
    obtain ⟨d0, d1, d2, d3, d4⟩ := pk_cells HR7.out
    go_wp2_with fail
    refine (equal_any _ _ bs bs w7 HN7.out (HMO.out.below (HB5.out.trans (HB7.out.mono HB5.out.size))) (by omega) (by omega)).mono ?_
    rintro e w8 ⟨rfl, hd⟩
    have hsm : (bs == bs) = true := by simp
    rw [hsm]
    have hb : Below w7.heap.size w7 w8 := by obtain ⟨n, rfl⟩ := hd; exact below_drew w7 n
    have HR8 := Lib.hid ((hb.block _ (lt_of_block HR7.out)).trans HR7.out)
    have HB8 := Lib.hid (HB7.out.trans (hb.mono HB7.out.size))
    clear hb hd d0 d1 d2 d3 d4
    obtain ⟨d0, d1, d2, d3, d4⟩ := pk_cells HR8.out
    go_wp2_with fail
    refine (valid_any q ra rc w8).mono ?_
    rintro e w9 ⟨rfl, hb⟩
    rw [validP_iff.2 HGQ.out]
    have HB9 := Lib.hid (HB8.out.trans (hb.mono HB8.out.size))
    clear hb d0 d1 d2 d3 d4 b0 b1 b2 b3 b4
    have hrow9 := (HB9.out.block _ hp0).trans HR5.out
    obtain ⟨b0, b1, b2, b3, b4⟩ := pk_cells hrow9
    clear hrow9
    go_wp2_with fail
  case' neg =>
    obtain ⟨w9, hw9⟩ : ∃ w9, w9 = w6 := ⟨_, rfl⟩
    have HB9 := Lib.hid (show Below w5.heap.size w5 w9 by rw [hw9]; exact HB6.out)
    have HW9 := Lib.hid hw9
    clear hw9
    clear b0 b1 b2 b3 b4
    have hrow9 := (HB9.out.block _ hp0).trans HR5.out
    obtain ⟨b0, b1, b2, b3, b4⟩ := pk_cells hrow9
    clear hrow9
    go_upto_region 10 with (fail)
    rw [← HW6.out, ← HW9.out]
    go_wp2_with fail
  all_goals
    have HBA := Lib.hid (HB5.out.trans (HB9.out.mono HB5.out.size))
    have HRA := Lib.hid ((HB9.out.block _ hp0).trans HR5.out)
    clear HB9 HW6 HB6 HR6 HGD HN5
    by_cases hg : Good p
    · have HG := Lib.hid hg
      clear hg
      refine (encF_good p a c w9 (HBY.out.below HBA.out) (HT.out.below HBA.out).tab HG.out).mono ?_
      rintro e wa ⟨va, rfl, hna, hb⟩
      have HRB := Lib.hid ((hb.block _ (lt_of_block HRA.out)).trans HRA.out)
      have HBB := Lib.hid (HBA.out.trans (hb.mono HBA.out.size))
      have HNA := Lib.hid hna
      clear hb hna b0 b1 b2 b3 b4
      have hpl := HG.out.pay
      have hle : (encP p).length ≤ 81 ∧ 17 ≤ (encP p).length := by rw [encP_length]; omega
      obtain ⟨hle1, hle2⟩ := hle
      obtain ⟨xg, xo, xc, rfl, hxB, hxf, hxc⟩ := nb_shape HNA.out (by omega)
      have HXF := Lib.hid hxf; have HXC := Lib.hid hxc
      clear hxf hxc
      have HEN := Lib.hid (decP_encP HG.out)
      have HLE := Lib.hid hle1
      have hxl : xg < wa.heap.size := World.block_lt_of_cell? wa _ (HXC.out 0 (by omega))
      obtain ⟨L, hL⟩ : ∃ L, L = (encP p).length := ⟨_, rfl⟩
      have HLL := Lib.hid hL
      rw [← hL] at hle1 hle2 ⊢
      clear hL
      go_wp2_with fail
      refine (decF_any _ (encP p) wa (by have := HNA.out.by; rw [← HLL.out] at this; exact this) (HT.out.below HBB.out).tab (by have := HLE.out; omega)).mono ?_
      rintro e wb ⟨sa, sc, rfl, hnb, hb⟩
      rw [HEN.out] at hnb ⊢
      have HRC := Lib.hid ((hb.block _ (lt_of_block HRB.out)).trans HRB.out)
      have HBC := Lib.hid (HBB.out.trans (hb.mono HBB.out.size))
      have HNB := Lib.hid hnb
      have HCB := Lib.hid hb
      clear hb hnb
      obtain ⟨b0, b1, b2, b3, b4⟩ := pk_cells HRC.out
      dsimp only
      go_upto_region 14 with (fail)
      obtain ⟨wc, hwc⟩ : ∃ wc, wc = wb.alloc (.cells #[.int .u8 (U p.kind), .int .i64 p.cls, .int .i64 p.number, .int .i64 p.value, .slice sa p.pay.length sc] 24) := ⟨_, rfl⟩
      rw [← hwc]
      have HRD := Lib.hid (show wc.heap[wb.heap.size]? = some (.cells #[.int .u8 (U p.kind), .int .i64 p.cls, .int .i64 p.number, .int .i64 p.value, .slice sa p.pay.length sc] 24) by rw [hwc]; exact heap_alloc_new wb _)
      have hbd : Below wb.heap.size wb wc := by rw [hwc]; exact below_alloc wb _
      clear hwc b0 b1 b2 b3 b4
      have HRE := Lib.hid ((hbd.block _ (lt_of_block HRC.out)).trans HRC.out)
      have HBD := Lib.hid (HBC.out.trans (hbd.mono HBC.out.size))
      have HCD := Lib.hid (HCB.out.trans (hbd.mono HCB.out.size))
      have HND := Lib.hid (HNB.out.below hbd)
      have hxd := HCB.out.size
      clear hbd
      obtain ⟨b0, b1, b2, b3, b4⟩ := pk_cells HRE.out
      obtain ⟨d0, d1, d2, d3, d4⟩ := pk_cells HRD.out
      go_wp2_with fail
      refine (equal_any _ _ p.pay p.pay wc HND.out.by (HBY.out.below HBD.out) (by omega) (by omega)).mono ?_
      rintro e wd ⟨rfl, hd⟩
      have hsm : (p.pay == p.pay) = true := by simp
      rw [hsm]
      have hb : Below wc.heap.size wc wd := by obtain ⟨n, rfl⟩ := hd; exact below_drew wc n
      have HRF := Lib.hid ((hb.block _ (lt_of_block HRE.out)).trans HRE.out)
      have HRG := Lib.hid ((hb.block _ (lt_of_block HRD.out)).trans HRD.out)
      have HBE := Lib.hid (HBD.out.trans (hb.mono HBD.out.size))
      have HCE := Lib.hid (HCD.out.trans (hb.mono HCD.out.size))
      have HNE := Lib.hid (HND.out.below hb)
      have hbs : wb.heap.size < wd.heap.size := lt_of_block HRG.out
      have HXD := Lib.hid (show ∀ j, 0 ≤ j → j < L → wd.cell? ⟨xg, xo + j, none⟩ = some (.int .u8 (U ((encP p).getD j 0))) from fun j _ hj => (HCE.out.cell (p := ⟨xg, xo + j, none⟩) hxl).trans (HXC.out j (by have := HLL.out; omega)))
      have HXG := Lib.hid (show ∀ i, wd.frozen? ⟨xg, i, none⟩ = false from fun i => (HCE.out.frozen (p := ⟨xg, i, none⟩) hxl).trans (HXF.out i))
      have hxw : W.heap.size < w9.heap.size := lt_of_block HRA.out
      clear hb hd b0 b1 b2 b3 b4 d0 d1 d2 d3 d4
      go_wp2_with fail
      go_loopw [105] (fun i wr => ∃ k : Nat, k ≤ L ∧ i = .int .i64 (k : Int) ∧ Hid (∀ j, k ≤ j → j < L → wr.cell? ⟨xg, xo + j, none⟩ = some (.int .u8 (U ((encP p).getD j 0)))) ∧ Hid (∀ i, wr.frozen? ⟨xg, i, none⟩ = false) ∧ Hid (Fr (fun x => x = xg) wd wr)) (fun i _ => L - (intOf i).toNat)
      case atStart => exact ⟨0, by omega, by go_num, HXD, HXG, Lib.hid (Fr.refl _ _)⟩
      case round =>
        clear HXD HXG
        obtain ⟨k, hk, rfl, HXK, HFK, HFR⟩ := hrel
        by_cases hlt : k < L
        · have hck := HXK.out k (by omega) hlt
          have hfk := HFK.out (xo + k)
          generalize (encP p).getD k 0 = z at hck
          have hz := U_lt8 z
          have hz0 := U_nonneg z
          go_wp2_with fail
          go_roundw
          case rel => exact ⟨k + 1, by omega, by go_num, Lib.hid (fun j h1 h2 => (World.cell?_setCell_other _ _ _ _ (fun e => by have h3 : xo + k = xo + j := congrArg Addr.off e; omega)).trans (HXK.out j (by omega) h2)), Lib.hid (fun i => by rw [World.frozen?_setCell]; exact HFK.out i), Lib.hid (HFR.out.setCell (.inl rfl) _)⟩
          case measure => simp [intOf]; omega
        · have HRI := Lib.hid (HFR.out.keep HRF.out (by show ¬ _ = _; omega))
          have HRH := Lib.hid (HFR.out.keep HRG.out (by show ¬ _ = _; omega))
          obtain ⟨b0, b1, b2, b3, b4⟩ := pk_cells HRI.out
          obtain ⟨d0, d1, d2, d3, d4⟩ := pk_cells HRH.out
          have HPB := Lib.hid (show By wr (.slice a p.pay.length c) p.pay from HBY.out.keep fun k _ hk => (HFR.out.block k (Nat.lt_of_lt_of_le hk HBE.out.size) (by show ¬ _ = _; omega)).trans (HBE.out.block k hk))
          have HPN := Lib.hid (show By wr (.slice sa p.pay.length sc) p.pay from Nb.by (B := wa.heap.size) (Sl.keep HNE.out fun k hk hl => HFR.out.block k hl (by have hk' : wa.heap.size ≤ k := hk; show ¬ _ = _; omega)))
          have HBR := Lib.hid (show Below W.heap.size W wr from ((Fr.of_below (Fr.refl (fun x => x = xg) W) HBE.out).trans HFR.out fun x h => .inl h).below (Nat.le_refl _) fun k hk => by omega)
          clear HXK HFK HFR
          go_wp2_with fail
          refine (equal_any _ _ p.pay p.pay wr HPN.out HPB.out (by omega) (by omega)).mono ?_
          rintro e we ⟨rfl, hd⟩
          rw [hsm]
          go_wp2_with fail
          go_ret
          exact ⟨rfl, below_dr HBR.out hd⟩
    · have HG := Lib.hid hg
      clear hg
      refine (encF_bad p a c w9 HG.out).mono ?_
      rintro e wa ⟨rfl, hb⟩
      have HRB := Lib.hid ((hb.block _ (lt_of_block HRA.out)).trans HRA.out)
      have HBB := Lib.hid (HBA.out.trans (hb.mono HBA.out.size))
      clear hb b0 b1 b2 b3 b4
      obtain ⟨b0, b1, b2, b3, b4⟩ := pk_cells HRB.out
      have hv : validP p = false := by rw [Bool.eq_false_iff]; exact fun e => HG.out (validP_iff.1 e)
      have HV := Lib.hid hv
      clear hv
      go_wp2_with fail
      refine (valid_any p a c wa).mono ?_
      rintro e wb ⟨rfl, hb⟩
      rw [HV.out]
      have HBC := Lib.hid (HBB.out.trans (hb.mono HBB.out.size))
      clear hb
      go_wp2_with fail
      go_ret
      exact ⟨rfl, HBC.out⟩
end Go.Proofs.YtdmfjmdnkfeljaaDoor
