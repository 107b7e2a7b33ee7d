/- The walk of FrameFlips. -/
import Derived.Test.YtdmfjmdnkfeljaaDoorFrnI
import Derived.Test.YtdmfjmdnkfeljaaDoorFrmX
import Derived.Test.YtdmfjmdnkfeljaaDoorFrmK
namespace Go.Proofs.YtdmfjmdnkfeljaaDoor
open Go.RowKit

theorem pk_lit {w : World} {b : Nat} {p : Pk} {pa : Option Addr} {pc : Nat} (h : w.heap[b]? = some (.cells #[.int .u8 (U p.kind), .int .i64 p.cls, .int .i64 p.number, .int .i64 p.value, .slice pa p.pay.length pc] 24)) (hb : By w (.slice pa p.pay.length pc) p.pay) : RdS ePk w (fun _ => True) (.slice (some ⟨b, 0, none⟩) 1 1) [p] := by
  refine ⟨[.int .u8 (U p.kind), .int .i64 p.cls, .int .i64 p.number, .int .i64 p.value, .slice pa p.pay.length pc], ⟨rfl, some ⟨b, 0, none⟩, 1, rfl, Nat.le_refl _, by unfold maxLen; omega, (fun e => by cases e), fun a ha k u hk => ?_⟩, Els.single (E := ePk) ⟨_, rfl, hb, fun _ _ _ => trivial⟩, fun _ _ _ => trivial⟩
  obtain rfl := Option.some.inj ha
  refine ⟨rfl, ?_⟩
  simp only [World.cell?, h, Nat.zero_add]
  simpa using hk
theorem flip_law {p q : Pk} (hp : Good p) (hq : Good q) {j : Nat} (hj : j < 6 * (symP p).length) : (Sc.new.scan ((symP p).set (j / 6) (flipS ((symP p).getD (j / 6) 0) (j % 6)) ++ symP q)).2 = [q] ∧ (Sc.new.scan ((symP p).set (j / 6) (flipS ((symP p).getD (j / 6) 0) (j % 6)) ++ symP q)).1.bad ≤ 1 := by
  have hi : j / 6 < (symP p).length := by omega
  refine scan_flip hp hq hi _ (flipS_bad' (sym_valid p _ ?_) (by omega))
  simp [List.getD, hi]
set_option maxRecDepth 100000 in
set_option maxHeartbeats 8000000 in
theorem walkFrameFlips (W : World) (v0 v1 v2 : Value) (o0 : IsPk W v0) (o1 : IsPk W v1) (o2 : IsInt .u16 v2) (ht : Tabs W) :
    Calls Tryd.prog 11 #[v0, v1, v2] W fun e w' => e = .returned (.bool true) ∧ Below W.heap.size W w' := by
  obtain ⟨p, a, c, rfl, hby⟩ := o0
  obtain ⟨q, qa, qc, rfl, hbq⟩ := o1
  obtain ⟨x, rfl, hx⟩ := o2
  have hxb := bounds_u16 hx
  have HT := Lib.hid ht; have HBY := Lib.hid hby; have HBQ := Lib.hid hbq
  clear ht hby hbq hx
  go_enter Tryd.func11, Tryd.ntmps11
  go_wp2_with fail
  obtain ⟨w0, hw0⟩ : ∃ w0, w0 = (W.alloc (.cells #[.int .u8 (U p.kind), .int .i64 p.cls, .int .i64 p.number, .int .i64 p.value, .slice a p.pay.length c] 24)).alloc (.cells #[.int .u8 (U q.kind), .int .i64 q.cls, .int .i64 q.number, .int .i64 q.value, .slice qa q.pay.length qc] 24) := ⟨_, rfl⟩
  rw [← hw0]
  have HR0 := Lib.hid (show w0.heap[W.heap.size]? = some (.cells #[.int .u8 (U p.kind), .int .i64 p.cls, .int .i64 p.number, .int .i64 p.value, .slice a p.pay.length c] 24) by rw [hw0]; exact (Below.heap_alloc _ _ _ (by simp)).trans (heap_alloc_new W _))
  have HQ0 := Lib.hid (show w0.heap[W.heap.size + 1]? = some (.cells #[.int .u8 (U q.kind), .int .i64 q.cls, .int .i64 q.number, .int .i64 q.value, .slice qa q.pay.length qc] 24) by rw [hw0]; have h := heap_alloc_new (W.alloc (.cells #[.int .u8 (U p.kind), .int .i64 p.cls, .int .i64 p.number, .int .i64 p.value, .slice a p.pay.length c] 24)) (.cells #[.int .u8 (U q.kind), .int .i64 q.cls, .int .i64 q.number, .int .i64 q.value, .slice qa q.pay.length qc] 24); rw [World.size_alloc] at h; exact h)
  have HB0 := Lib.hid (show Below W.heap.size W w0 by rw [hw0]; (repeat (first | (with_reducible exact Below.refl _ _) | (with_reducible refine Bw.alloc ?_ _) | (with_reducible refine Bw.drewN ?_ _) | (with_reducible refine Bw.drew ?_))))
  clear hw0
  refine (awake_any w0 (HT.out.below HB0.out)).mono ?_
  rintro e w1 ⟨rfl, hb⟩
  have HR1 := Lib.hid ((hb.block _ (lt_of_block HR0.out)).trans HR0.out)
  have HQ1 := Lib.hid ((hb.block _ (lt_of_block HQ0.out)).trans HQ0.out)
  have HB1 := Lib.hid (HB0.out.trans (hb.mono HB0.out.size)); clear hb
  obtain ⟨b0, b1, b2, b3, b4⟩ := pk_cells HR1.out
  by_cases hgp : Good p
  · have HGP := Lib.hid hgp
    clear hgp
    go_wp2_with fail
    refine (symF_good p a c w1 (HBY.out.below HB1.out) (HT.out.below HB1.out) HGP.out).mono ?_
    rintro e w2 ⟨v2, rfl, hn2, hb⟩
    have HQ2 := Lib.hid ((hb.block _ (lt_of_block HQ1.out)).trans HQ1.out)
    have HB2 := Lib.hid (HB1.out.trans (hb.mono HB1.out.size))
    have HN2 := Lib.hid hn2
    obtain ⟨sa, sc, rfl⟩ := hn2.slice
    clear hb hn2 b0 b1 b2 b3 b4
    obtain ⟨b0, b1, b2, b3, b4⟩ := pk_cells HQ2.out
    by_cases hgq : Good q
    · have HGQ := Lib.hid hgq
      clear hgq
      go_wp2_with fail
      refine (symF_good q qa qc w2 (HBQ.out.below HB2.out) (HT.out.below HB2.out) HGQ.out).mono ?_
      rintro e w3 ⟨v3, rfl, hn3, hb⟩
      have HQ3 := Lib.hid ((hb.block _ (lt_of_block HQ2.out)).trans HQ2.out)
      have HB3 := Lib.hid (HB2.out.trans (hb.mono HB2.out.size))
      have HN3 := Lib.hid (HN2.out.below hb)
      have HM3 := Lib.hid hn3
      obtain ⟨ta, tc, rfl⟩ := hn3.slice
      clear hb hn3 b0 b1 b2 b3 b4
      have hpl := HGP.out.pay
      have hql := HGQ.out.pay
      have HLP := Lib.hid (symP_length p)
      have HLQ := Lib.hid (symP_length q)
      have hlp : (symP p).length ≤ 164 ∧ 36 ≤ (symP p).length := by rw [HLP.out]; omega
      have hlq : (symP q).length ≤ 164 := by rw [HLQ.out]; omega
      obtain ⟨j, hj⟩ : ∃ j : Nat, x % (6 * ((symP p).length : Int)) = (j : Int) := ⟨(x % (6 * ((symP p).length : Int))).toNat, by have := Int.emod_nonneg x (b := 6 * ((symP p).length : Int)) (by omega); omega⟩
      have hjl : j < 6 * (symP p).length := by have := Int.emod_lt_of_pos x (b := 6 * ((symP p).length : Int)) (by omega); omega
      obtain ⟨hlaw1, hlaw2⟩ := flip_law HGP.out HGQ.out hjl
      generalize hss : symP p = ss at *
      generalize htt : symP q = tt at *
      have HSS := Lib.hid hss; have HTT := Lib.hid htt
      have HL1 := Lib.hid hlaw1; have HL2 := Lib.hid hlaw2
      clear hss htt hlaw1 hlaw2
      obtain ⟨hlp1, hlp2⟩ := hlp
      go_wp2_with fail
      refine (flip_any _ ss w3 HN3.out.by j hjl (by omega)).mono ?_
      rintro e w4 ⟨fa, fc, rfl, hn4, hb⟩
      have HQ4 := Lib.hid ((hb.block _ (lt_of_block HQ3.out)).trans HQ3.out)
      have HB4 := Lib.hid (HB3.out.trans (hb.mono HB3.out.size))
      have HM4 := Lib.hid (HM3.out.below hb)
      have hlf : (ss.set (j / 6) (flipS (ss.getD (j / 6) 0) (j % 6))).length = ss.length := List.length_set
      have HN4 := Lib.hid hn4.by
      clear hb hn4
      generalize ss.set (j / 6) (flipS (ss.getD (j / 6) 0) (j % 6)) = ff at *
      have HLF := Lib.hid hlf
      clear hlf
      go_wp2_with fail
      refine (concat2 (.slice fa ss.length fc) (.slice ta tt.length tc) ff tt _ _ (heap_alloc_new w4 _) (HN4.out.below (by (repeat (first | (with_reducible exact Below.refl _ _) | (with_reducible refine Bw.alloc ?_ _) | (with_reducible refine Bw.drewN ?_ _) | (with_reducible refine Bw.drew ?_))))) (HM4.out.by.below (by (repeat (first | (with_reducible exact Below.refl _ _) | (with_reducible refine Bw.alloc ?_ _) | (with_reducible refine Bw.drewN ?_ _) | (with_reducible refine Bw.drew ?_))))) (by rw [HLF.out]; omega) (by omega)).mono ?_
      rintro e w5 ⟨v5, rfl, hn5, hb⟩
      have hb' := (below_alloc w4 (.cells #[.slice fa ss.length fc, .slice ta tt.length tc] 22)).trans (hb.mono (by simp))
      have HQ5 := Lib.hid ((hb'.block _ (lt_of_block HQ4.out)).trans HQ4.out)
      have HB5 := Lib.hid (HB4.out.trans (hb'.mono HB4.out.size))
      have HN5 := Lib.hid hn5.by
      clear hb hb' hn5
      go_wp2_with fail
      refine (scan_any _ (ff ++ tt) w5 HN5.out (HT.out.below HB5.out) (by rw [List.length_append, HLF.out]; omega)).mono ?_
      rintro e w6 ⟨ga, gc, rfl, hrd, hb⟩
      rw [HL1.out] at hrd ⊢
      have HQ6 := Lib.hid ((hb.block _ (lt_of_block HQ5.out)).trans HQ5.out)
      have HB6 := Lib.hid (HB5.out.trans (hb.mono HB5.out.size))
      have HG6 := Lib.hid hrd
      clear hb hrd
      have hbd := HL2.out
      generalize (Sc.new.scan (ff ++ tt)).1.bad = nb at *
      have hbdi : ((nb : Int) ≤ 1) := by omega
      obtain ⟨b0, b1, b2, b3, b4⟩ := pk_cells HQ6.out
      go_wp2_with fail
      refine (same_refl (.slice ga 1 gc) (.slice (some ⟨w6.heap.size, 0, none⟩) 1 1) [q] _ _ (fun _ => True) (HG6.out.below (by (repeat (first | (with_reducible exact Below.refl _ _) | (with_reducible refine Bw.alloc ?_ _) | (with_reducible refine Bw.drewN ?_ _) | (with_reducible refine Bw.drew ?_))))) (pk_lit (heap_alloc_new w6 _) ((HBQ.out.below HB6.out).below (by (repeat (first | (with_reducible exact Below.refl _ _) | (with_reducible refine Bw.alloc ?_ _) | (with_reducible refine Bw.drewN ?_ _) | (with_reducible refine Bw.drew ?_)))))) (by simp)).mono ?_
      rintro e w7 ⟨rfl, hb⟩
      have HB7 := Lib.hid (HB6.out.trans (Below.trans ((show Below w6.heap.size w6 _ by (repeat (first | (with_reducible exact Below.refl _ _) | (with_reducible refine Bw.alloc ?_ _) | (with_reducible refine Bw.drewN ?_ _) | (with_reducible refine Bw.drew ?_)))).mono HB6.out.size) (hb.mono (by simp; have := HB6.out.size; omega))))
      clear hb
      go_wp2_with fail
      go_ret
      exact ⟨rfl, HB7.out⟩
    · have HGQ := Lib.hid hgq
      clear hgq
      go_wp2_with fail
      refine (symF_bad q qa qc w2 HGQ.out).mono ?_
      rintro e w3 ⟨rfl, hb⟩
      have HB3 := Lib.hid (HB2.out.trans (hb.mono HB2.out.size))
      clear hb
      go_wp2_with fail
      go_ret
      exact ⟨rfl, HB3.out⟩
  · have HGP := Lib.hid hgp
    clear hgp
    go_wp2_with fail
    refine (symF_bad p a c w1 HGP.out).mono ?_
    rintro e w2 ⟨rfl, hb⟩
    have HQ2 := Lib.hid ((hb.block _ (lt_of_block HQ1.out)).trans HQ1.out)
    have HB2 := Lib.hid (HB1.out.trans (hb.mono HB1.out.size))
    clear hb b0 b1 b2 b3 b4
    obtain ⟨b0, b1, b2, b3, b4⟩ := pk_cells HQ2.out
    by_cases hgq : Good q
    · have HGQ := Lib.hid hgq
      clear hgq
      go_wp2_with fail
      refine (symF_good q qa qc w2 (HBQ.out.below HB2.out) (HT.out.below HB2.out) HGQ.out).mono ?_
      rintro e w3 ⟨v3, rfl, hn3, hb⟩
      have HB3 := Lib.hid (HB2.out.trans (hb.mono HB2.out.size))
      clear hb hn3
      go_wp2_with fail
      go_ret
      exact ⟨rfl, HB3.out⟩
    · have HGQ := Lib.hid hgq
      clear hgq
      go_wp2_with fail
      refine (symF_bad q qa qc w2 HGQ.out).mono ?_
      rintro e w3 ⟨rfl, hb⟩
      have HB3 := Lib.hid (HB2.out.trans (hb.mono HB2.out.size))
      clear hb
      go_wp2_with fail
      go_ret
      exact ⟨rfl, HB3.out⟩
end Go.Proofs.YtdmfjmdnkfeljaaDoor
