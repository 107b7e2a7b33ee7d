/- The walk of FrameCuts. -/
import Derived.Test.YtdmfjmdnkfeljaaDoorFrmV
import Derived.Test.YtdmfjmdnkfeljaaDoorFrmJ
import Derived.Test.YtdmfjmdnkfeljaaDoorFrmX
namespace Go.Proofs.YtdmfjmdnkfeljaaDoor
open Go.RowKit

set_option maxRecDepth 100000 in
set_option maxHeartbeats 8000000 in
theorem walkFrameCuts (W : World) (v0 v1 v2 : Value) (o0 : IsPk W v0) (o1 : IsInt .u8 v1) (o2 : IsBytes W v2) (ht : Tabs W) :
    Calls Tryd.prog 6 #[v0, v1, v2] W fun e w' => e = .returned (.bool true) ∧ Below W.heap.size W w' := by
  obtain ⟨p, a, c, rfl, hby⟩ := o0
  obtain ⟨x, rfl, hx⟩ := o1
  obtain ⟨more, hmo⟩ := o2
  have hxb := bounds_u8 hx
  obtain ⟨ma, mc, rfl⟩ := hmo.slice
  have HT := Lib.hid ht; have HBY := Lib.hid hby; have HMO := Lib.hid hmo
  clear ht hby hmo hx
  go_enter Tryd.func6, Tryd.ntmps6
  go_wp2_with fail
  obtain ⟨w0, hw0⟩ : ∃ w0, w0 = W.alloc (.cells #[.int .u8 (U p.kind), .int .i64 p.cls, .int .i64 p.number, .int .i64 p.value, .slice a p.pay.length c] 24) := ⟨_, rfl⟩
  rw [← hw0]
  have HR0 := Lib.hid (show w0.heap[W.heap.size]? = some (.cells #[.int .u8 (U p.kind), .int .i64 p.cls, .int .i64 p.number, .int .i64 p.value, .slice a p.pay.length c] 24) by rw [hw0]; exact heap_alloc_new W _)
  have HB0 := Lib.hid (show Below W.heap.size W w0 by rw [hw0]; exact below_alloc W _)
  clear hw0
  refine (awake_any w0 (HT.out.below HB0.out)).mono ?_
  rintro e w1 ⟨rfl, hb⟩
  have HR1 := Lib.hid ((hb.block _ (lt_of_block HR0.out)).trans HR0.out)
  have HB1 := Lib.hid (HB0.out.trans (hb.mono HB0.out.size)); clear hb
  obtain ⟨b0, b1, b2, b3, b4⟩ := pk_cells HR1.out
  by_cases hg : Good p
  · have HG := Lib.hid hg
    clear hg
    go_wp2_with fail
    refine (encF_good p a c w1 (HBY.out.below HB1.out) (HT.out.below HB1.out).tab HG.out).mono ?_
    rintro e w4 ⟨v4, rfl, hn4, hb⟩
    have HB4 := Lib.hid (HB1.out.trans (hb.mono HB1.out.size))
    have HE4 := Lib.hid hn4.by
    obtain ⟨a4, c4, rfl⟩ := hn4.slice
    clear hb hn4 b0 b1 b2 b3 b4
    have hpl := HG.out.pay
    have hle : (encP p).length ≤ 81 ∧ 17 ≤ (encP p).length := by rw [encP_length]; omega
    have hc4 : (encP p).length ≤ c4 := by obtain ⟨_, _, _, e, h, _⟩ := HE4.out; cases e; exact h
    have hc4m : c4 ≤ 9223372036854775807 := by obtain ⟨_, _, _, e, _, h, _⟩ := HE4.out; cases e; exact h
    obtain ⟨hle1, hle2⟩ := hle
    by_cases hbig : 40 < more.length
    · generalize (encP p).length = L at *
      go_wp2_with fail
      go_ret
      exact ⟨rfl, HB4.out⟩
    · obtain ⟨k, hk⟩ : ∃ k : Nat, x % ((encP p).length : Int) = (k : Int) := ⟨(x % ((encP p).length : Int)).toNat, by have := Int.emod_nonneg x (b := ((encP p).length : Int)) (by omega); omega⟩
      have hkl : k < (encP p).length := by have := Int.emod_lt_of_pos x (b := ((encP p).length : Int)) (by omega); omega
      have HD1 := Lib.hid (dec_take HG.out hkl)
      have HTK := Lib.hid (HE4.out.take (n := k) (by omega))
      have hktl : ((encP p).take k).length = k := by rw [List.length_take]; omega
      have HKTL := Lib.hid hktl
      have HM1 := Lib.hid (show more ≠ [] → (decP (encP p ++ more)).2 = 3 from fun h => dec_more HG.out h)
      have HM0 := Lib.hid (decP_encP HG.out)
      have HEL := Lib.hid (show (encP p).length ≤ 81 from hle1)
      clear hktl
      generalize (encP p).length = L at *
      have hkL1 : (0 : Int) ≤ (k : Int) ∧ (k : Int) ≤ (L : Int) := by omega
      go_wp2_with fail
      refine (decF_any _ ((encP p).take k) w4 HTK.out (HT.out.below HB4.out).tab (by rw [HKTL.out]; omega)).mono ?_
      rintro e w5 ⟨ra, rc, rfl, hn5, hb⟩
      have HB5 := Lib.hid (HB4.out.trans (hb.mono HB4.out.size))
      have HE5 := Lib.hid (HE4.out.below hb)
      clear hb hn5
      obtain ⟨r, hr⟩ : ∃ r, r = decP ((encP p).take k) := ⟨_, rfl⟩
      rw [← hr] at HD1 ⊢
      clear hr
      obtain ⟨⟨rk, rcl, rnu, rva, rpa⟩, rf⟩ := r
      obtain ⟨q, hq⟩ : ∃ q, q = decP (encP p ++ more) := ⟨_, rfl⟩
      have HQ := Lib.hid hq
      obtain ⟨⟨qk, qcl, qnu, qva, qpa⟩, qf⟩ := q
      have HQF := Lib.hid (show (more = [] → qf = 0) ∧ (more ≠ [] → qf = 3) from ⟨fun h => by subst h; rw [List.append_nil, HM0.out] at hq; exact congrArg Prod.snd hq, fun h => by have := HM1.out h; rw [← hq] at this; exact this⟩)
      clear hq HM0 HM1
      dsimp only
      have HRF : Hid (rf = if k < 17 then 4 else 3) := HD1
      by_cases h17 : k < 17
      · obtain rfl : rf = 4 := by rw [HRF.out, if_pos h17]
        clear HD1 HRF
        go_wp2_with fail
        (refine (concat2 (.slice a4 L c4) (.slice ma more.length mc) (encP p) more _ _ (by have h := heap_alloc_new (w5.alloc (.cells #[.int .u8 (U rk), .int .i64 rcl, .int .i64 rnu, .int .i64 rva, .slice ra rpa.length rc] 24)) (.cells #[.slice a4 L c4, .slice ma more.length mc] 22); rw [World.size_alloc] at h; exact h) (HE5.out.below (by (repeat (first | (with_reducible exact Below.refl _ _) | (with_reducible refine Bw.alloc ?_ _) | (with_reducible refine Bw.drewN ?_ _) | (with_reducible refine Bw.drew ?_))))) (HMO.out.below (HB5.out.trans ((show Below w5.heap.size w5 _ by (repeat (first | (with_reducible exact Below.refl _ _) | (with_reducible refine Bw.alloc ?_ _) | (with_reducible refine Bw.drewN ?_ _) | (with_reducible refine Bw.drew ?_)))).mono HB5.out.size))) (by rw [encP_length]; omega) (by omega)).mono ?_); rintro e w7 ⟨v7, rfl, hn7, hb⟩; have HB7 := Lib.hid (HB5.out.trans (Below.trans ((show Below w5.heap.size w5 _ by (repeat (first | (with_reducible exact Below.refl _ _) | (with_reducible refine Bw.alloc ?_ _) | (with_reducible refine Bw.drewN ?_ _) | (with_reducible refine Bw.drew ?_)))).mono HB5.out.size) (hb.mono (by simp; have := HB5.out.size; omega)))); have HE7 := Lib.hid hn7.by; clear hb hn7; go_wp2_with fail; (refine (decF_any _ (encP p ++ more) w7 HE7.out (HT.out.below HB7.out).tab (by rw [List.length_append, encP_length]; omega)).mono ?_); rintro e w8 ⟨sa, sc, rfl, hn8, hb⟩; rw [← HQ.out]; have HB8 := Lib.hid (HB7.out.trans (hb.mono HB7.out.size)); clear hb hn8; dsimp only; (by_cases hm0 : more = []); (focus (obtain rfl := HQF.out.1 hm0; subst hm0; go_wp2_with fail; go_ret; exact ⟨rfl, Bw.alloc HB8.out _⟩)); (focus (obtain rfl := HQF.out.2 hm0; have hml : ((more.length : Int) == 0) = false := (by have := List.length_pos_iff.2 hm0; simp; omega); have hmi : more.isEmpty = false := (by simpa using hm0); clear hm0; go_wp2_with fail; go_ret; exact ⟨rfl, Bw.alloc HB8.out _⟩))
      · obtain rfl : rf = 3 := by rw [HRF.out, if_neg h17]
        clear HD1 HRF
        go_wp2_with fail
        (refine (concat2 (.slice a4 L c4) (.slice ma more.length mc) (encP p) more _ _ (by have h := heap_alloc_new (w5.alloc (.cells #[.int .u8 (U rk), .int .i64 rcl, .int .i64 rnu, .int .i64 rva, .slice ra rpa.length rc] 24)) (.cells #[.slice a4 L c4, .slice ma more.length mc] 22); rw [World.size_alloc] at h; exact h) (HE5.out.below (by (repeat (first | (with_reducible exact Below.refl _ _) | (with_reducible refine Bw.alloc ?_ _) | (with_reducible refine Bw.drewN ?_ _) | (with_reducible refine Bw.drew ?_))))) (HMO.out.below (HB5.out.trans ((show Below w5.heap.size w5 _ by (repeat (first | (with_reducible exact Below.refl _ _) | (with_reducible refine Bw.alloc ?_ _) | (with_reducible refine Bw.drewN ?_ _) | (with_reducible refine Bw.drew ?_)))).mono HB5.out.size))) (by rw [encP_length]; omega) (by omega)).mono ?_); rintro e w7 ⟨v7, rfl, hn7, hb⟩; have HB7 := Lib.hid (HB5.out.trans (Below.trans ((show Below w5.heap.size w5 _ by (repeat (first | (with_reducible exact Below.refl _ _) | (with_reducible refine Bw.alloc ?_ _) | (with_reducible refine Bw.drewN ?_ _) | (with_reducible refine Bw.drew ?_)))).mono HB5.out.size) (hb.mono (by simp; have := HB5.out.size; omega)))); have HE7 := Lib.hid hn7.by; clear hb hn7; go_wp2_with fail; (refine (decF_any _ (encP p ++ more) w7 HE7.out (HT.out.below HB7.out).tab (by rw [List.length_append, encP_length]; omega)).mono ?_); rintro e w8 ⟨sa, sc, rfl, hn8, hb⟩; rw [← HQ.out]; have HB8 := Lib.hid (HB7.out.trans (hb.mono HB7.out.size)); clear hb hn8; dsimp only; (by_cases hm0 : more = []); (focus (obtain rfl := HQF.out.1 hm0; subst hm0; go_wp2_with fail; go_ret; exact ⟨rfl, Bw.alloc HB8.out _⟩)); (focus (obtain rfl := HQF.out.2 hm0; have hml : ((more.length : Int) == 0) = false := (by have := List.length_pos_iff.2 hm0; simp; omega); have hmi : more.isEmpty = false := (by simpa using hm0); clear hm0; go_wp2_with fail; go_ret; exact ⟨rfl, Bw.alloc HB8.out _⟩))
  · have HG := Lib.hid hg
    clear hg
    go_wp2_with fail
    refine (encF_bad p a c w1 HG.out).mono ?_
    rintro e w4 ⟨rfl, hb⟩
    have HB4 := Lib.hid (HB1.out.trans (hb.mono HB1.out.size))
    clear hb
    go_wp2_with fail
    go_ret
    exact ⟨rfl, HB4.out⟩
end Go.Proofs.YtdmfjmdnkfeljaaDoor
