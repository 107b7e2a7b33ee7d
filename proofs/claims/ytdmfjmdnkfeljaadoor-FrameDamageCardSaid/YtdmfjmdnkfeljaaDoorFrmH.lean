/- The contract of the frame's Symbols. Both tables must lie as laid. -/
import Derived.Test.YtdmfjmdnkfeljaaDoorFrmG
namespace Go.Proofs.YtdmfjmdnkfeljaaDoor
open Go.RowKit

set_option maxHeartbeats 1000000 in
theorem ctl_0 (w : World) (hv : Val w) : Calls Tryd.prog 39 #[.int .i64 0] w fun e w' => e = .returned (.int .u8 49) ∧ w = w' := by
  have HV := Lib.hid hv
  clear hv
  go_enter Tryd.func39, Tryd.ntmps39
  go_wp2_with fail
  refine (control_0 w HV.out).mono ?_
  rintro e w' ⟨rfl, rfl⟩
  go_wp2_with fail
  go_ret
  exact ⟨rfl, rfl⟩
set_option maxHeartbeats 1000000 in
theorem ctl_1 (w : World) (hv : Val w) : Calls Tryd.prog 39 #[.int .i64 1] w fun e w' => e = .returned (.int .u8 50) ∧ w = w' := by
  have HV := Lib.hid hv
  clear hv
  go_enter Tryd.func39, Tryd.ntmps39
  go_wp2_with fail
  refine (control_1 w HV.out).mono ?_
  rintro e w' ⟨rfl, rfl⟩
  go_wp2_with fail
  go_ret
  exact ⟨rfl, rfl⟩
set_option maxRecDepth 100000 in
set_option maxHeartbeats 4000000 in
theorem symF_bad (p : Pk) (a : Option Addr) (c : Nat) (w : World) (hg : ¬ Good p) :
    Calls Tryd.prog 17 #[.agg #[.int .u8 (U p.kind), .int .i64 p.cls, .int .i64 p.number, .int .i64 p.value, .slice a p.pay.length c]] w fun e w' => e = .returned (.tuple #[.slice none 0 0, .int .i64 1]) ∧ Below w.heap.size w w' := by
  have HG := Lib.hid hg
  clear hg
  go_enter Tryd.func17, Tryd.ntmps17
  go_wp2_with fail
  refine (encF_bad p a c _ HG.out).mono ?_
  rintro e w1 ⟨rfl, hb⟩
  have HB1 := Lib.hid ((show Below w.heap.size w (w.alloc (.cells #[.int .u8 (U p.kind), .int .i64 p.cls, .int .i64 p.number, .int .i64 p.value, .slice a p.pay.length c] 24)) by (repeat (first | (with_reducible exact Below.refl _ _) | (with_reducible refine Bw.alloc ?_ _) | (with_reducible refine Bw.drewN ?_ _) | (with_reducible refine Bw.drew ?_)))).trans (hb.mono (by simp)))
  clear hb
  go_wp2_with fail
  go_ret2
  exact ⟨rfl, HB1.out⟩
set_option maxRecDepth 100000 in
set_option maxHeartbeats 8000000 in
theorem symF_good (p : Pk) (a : Option Addr) (c : Nat) (w : World) (hb : By w (.slice a p.pay.length c) p.pay) (ht : Tabs w) (hg : Good p) :
    Calls Tryd.prog 17 #[.agg #[.int .u8 (U p.kind), .int .i64 p.cls, .int .i64 p.number, .int .i64 p.value, .slice a p.pay.length c]] w fun e w' => ∃ v', e = .returned (.tuple #[v', .int .i64 0]) ∧ Nb w' w.heap.size v' (symP p) ∧ Below w.heap.size w w' := by
  have HG := Lib.hid hg; have HBY := Lib.hid hb; have HT := Lib.hid ht
  have hpl := hg.pay
  clear hg hb ht
  go_enter Tryd.func17, Tryd.ntmps17
  go_wp2_with fail
  refine (encF_good p a c _ (By.alloc HBY.out _) (Tab.alloc HT.out.tab _) HG.out).mono ?_
  rintro e w1 ⟨v1, rfl, hn1, hb⟩
  have HB1 := Lib.hid ((show Below w.heap.size w (w.alloc (.cells #[.int .u8 (U p.kind), .int .i64 p.cls, .int .i64 p.number, .int .i64 p.value, .slice a p.pay.length c] 24)) by (repeat (first | (with_reducible exact Below.refl _ _) | (with_reducible refine Bw.alloc ?_ _) | (with_reducible refine Bw.drewN ?_ _) | (with_reducible refine Bw.drew ?_)))).trans (hb.mono (by simp)))
  have HN1 := Lib.hid hn1
  have HT1 := Lib.hid (HT.out.below HB1.out)
  have hz1 := HB1.out.size
  obtain ⟨bs, hbs⟩ : ∃ bs, bs = encP p := ⟨_, rfl⟩
  have hbl : bs.length ≤ 81 := by rw [hbs, encP_length]; omega
  rw [← hbs] at HN1
  have HS := Lib.hid (show symP p = ([49] ++ encS bs) ++ [50] by unfold symP; rw [hbs]; rfl)
  clear hb hn1 hbs
  go_wp2_with fail
  refine (ctl_0 w1 HT1.out.val).mono ?_
  rintro e w' ⟨rfl, rfl⟩
  have HL0 := Lib.hid (show (#[Value.int .u8 49] : Array Value).toList = cu [49] from rfl)
  go_wp2_with fail
  refine (enc_any _ bs _ (HN1.out.by.alloc _) ((HT1.out.below (below_alloc w1 _)).val) (by omega)).mono ?_
  rintro e w2 ⟨v2, rfl, hn2, hb2⟩
  have HX2 := Lib.hid ((Nb.lit w1 w1.heap.size [49] #[.int .u8 49] 1 rfl hz1 rfl rfl (by decide)).below hb2)
  have HN2 := Lib.hid hn2
  have HB2 := Lib.hid (HB1.out.trans ((Below.trans (below_alloc w1 (.cells #[.int .u8 49] 5)) (hb2.mono (by simp))).mono hz1))
  have HT2 := Lib.hid (HT.out.below HB2.out)
  have hz2 := HB2.out.size
  have hel : (encS bs).length ≤ 162 := by rw [encS_length]; omega
  clear hn2 hb2
  generalize encS bs = es at *
  go_wp2_with (at_builtin; refine wpList_nb rfl _ _ rfl w.heap.size _ [49] rfl (by exact HX2.out) _ es rfl HN2.out.by (by show 1 + es.length ≤ _; omega) hz2 ?_; intro x3a x3c w3 hn3 hb3; generalize Value.slice x3a (([49] : List Byte).length + es.length) x3c = v3 at hn3 ⊢; have HN3 := Lib.hid hn3; have HB3 := Lib.hid (HB2.out.trans hb3); have HT3 := Lib.hid (HT.out.below HB3.out); have hz3 := HB3.out.size; clear hn3 hb3)
  refine (ctl_1 w3 HT3.out.val).mono ?_
  rintro e w' ⟨rfl, rfl⟩
  go_wp2_with (at_builtin; refine wpList_nb rfl _ _ rfl w.heap.size _ ([49] ++ es) rfl (by exact HN3.out.below (by (repeat (first | (with_reducible exact Below.refl _ _) | (with_reducible refine Bw.alloc ?_ _) | (with_reducible refine Bw.drewN ?_ _) | (with_reducible refine Bw.drew ?_))))) _ [50] rfl (By_lit _ _ _ _ [50] 1 1 rfl rfl rfl (Nat.le_refl _) (by decide)) (by rw [List.length_append]; show 1 + es.length + 1 ≤ _; omega) (by simp; omega) ?_; intro x4a x4c w4 hn4 hb4; generalize Value.slice x4a (([49] ++ es : List Byte).length + ([50] : List Byte).length) x4c = v4 at hn4 ⊢; have HN4 := Lib.hid hn4; have HB4 := Lib.hid (HB3.out.trans ((show Below w.heap.size w3 _ from (show Below w3.heap.size w3 _ by (repeat (first | (with_reducible exact Below.refl _ _) | (with_reducible refine Bw.alloc ?_ _) | (with_reducible refine Bw.drewN ?_ _) | (with_reducible refine Bw.drew ?_)))).mono hz3).trans hb4)); clear hn4 hb4)
  go_ret2
  exact ⟨v4, rfl, by rw [HS.out]; exact HN4.out, HB4.out⟩
end Go.Proofs.YtdmfjmdnkfeljaaDoor
