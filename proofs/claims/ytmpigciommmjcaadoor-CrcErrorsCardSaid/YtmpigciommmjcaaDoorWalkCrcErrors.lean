/- The walk of CrcErrors. -/
import Derived.Test.YtmpigciommmjcaaDoorWalkCrcSums
namespace Go.Proofs.YtmpigciommmjcaaDoor
open Go.RowKit

set_option maxHeartbeats 1000000 in
theorem crcErrors_walk (w : World) (v u : Value) (xs ys : List (BitVec 8)) (hv : By w v xs) (hu : By w u ys) (ht : Tab w) :
    Calls Tryd.prog 6 #[v, u] w fun e w' => e = .returned (.bool true) ∧ Below w.heap.size w w' := by
  have HV := Lib.hid hv
  have HU := Lib.hid hu
  have HT := Lib.hid ht; clear ht
  obtain ⟨a, cap, rfl⟩ := hv.slice
  obtain ⟨a2, cap2, rfl⟩ := hu.slice
  clear hv hu
  by_cases h1 : (300 : Int) < xs.length
  · go_enter Tryd.func6, Tryd.ntmps6
    go_wp2_with fail
    refine (awake_any w HT.out).mono ?_
    rintro e w1 ⟨rfl, hb1⟩
    have HB := Lib.hid hb1; clear hb1
    go_wp2_with fail
    go_ret
    exact ⟨rfl, HB.out⟩
  by_cases h2 : (300 : Int) < ys.length
  · go_enter Tryd.func6, Tryd.ntmps6
    go_wp2_with fail
    refine (awake_any w HT.out).mono ?_
    rintro e w1 ⟨rfl, hb1⟩
    have HB := Lib.hid hb1; clear hb1
    go_wp2_with fail
    go_ret
    exact ⟨rfl, HB.out⟩
  have hsy := Lib.hid (errors_symm ys xs)
  by_cases h3 : xs.length = ys.length
  · have h3' : ((xs.length : Int) != (ys.length : Int)) = false := by simp; omega
    have href := Lib.hid (errors_ref xs ys h3)
    have H3 := Lib.hid h3; clear h3
    go_enter Tryd.func6, Tryd.ntmps6
    go_wp2_with fail
    refine (awake_any w HT.out).mono ?_
    rintro e w1 ⟨rfl, hb1⟩
    have HB := Lib.hid hb1; clear hb1
    go_wp2_with fail
    refine (errors_any _ _ xs ys _ (HV.out.below HB.out) (HU.out.below HB.out) (by omega)).mono ?_
    rintro e w2 ⟨rfl, hd⟩
    have HB2 := Lib.hid (below_dr HB.out hd); clear hd
    go_wp2_with fail
    refine (errors_any _ _ ys xs _ (HU.out.below HB2.out) (HV.out.below HB2.out) (by omega)).mono ?_
    rintro e w3 ⟨rfl, hd⟩
    rw [hsy.out]
    have HB3 := Lib.hid (below_dr HB2.out hd); clear hd
    go_wp2_with fail
    refine (refErrors_any _ _ xs ys _ (HV.out.below HB3.out) (HU.out.below HB3.out) H3.out (by omega)).mono ?_
    rintro e w4 ⟨rfl, hd⟩
    rw [← href.out]
    have HB4 := Lib.hid (below_dr HB3.out hd); clear hd
    go_wp2_with fail
    go_ret
    exact ⟨by simp, HB4.out⟩
  · have h3' : ((xs.length : Int) != (ys.length : Int)) = true := by simp; omega
    have he : errors xs ys = (-1, -1) := by unfold errors; rw [if_neg h3]
    have HE := Lib.hid he; clear he
    have H3 := Lib.hid h3; clear h3
    go_enter Tryd.func6, Tryd.ntmps6
    go_wp2_with fail
    refine (awake_any w HT.out).mono ?_
    rintro e w1 ⟨rfl, hb1⟩
    have HB := Lib.hid hb1; clear hb1
    go_wp2_with fail
    refine (errors_any _ _ xs ys _ (HV.out.below HB.out) (HU.out.below HB.out) (by omega)).mono ?_
    rintro e w2 ⟨rfl, hd⟩
    rw [HE.out]
    have HB2 := Lib.hid (below_dr HB.out hd); clear hd
    go_wp2_with fail
    refine (errors_any _ _ ys xs _ (HU.out.below HB2.out) (HV.out.below HB2.out) (by omega)).mono ?_
    rintro e w3 ⟨rfl, hd⟩
    rw [hsy.out, HE.out]
    have HB3 := Lib.hid (below_dr HB2.out hd); clear hd
    go_wp2_with fail
    go_ret
    exact ⟨rfl, HB3.out⟩
theorem walkCrcErrors (W : World) (v0 v1 : Value) (o0 : IsBytes W v0) (o1 : IsBytes W v1) (ht : Tab W) :
    Calls Tryd.prog 6 #[v0, v1] W fun e w' => e = .returned (.bool true) ∧ Below W.heap.size W w' := by
  obtain ⟨xs, hv⟩ := o0
  obtain ⟨ys, hu⟩ := o1
  exact crcErrors_walk W v0 v1 xs ys hv hu ht
end Go.Proofs.YtmpigciommmjcaaDoor
