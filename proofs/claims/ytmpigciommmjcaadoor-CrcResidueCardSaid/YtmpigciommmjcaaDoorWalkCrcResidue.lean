/- The walk of CrcResidue. -/
import Derived.Test.YtmpigciommmjcaaDoorWalkCrcSums
import Derived.Test.YtmpigciommmjcaaDoorCrcG
import Derived.Test.YtmpigciommmjcaaDoorCrcR
namespace Go.Proofs.YtmpigciommmjcaaDoor
open Go.RowKit

/-- the way of a law whose size test lets the input through -/
theorem residue_U (bs : List (BitVec 8)) : (U (csum (sealed bs)) == 558161692) = true := by rw [residue]; decide
set_option maxHeartbeats 1000000 in
theorem crcResidue_walk (w : World) (v : Value) (bs : List (BitVec 8)) (hv : By w v bs) (ht : Tab w) :
    Calls Tryd.prog 7 #[v] w fun e w' => e = .returned (.bool true) ∧ Below w.heap.size w w' := by
  have HV := Lib.hid hv
  have HT := Lib.hid ht; clear ht
  obtain ⟨a, cap, rfl⟩ := hv.slice
  clear hv
  by_cases h3 : (300 : Int) < bs.length
  · go_enter Tryd.func7, Tryd.ntmps7
    go_wp2_with fail
    refine (awake_any w HT.out).mono ?_
    rintro e w1 ⟨rfl, hb1⟩
    have HB := Lib.hid hb1; clear hb1
    go_wp2_with fail
    go_ret
    exact ⟨rfl, HB.out⟩
  · have hres := residue_U bs
    go_enter Tryd.func7, Tryd.ntmps7
    go_wp2_with fail
    refine (awake_any w HT.out).mono ?_
    rintro e w1 ⟨rfl, hb1⟩
    have HB := Lib.hid hb1; clear hb1
    go_wp2_with fail
    refine (append_any _ bs _ (HV.out.below HB.out) (HT.out.below HB.out) (by omega)).mono ?_
    rintro e w2 ⟨v2, rfl, hO, hb2⟩
    have HO := Lib.hid hO; clear hO
    have HB2 := Lib.hid (HB.out.trans (hb2.mono HB.out.size)); clear hb2
    go_wp2_with fail
    refine (sum_any _ (sealed bs) _ HO.out.by (HT.out.below HB2.out)).mono ?_
    rintro e w3 ⟨rfl, rfl⟩
    go_wp2_with fail
    go_ret
    exact ⟨rfl, HB2.out⟩
theorem walkCrcResidue (W : World) (v0 : Value) (o0 : IsBytes W v0) (ht : Tab W) :
    Calls Tryd.prog 7 #[v0] W fun e w' => e = .returned (.bool true) ∧ Below W.heap.size W w' := by
  obtain ⟨bs, hv⟩ := o0
  exact crcResidue_walk W v0 bs hv ht
end Go.Proofs.YtmpigciommmjcaaDoor
