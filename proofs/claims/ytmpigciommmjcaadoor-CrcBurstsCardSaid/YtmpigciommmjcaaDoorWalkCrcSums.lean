/- The walk of CrcSums; and what the row's list gives. -/
import Derived.Test.YtmpigciommmjcaaDoorCrcW
import Derived.Test.YtmpigciommmjcaaDoorRow
import Derived.Lib.LaidTab
namespace Go.Proofs.YtmpigciommmjcaaDoor
open Go.RowKit

theorem tab_of {W : World} {name : String} (h : Lib.TabIs Tryd.prog W name .u32 [0, 498536548, 997073096, 651767980, 1994146192, 1802195444, 1303535960, 1342533948, 3988292384, 4027552580, 3604390888, 3412177804, 2607071920, 2262029012, 2685067896, 3183342108]) (hg : Tryd.prog.globalNamed name = some 0) : Tab W := by
  intro r
  have hlt : N (r &&& 15#32) < 16 := by have := and15_lt r; rw [U_N] at this; omega
  have h1 := h.cell hg (N (r &&& 15#32)) (by simpa using hlt)
  rw [h1]
  have h2 : ∀ k, k < 16 → ([0, 498536548, 997073096, 651767980, 1994146192, 1802195444, 1303535960, 1342533948, 3988292384, 4027552580, 3604390888, 3412177804, 2607071920, 2262029012, 2685067896, 3183342108] : List Int).getD k 0 = U (rems.getD k 0) := by decide
  rw [h2 _ hlt]; rfl

set_option maxHeartbeats 400000 in
theorem crcSums_walk (w : World) (v : Value) (bs : List (BitVec 8)) (hv : By w v bs) (ht : Tab w) :
    Calls Tryd.prog 3 #[v] w fun e w' => e = .returned (.bool true) ∧ Below w.heap.size w w' := by
  have HV := Lib.hid hv
  have HT := Lib.hid ht; clear ht
  obtain ⟨a, cap, rfl⟩ := hv.slice
  clear hv
  by_cases h3 : (300 : Int) < bs.length
  · go_enter Tryd.func3, Tryd.ntmps3
    go_wp2_with fail
    refine (awake_any w HT.out).mono ?_
    rintro e w1 ⟨rfl, hb1⟩
    have HB := Lib.hid hb1; clear hb1
    go_wp2_with fail
    go_ret
    exact ⟨rfl, HB.out⟩
  · go_enter Tryd.func3, Tryd.ntmps3
    go_wp2_with fail
    refine (awake_any w HT.out).mono ?_
    rintro e w1 ⟨rfl, hb1⟩
    have HB := Lib.hid hb1; clear hb1
    go_wp2_with fail
    refine (sum_any _ bs _ (HV.out.below HB.out) (HT.out.below HB.out)).mono ?_
    rintro e w2 ⟨rfl, rfl⟩
    go_wp2_with fail
    refine (refsum_any _ bs _ (HV.out.below HB.out)).mono ?_
    rintro e w2 ⟨rfl, rfl⟩
    have h : (U (csum bs) == U (csum bs)) = true := by simp
    go_wp2_with fail
    go_ret
    exact ⟨by simp, HB.out⟩
theorem walkCrcSums (W : World) (v0 : Value) (o0 : IsBytes W v0) (ht : Tab W) :
    Calls Tryd.prog 3 #[v0] W fun e w' => e = .returned (.bool true) ∧ Below W.heap.size W w' := by
  obtain ⟨bs, hv⟩ := o0
  exact crcSums_walk W v0 bs hv ht
end Go.Proofs.YtmpigciommmjcaaDoor
