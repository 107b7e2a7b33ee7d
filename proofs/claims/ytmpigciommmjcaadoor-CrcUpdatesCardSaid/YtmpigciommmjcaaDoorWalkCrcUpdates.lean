/- The walk of CrcUpdates. -/
import Derived.Test.YtmpigciommmjcaaDoorWalkCrcSums
import Derived.Test.YtmpigciommmjcaaDoorCrcG
namespace Go.Proofs.YtmpigciommmjcaaDoor
open Go.RowKit

theorem upd_csum (a b : List (BitVec 8)) : upd (csum a) b = csum (a ++ b) := by
  unfold csum upd; rw [BitVec.not_not, reg_append]
set_option maxHeartbeats 2000000 in
theorem crcUpdates_walk (w : World) (u1 u2 u3 : Value) (a b c : List (BitVec 8)) (hu1 : By w u1 a) (hu2 : By w u2 b) (hu3 : By w u3 c) (ht : Tab w) :
    Calls Tryd.prog 4 #[u1, u2, u3] w fun e w' => e = .returned (.bool true) ∧ Below w.heap.size w w' := by
  have HU1 := Lib.hid hu1
  have HU2 := Lib.hid hu2
  have HU3 := Lib.hid hu3
  have HT := Lib.hid ht; clear ht
  obtain ⟨ad1, cap1, rfl⟩ := hu1.slice
  obtain ⟨ad2, cap2, rfl⟩ := hu2.slice
  obtain ⟨ad3, cap3, rfl⟩ := hu3.slice
  clear hu1 hu2 hu3
  by_cases h1 : (300 : Int) < a.length
  · go_enter Tryd.func4, Tryd.ntmps4
    go_wp2_with fail
    refine (awake_any w HT.out).mono ?_
    rintro e w1 ⟨rfl, hb1⟩
    have HB := Lib.hid hb1; clear hb1
    go_wp2_with fail
    go_ret
    exact ⟨rfl, HB.out⟩
  by_cases h2 : (300 : Int) < b.length
  · go_enter Tryd.func4, Tryd.ntmps4
    go_wp2_with fail
    refine (awake_any w HT.out).mono ?_
    rintro e w1 ⟨rfl, hb1⟩
    have HB := Lib.hid hb1; clear hb1
    go_wp2_with fail
    go_ret
    exact ⟨rfl, HB.out⟩
  by_cases h3 : (300 : Int) < c.length
  · go_enter Tryd.func4, Tryd.ntmps4
    go_wp2_with fail
    refine (awake_any w HT.out).mono ?_
    rintro e w1 ⟨rfl, hb1⟩
    have HB := Lib.hid hb1; clear hb1
    go_wp2_with fail
    go_ret
    exact ⟨rfl, HB.out⟩
  have hla : a.length ≤ 300 := by omega
  have hlb : b.length ≤ 300 := by omega
  have hlc : c.length ≤ 300 := by omega
  have hlab : (a ++ b).length ≤ 600 := by rw [List.length_append]; omega
  have tok1 : True := trivial
  go_enter Tryd.func4, Tryd.ntmps4
  go_wp2_with fail
  refine (awake_any w HT.out).mono ?_
  rintro e w1 ⟨rfl, hb1⟩
  have HB := Lib.hid hb1; clear hb1
  have hs1 := HB.out.size
  go_wp2_with (first
    | (at_builtin; have _t := tok1; refine wpList_app slB rfl _ _ rfl w1.heap.size _ 0 [] rfl (World.ownsRow_made _ _ 0 (Nat.le_refl _) (Nat.zero_le _) rfl) _ a.length (cu a) rfl (By.alloc (HU1.out.below HB.out) _) cu_one (by unfold maxLen; omega) (by omega) (by simp) ?_; intro v2 w2 hown2 hg2 _; have HB2 := Lib.hid (((Below.refl w1.heap.size w1).alloc (Nat.le_refl _) _).grown hg2 (by simp) (fun k e => by cases e; exact Nat.le_refl _)); have HO2 := Lib.hid (show Ow _ w2 w1.heap.size v2 a by simpa [Ow] using hown2); clear hown2 hg2 tok1)
    | (at_builtin; refine wpList_app slB rfl _ _ rfl w1.heap.size _ a.length (cu a) rfl HO2.out _ b.length (cu b) rfl ((HU2.out.below HB.out).below HB2.out) cu_one (by unfold maxLen; omega) (by omega) HB2.out.size ?_; intro v3 w3 hown3 hg3 _; have HB3 := Lib.hid (HB2.out.grown hg3 HB2.out.size (ow_lt HO2.out)); have HO3 := Lib.hid (ow_app hown3); clear hown3 hg3 HO2 HB2; have tok3 : True := trivial)
    | (at_builtin; have _t := tok3; refine wpList_app slB rfl _ _ rfl w3.heap.size _ 0 [] rfl (World.ownsRow_made _ _ 0 (Nat.le_refl _) (Nat.zero_le _) rfl) _ (a ++ b).length (cu (a ++ b)) rfl (By.alloc HO3.out.by _) cu_one (by unfold maxLen; omega) (by omega) (by simp) ?_; intro v4 w4 hown4 hg4 _; have HB4 := Lib.hid (((Below.refl w3.heap.size w3).alloc (Nat.le_refl _) _).grown hg4 (by simp) (fun k e => by cases e; exact Nat.le_refl _)); have HO4 := Lib.hid (show Ow _ w4 w3.heap.size v4 (a ++ b) by simpa [Ow] using hown4); clear hown4 hg4 tok3)
    | (at_builtin; refine wpList_app slB rfl _ _ rfl w3.heap.size _ (a ++ b).length (cu (a ++ b)) rfl HO4.out _ c.length (cu c) rfl (((HU3.out.below HB.out).below HB3.out).below HB4.out) cu_one (by unfold maxLen; omega) (by omega) HB4.out.size ?_; intro v5 w5 hown5 hg5 _; have HB5 := Lib.hid (HB4.out.grown hg5 HB4.out.size (ow_lt HO4.out)); have HO5 := Lib.hid (ow_app hown5); clear hown5 hg5 HO4 HB4))
  have HBw : Hid (Below w.heap.size w w5) := Lib.hid ((HB.out.trans (HB3.out.mono HB.out.size)).trans (HB5.out.mono (Nat.le_trans HB.out.size HB3.out.size)))
  have b1 := Lib.hid (HU1.out.below HBw.out)
  have b2 := Lib.hid (HU2.out.below HBw.out)
  have b3 := Lib.hid (HU3.out.below HBw.out)
  have b12 := Lib.hid (HO3.out.by.below HB5.out)
  have b123 := Lib.hid HO5.out.by
  have t5 := Lib.hid (HT.out.below HBw.out)
  clear HB HB3 HB5 HO3 HO5
  have e1 := upd_csum a b
  have e2 := upd_csum (a ++ b) c
  have e3 : upd 0 a = csum a := rfl
  have e4 : upd (csum a) [] = csum a := by rw [upd_csum, List.append_nil]
  have u0 : (0 : Int) = U (0 : BitVec 32) := rfl
  have U0 := Lib.hid u0; clear u0
  refine (sum_any _ a _ b1.out t5.out).mono ?_
  rintro e w6 ⟨rfl, rfl⟩
  go_wp2_with fail
  refine (update_any (csum a) _ b _ b2.out t5.out).mono ?_
  rintro e w6 ⟨rfl, rfl⟩
  go_wp2_with fail
  refine (sum_any _ (a ++ b) _ b12.out t5.out).mono ?_
  rintro e w6 ⟨rfl, rfl⟩
  go_wp2_with fail
  refine (sum_any _ a _ b1.out t5.out).mono ?_
  rintro e w6 ⟨rfl, rfl⟩
  go_wp2_with fail
  refine (update_any (csum a) _ b _ b2.out t5.out).mono ?_
  rintro e w6 ⟨rfl, rfl⟩
  go_wp2_with fail
  refine (update_any (csum (a ++ b)) _ c _ b3.out t5.out).mono ?_
  rintro e w6 ⟨rfl, rfl⟩
  go_wp2_with fail
  refine (sum_any _ (a ++ b ++ c) _ b123.out t5.out).mono ?_
  rintro e w6 ⟨rfl, rfl⟩
  go_wp2_with fail
  refine (update_any 0 _ a _ b1.out t5.out).mono ?_
  rintro e w6 ⟨rfl, rfl⟩
  go_wp2_with fail
  refine (sum_any _ a _ b1.out t5.out).mono ?_
  rintro e w6 ⟨rfl, rfl⟩
  go_wp2_with fail
  refine (sum_any _ a _ b1.out t5.out).mono ?_
  rintro e w6 ⟨rfl, rfl⟩
  go_wp2_with fail
  refine (update_any (csum a) _ [] _ (By.of_nil _) t5.out).mono ?_
  rintro e w6 ⟨rfl, rfl⟩
  go_wp2_with fail
  refine (sum_any _ a _ b1.out t5.out).mono ?_
  rintro e w6 ⟨rfl, rfl⟩
  go_wp2_with fail
  go_ret
  exact ⟨rfl, HBw.out⟩
theorem walkCrcUpdates (W : World) (v0 v1 v2 : Value) (o0 : IsBytes W v0) (o1 : IsBytes W v1) (o2 : IsBytes W v2) (ht : Tab W) :
    Calls Tryd.prog 4 #[v0, v1, v2] W fun e w' => e = .returned (.bool true) ∧ Below W.heap.size W w' := by
  obtain ⟨a, h0⟩ := o0
  obtain ⟨b, h1⟩ := o1
  obtain ⟨c, h2⟩ := o2
  exact crcUpdates_walk W v0 v1 v2 a b c h0 h1 h2 ht
end Go.Proofs.YtmpigciommmjcaaDoor
