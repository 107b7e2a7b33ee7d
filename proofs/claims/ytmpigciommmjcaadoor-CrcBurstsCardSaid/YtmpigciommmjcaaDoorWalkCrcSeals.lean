/- The walk of CrcSeals. -/
import Derived.Test.YtmpigciommmjcaaDoorWalkCrcLinear
import Derived.Test.YtmpigciommmjcaaDoorCrcG
import Derived.Test.YtmpigciommmjcaaDoorCrcR
import Derived.Test.YtmpigciommmjcaaDoorStr
import Derived.Deep.RegionWith
import Derived.BigQuiet
namespace Go.Proofs.YtmpigciommmjcaaDoor
open Go.RowKit

theorem conv8 {w : World} {v : Value} {bs : List (BitVec 8)} (hv : By w v bs) : (convert 22 9 v).run Tryd.prog w = .ok (.string (str8 bs)) w :=
  run_str8 Tryd.underlying22 Tryd.underlying5 Tryd.underlying9 hv
theorem By.drew {w : World} {v : Value} {bs : List (BitVec 8)} (h : By w v bs) : By w.drew v bs := Rd.keep h fun _ _ _ => rfl
theorem By.drewN {w : World} {v : Value} {bs : List (BitVec 8)} (h : By w v bs) (n : Nat) : By (w.drewN n) v bs := Rd.keep h fun _ _ _ => rfl
/-- Check at a sealed string -/
theorem check_ok (v : Value) (bs : List (BitVec 8)) (h4 : 4 ≤ bs.length) (hm : bs.length ≤ 1048576) (w : World) (hv : By w v bs) (ht : Tab w) (hs : isSealed bs = true) :
    Calls Tryd.prog 20 #[v] w fun e w' => ∃ v', e = .returned (.tuple #[v', .int .i64 0]) ∧ By w' v' (bs.take (bs.length - 4)) ∧ Below w.heap.size w w' :=
  (check_long v bs h4 hm w hv ht).mono fun e w' h => by
    rcases h with ⟨hf, _⟩ | ⟨_, v', he, ho, hb⟩
    · rw [hs] at hf; cases hf
    · exact ⟨v', he, ho.by, hb⟩
theorem check_bad (v : Value) (bs : List (BitVec 8)) (h4 : 4 ≤ bs.length) (hm : bs.length ≤ 1048576) (w : World) (hv : By w v bs) (ht : Tab w) (hs : isSealed bs = false) :
    Calls Tryd.prog 20 #[v] w fun e w' => e = .returned (.tuple #[.slice none 0 0, .int .i64 9]) ∧ Below w.heap.size w w' :=
  (check_long v bs h4 hm w hv ht).mono fun e w' h => by
    rcases h with ⟨_, he, hb⟩ | ⟨hf, _⟩
    · exact ⟨he, hb⟩
    · rw [hs] at hf; cases hf
theorem sealed_take (bs : List (BitVec 8)) : (sealed bs).take ((sealed bs).length - 4) = bs := by
  rw [sealed_length, Nat.add_sub_cancel]; unfold sealed; simp

set_option maxHeartbeats 2000000 in
theorem crcSeals_big (w : World) (a : Option Addr) (n cap : Nat) (ht : Tab w) (h : (300 : Int) < n) :
    Calls Tryd.prog 8 #[.slice a n cap] w fun e w' => e = .returned (.bool true) ∧ Below w.heap.size w w' := by
  have HT := Lib.hid ht; clear ht
  go_enter Tryd.func8, Tryd.ntmps8
  go_wp2_with fail
  refine (awake_any w HT.out).mono ?_
  rintro e w1 ⟨rfl, hb1⟩
  have HB := Lib.hid hb1; clear hb1
  go_wp2_with fail
  go_ret
  exact ⟨rfl, HB.out⟩
set_option maxHeartbeats 4000000 in
theorem crcSeals_short (w : World) (v : Value) (bs : List (BitVec 8)) (hv : By w v bs) (ht : Tab w) (h4 : bs.length < 4) :
    Calls Tryd.prog 8 #[v] w fun e w' => e = .returned (.bool true) ∧ Below w.heap.size w w' := by
  have HV := Lib.hid hv
  have HT := Lib.hid ht; clear ht
  obtain ⟨a, cap, rfl⟩ := hv.slice
  have hcp := hv.parts
  clear hv
  have hsl := sealed_length bs
  have HST := Lib.hid (sealed_take bs)
  have HOK := Lib.hid (isSealed_sealed bs)
  go_enter Tryd.func8, Tryd.ntmps8
  go_wp2_with fail
  refine (awake_any w HT.out).mono ?_
  rintro e w1 ⟨rfl, hb1⟩
  have HB := Lib.hid hb1; clear hb1
  go_wp2_with fail
  refine (append_any _ bs _ (HV.out.below HB.out) (HT.out.below HB.out) (by omega)).mono ?_
  rintro e w2 ⟨v2, rfl, hO2, hb2⟩
  have HY2 := Lib.hid hO2.by
  have HB2 := Lib.hid (HB.out.trans (hb2.mono HB.out.size))
  clear hO2 hb2
  generalize hss : sealed bs = ss at *
  have HSS := Lib.hid hss; clear hss
  have HSL := Lib.hid hsl; clear hsl
  obtain ⟨a2, cap2, rfl⟩ := HY2.out.slice
  have hk1 := conv8 HY2.out.drew
  go_wp2_with fail
  go_region_with (go_at_call 19; refine (refAppend_any _ bs _ ((HV.out.below HB2.out).drew) (by omega)).mono ?_; rintro e w3 ⟨v3, rfl, hO3, hb3⟩; rw [HSS.out] at hO3; have HY3 := Lib.hid hO3.by; have hk3 := conv8 HY3.out; have HB3 := Lib.hid hb3; have hk2 := conv8 (HY2.out.drew.below HB3.out); clear hO3 hb3)
  all_goals
    have HB4 := Lib.hid ((HB2.out.drew).trans (HB3.out.mono HB2.out.size))
    have HY4 := Lib.hid (HY2.out.drew.below HB3.out)
    clear hk1 hk2 hk3 HY3 HB3 HB2 HB HY2
    go_wp2_with fail
    refine (check_ok _ ss (by have := HSL.out; omega) (by have := HSL.out; omega) _ HY4.out (HT.out.below HB4.out) HOK.out).mono ?_
    rintro e w5 ⟨v5, rfl, hY5, hb5⟩
    rw [HST.out] at hY5
    have HB5 := Lib.hid (HB4.out.trans (hb5.mono HB4.out.size))
    have hk5 := conv8 hY5
    have hk6 := conv8 (HV.out.below HB5.out)
    obtain ⟨a5, cap5, rfl⟩ := hY5.slice
    clear hb5 hY5 HB4 HY4
    go_wp2_with fail
    refine (check_short _ _ _ h4 _).mono ?_
    rintro e w6 ⟨rfl, hd⟩
    have HB6 := Lib.hid (below_dr HB5.out hd)
    clear hd hk5 hk6
    go_wp2_with fail
    go_ret
    exact ⟨rfl, HB6.out⟩
set_option maxHeartbeats 4000000 in
theorem crcSeals_bad (w : World) (v : Value) (bs : List (BitVec 8)) (hv : By w v bs) (ht : Tab w) (h4 : 4 ≤ bs.length) (h300 : bs.length ≤ 300) (hbad : isSealed bs = false) :
    Calls Tryd.prog 8 #[v] w fun e w' => e = .returned (.bool true) ∧ Below w.heap.size w w' := by
  have HV := Lib.hid hv
  have HT := Lib.hid ht; clear ht
  obtain ⟨a, cap, rfl⟩ := hv.slice
  have hcp := hv.parts
  clear hv
  have hsl := sealed_length bs
  have HST := Lib.hid (sealed_take bs)
  have HOK := Lib.hid (isSealed_sealed bs)
  have HBAD := Lib.hid hbad; clear hbad
  go_enter Tryd.func8, Tryd.ntmps8
  go_wp2_with fail
  refine (awake_any w HT.out).mono ?_
  rintro e w1 ⟨rfl, hb1⟩
  have HB := Lib.hid hb1; clear hb1
  go_wp2_with fail
  refine (append_any _ bs _ (HV.out.below HB.out) (HT.out.below HB.out) (by omega)).mono ?_
  rintro e w2 ⟨v2, rfl, hO2, hb2⟩
  have HY2 := Lib.hid hO2.by
  have HB2 := Lib.hid (HB.out.trans (hb2.mono HB.out.size))
  clear hO2 hb2
  generalize hss : sealed bs = ss at *
  have HSS := Lib.hid hss; clear hss
  have HSL := Lib.hid hsl; clear hsl
  obtain ⟨a2, cap2, rfl⟩ := HY2.out.slice
  have hk1 := conv8 HY2.out.drew
  go_wp2_with fail
  go_region_with (go_at_call 19; refine (refAppend_any _ bs _ ((HV.out.below HB2.out).drew) (by omega)).mono ?_; rintro e w3 ⟨v3, rfl, hO3, hb3⟩; rw [HSS.out] at hO3; have HY3 := Lib.hid hO3.by; have hk3 := conv8 HY3.out; have HB3 := Lib.hid hb3; have hk2 := conv8 (HY2.out.drew.below HB3.out); clear hO3 hb3)
  all_goals
    have HB4 := Lib.hid ((HB2.out.drew).trans (HB3.out.mono HB2.out.size))
    have HY4 := Lib.hid (HY2.out.drew.below HB3.out)
    clear hk1 hk2 hk3 HY3 HB3 HB2 HB HY2
    go_wp2_with fail
    refine (check_ok _ ss (by have := HSL.out; omega) (by have := HSL.out; omega) _ HY4.out (HT.out.below HB4.out) HOK.out).mono ?_
    rintro e w5 ⟨v5, rfl, hY5, hb5⟩
    rw [HST.out] at hY5
    have HB5 := Lib.hid (HB4.out.trans (hb5.mono HB4.out.size))
    have hk5 := conv8 hY5
    have hk6 := conv8 (HV.out.below HB5.out)
    obtain ⟨a5, cap5, rfl⟩ := hY5.slice
    clear hb5 hY5 HB4 HY4
    go_wp2_with fail
    refine (check_bad _ bs h4 (by omega) _ (HV.out.below HB5.out) (HT.out.below HB5.out) HBAD.out).mono ?_
    rintro e w6 ⟨rfl, hb6⟩
    have HB6 := Lib.hid (HB5.out.trans (hb6.mono HB5.out.size))
    clear hb6 hk5 hk6
    go_wp2_with fail
    refine (sealed_long _ bs h4 (by omega) _ (HV.out.below HB6.out)).mono ?_
    rintro e w7 ⟨rfl, hb7⟩
    have HB7 := Lib.hid (HB6.out.trans (hb7.mono HB6.out.size))
    rw [HBAD.out]
    clear hb7
    go_wp2_with fail
    go_ret
    exact ⟨rfl, HB7.out⟩
set_option maxHeartbeats 4000000 in
theorem crcSeals_ok (w : World) (v : Value) (bs : List (BitVec 8)) (hv : By w v bs) (ht : Tab w) (h4 : 4 ≤ bs.length) (h300 : bs.length ≤ 300) (hgood : isSealed bs = true) :
    Calls Tryd.prog 8 #[v] w fun e w' => e = .returned (.bool true) ∧ Below w.heap.size w w' := by
  have HV := Lib.hid hv
  have HT := Lib.hid ht; clear ht
  obtain ⟨a, cap, rfl⟩ := hv.slice
  have hcp := hv.parts
  clear hv
  have hsl := sealed_length bs
  have HST := Lib.hid (sealed_take bs)
  have HOK := Lib.hid (isSealed_sealed bs)
  have HGOOD := Lib.hid hgood; clear hgood
  go_enter Tryd.func8, Tryd.ntmps8
  go_wp2_with fail
  refine (awake_any w HT.out).mono ?_
  rintro e w1 ⟨rfl, hb1⟩
  have HB := Lib.hid hb1; clear hb1
  go_wp2_with fail
  refine (append_any _ bs _ (HV.out.below HB.out) (HT.out.below HB.out) (by omega)).mono ?_
  rintro e w2 ⟨v2, rfl, hO2, hb2⟩
  have HY2 := Lib.hid hO2.by
  have HB2 := Lib.hid (HB.out.trans (hb2.mono HB.out.size))
  clear hO2 hb2
  generalize hss : sealed bs = ss at *
  have HSS := Lib.hid hss; clear hss
  have HSL := Lib.hid hsl; clear hsl
  obtain ⟨a2, cap2, rfl⟩ := HY2.out.slice
  have hk1 := conv8 HY2.out.drew
  go_wp2_with fail
  go_region_with (go_at_call 19; refine (refAppend_any _ bs _ ((HV.out.below HB2.out).drew) (by omega)).mono ?_; rintro e w3 ⟨v3, rfl, hO3, hb3⟩; rw [HSS.out] at hO3; have HY3 := Lib.hid hO3.by; have hk3 := conv8 HY3.out; have HB3 := Lib.hid hb3; have hk2 := conv8 (HY2.out.drew.below HB3.out); clear hO3 hb3)
  all_goals
    have HB4 := Lib.hid ((HB2.out.drew).trans (HB3.out.mono HB2.out.size))
    have HY4 := Lib.hid (HY2.out.drew.below HB3.out)
    clear hk1 hk2 hk3 HY3 HB3 HB2 HB HY2
    go_wp2_with fail
    refine (check_ok _ ss (by have := HSL.out; omega) (by have := HSL.out; omega) _ HY4.out (HT.out.below HB4.out) HOK.out).mono ?_
    rintro e w5 ⟨v5, rfl, hY5, hb5⟩
    rw [HST.out] at hY5
    have HB5 := Lib.hid (HB4.out.trans (hb5.mono HB4.out.size))
    have hk5 := conv8 hY5
    have hk6 := conv8 (HV.out.below HB5.out)
    obtain ⟨a5, cap5, rfl⟩ := hY5.slice
    clear hb5 hY5 HB4 HY4
    go_wp2_with fail
    refine (check_ok _ bs h4 (by omega) _ (HV.out.below HB5.out) (HT.out.below HB5.out) HGOOD.out).mono ?_
    rintro e w6 ⟨v6, rfl, hY6, hb6⟩
    have HY6 := Lib.hid hY6
    have HB6 := Lib.hid (HB5.out.trans (hb6.mono HB5.out.size))
    clear hb6 hk5 hk6
    obtain ⟨a6, cap6, rfl⟩ := hY6.slice
    have hY6' := Lib.hid hY6
    clear hY6
    go_wp2_with fail
    refine (sealed_long _ bs h4 (by omega) _ (HV.out.below HB6.out)).mono ?_
    rintro e w7 ⟨rfl, hb7⟩
    have HB7 := Lib.hid (HB6.out.trans (hb7.mono HB6.out.size))
    rw [HGOOD.out]
    have hln : (bs.take (bs.length - 4)).length = bs.length - 4 := by rw [List.length_take]; omega
    have hcp6 := hY6'.out.parts
    rw [hln] at hcp6
    have ht := By.take (n := bs.length - 4) (HV.out.below HB7.out) (by omega)
    have hk7 := fun m => conv8 (By.drewN (HY6.out.below hb7) m)
    have hk8 := fun m => conv8 (By.drewN ht m)
    rw [hln] at hk7
    generalize hbt : bs.take (bs.length - 4) = bt at *
    have HBT := Lib.hid hbt
    have Hln := Lib.hid hln
    clear hbt hln ht
    clear hb7
    go_wp2_with fail
    go_quiet (fail)
    go_wp2_with fail
    go_ret
    exact ⟨rfl, below_drewN HB7.out _⟩
theorem walkCrcSeals (W : World) (v0 : Value) (o0 : IsBytes W v0) (ht : Tab W) :
    Calls Tryd.prog 8 #[v0] W fun e w' => e = .returned (.bool true) ∧ Below W.heap.size W w' := by
  obtain ⟨bs, hv⟩ := o0
  by_cases hbig : (300 : Int) < bs.length
  · obtain ⟨a, cap, rfl⟩ := hv.slice
    exact crcSeals_big W a _ cap ht hbig
  by_cases h4 : bs.length < 4
  · exact crcSeals_short W v0 bs hv ht h4
  cases hs : isSealed bs with
  | true => exact crcSeals_ok W v0 bs hv ht (by omega) (by omega) hs
  | false => exact crcSeals_bad W v0 bs hv ht (by omega) (by omega) hs
end Go.Proofs.YtmpigciommmjcaaDoor
