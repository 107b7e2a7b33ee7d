/- The walk of CrcBursts. -/
import Derived.Test.YtmpigciommmjcaaDoorWalkCrcBits
namespace Go.Proofs.YtmpigciommmjcaaDoor
open Go.RowKit

theorem and1_bit (x : BitVec 32) (k : Nat) : ((x >>> k &&& 1#32) == 1#32) = x.getLsbD k := by
  rw [and1_eq, BitVec.getLsbD_ushiftRight, Nat.add_zero]
  cases x.getLsbD k <;> rfl
@[go_sem] theorem U32_eq_one (x : BitVec 32) : (U x == 1) = (x == 1#32) := U_eq_dec x 1#32
@[go_sem] theorem U32_eq_zero (x : BitVec 32) : (U x == 0) = (x == 0#32) := U_eq_dec x 0#32
theorem shl_u8_mod8b (yk : IntKind) (p k : Nat) : Op.shift .shl .u8 1 yk (((p : Int) + (k : Int)) % 8) = pure (.int .u8 (U (1#8 <<< ((p + k) % 8)))) := shl_u8_mod8 yk (p + k)
attribute [go_sem ↓ high] shl_u8_mod8b
set_option maxHeartbeats 4000000 in
theorem crcBursts_main (w : World) (v : Value) (bs : List (BitVec 8)) (x : Int) (pat : BitVec 32) (hx : 0 ≤ x ∧ x ≤ 65535) (hpat : pat ≠ 0#32) (hv : By w v bs) (ht : Tab w) (h300 : bs.length ≤ 300)
    (p : Nat) (hp : x % (8 * ((sealed bs).length : Int) - 31) = (p : Int)) (hpl : p + 32 ≤ 8 * (sealed bs).length) :
    Calls Tryd.prog 9 #[v, .int .u16 x, .int .u32 (U pat)] w fun e w' => e = .returned (.bool true) ∧ Below w.heap.size w w' := by
  have HV := Lib.hid hv
  have HT := Lib.hid ht; clear ht
  obtain ⟨a, cap, rfl⟩ := hv.slice
  have hcp := hv.parts
  clear hv
  have hsl := sealed_length bs
  have hp0 : (pat == 0#32) = false := by simpa using hpat
  have HBU := Lib.hid (burst_law bs p pat hpat hpl)
  have HP := Lib.hid hpat; clear hpat
  have tok1 : True := trivial
  go_enter Tryd.func9, Tryd.ntmps9
  go_wp2_with fail
  refine (awake_any w HT.out).mono ?_
  rintro e w1 ⟨rfl, hb1⟩
  have HB := Lib.hid hb1; clear hb1
  go_wp2_with fail
  refine (append_any _ bs _ (HV.out.below HB.out) (HT.out.below HB.out) (by omega)).mono ?_
  rintro e w3 ⟨v2, rfl, hO2, hb2⟩
  have HY3 := Lib.hid hO2.by
  have HB3 := Lib.hid (HB.out.trans (hb2.mono HB.out.size))
  clear hO2 hb2
  generalize hss : sealed bs = ss at *
  have HSS := Lib.hid hss; clear hss
  obtain ⟨a2, cap2, rfl⟩ := HY3.out.slice
  have hsl1 : ss.length ≤ bs.length + 4 := by omega
  have hsl2 : bs.length + 4 ≤ ss.length := by omega
  have HSL := Lib.hid hsl
  clear hsl
  go_wp2_with (at_builtin; have _t := tok1; refine wpList_app slB rfl _ _ rfl w3.heap.size _ 0 [] rfl (World.ownsRow_made _ _ 0 (Nat.le_refl _) (Nat.zero_le _) rfl) _ ss.length (cu ss) rfl (By.alloc HY3.out _) cu_one (by unfold maxLen; omega) (by omega) (by simp) ?_; intro v4 w4 hown4 hg4 hiff; clear hiff; have HB4 := Lib.hid (((Below.refl w3.heap.size w3).alloc (Nat.le_refl _) _).grown hg4 (by simp) (fun k e => by cases e; exact Nat.le_refl _)); have hO4 := (show Ow _ w4 w3.heap.size v4 ss by simpa [Ow] using hown4); obtain ⟨g, cap4, rfl, hg⟩ := Ow.head hO4 (by omega); have HO4 := Lib.hid hO4; clear hown4 hg4 tok1 hO4)
  have HPM := Lib.hid hp; clear hp
  go_loopw [39] (fun i wr => ∃ k : Nat, k ≤ 32 ∧ i = .int .i64 k ∧ Hid (Ow 5 wr w3.heap.size (.slice (some ⟨g, 0, none⟩) ss.length cap4) (burst ss p pat k)) ∧ Hid (Below w3.heap.size w3 wr)) (fun i _ => 32 - (intOf i).toNat)
  case atStart => exact ⟨0, by omega, rfl, HO4, HB4⟩
  case round =>
    obtain ⟨k, hk, rfl, HO, HBr⟩ := hrel
    by_cases hlt : k < 32
    · have hbit := and1_bit pat k
      have hfl := burst_length ss p pat k
      cases hpk : pat.getLsbD k with
      | true =>
        have hfs : burst ss p pat (k + 1) = flip (burst ss p pat k) (p + k) := by simp only [burst]; rw [if_pos hpk]
        rw [hpk] at hbit
        generalize hfk : burst ss p pat k = fk at *
        obtain ⟨hc1, hf1⟩ := ow_at (n := ss.length) (by have := HO.out; unfold Ow at this; rw [hfl] at this; exact this) hfl ((p + k) / 8) (by omega)
        obtain ⟨c1, hcc1⟩ : ∃ c1, c1 = fk.getD ((p + k) / 8) 0 := ⟨_, rfl⟩
        have hfl2 : fk.set ((p + k) / 8) (c1 ^^^ 1#8 <<< ((p + k) % 8)) = flip fk (p + k) := by rw [hcc1]; rfl
        rw [← hcc1] at hc1
        have HFL := Lib.hid hfl2; clear hfl2 hcc1
        have HFS := Lib.hid hfs; clear hfs
        have HFk := Lib.hid hfk; clear hfk
        have HFl := Lib.hid hfl; clear hfl
        have Hpk := Lib.hid hpk; clear hpk
        go_wp2_with fail
        go_region
        have HO5 := Lib.hid (Ow.store (by have := HO.out; unfold Ow at this; rw [HFl.out] at this; exact this : wr.ownsRow w3.heap.size 5 1 (.slice (some ⟨g, 0, none⟩) ss.length cap4) ss.length (cu fk)) ((p + k) / 8) (c1 ^^^ 1#8 <<< ((p + k) % 8)))
        rw [HFL.out] at HO5
        go_wp2_with fail
        go_roundw
        case rel =>
          refine ⟨k + 1, by omega, by go_num, Lib.hid ?_, Lib.hid (HBr.out.drew.setCell (p := ⟨g, (p + k) / 8, none⟩) hg _)⟩
          rw [HFS.out]; unfold Ow; rw [flip_length, HFl.out]; exact HO5.out
        case measure => simp [intOf]; omega
      | false =>
        have hfs : burst ss p pat (k + 1) = burst ss p pat k := by simp only [burst]; rw [hpk]; rfl
        rw [hpk] at hbit
        have HFS := Lib.hid hfs; clear hfs
        have HFl := Lib.hid hfl; clear hfl
        have Hpk := Lib.hid hpk; clear hpk
        go_wp2_with fail
        go_roundw
        case rel => exact ⟨k + 1, by omega, by go_num, Lib.hid (by rw [HFS.out]; exact HO.out), HBr⟩
        case measure => simp [intOf]; omega
    · obtain rfl : k = 32 := by omega
      have hfl := burst_length ss p pat 32
      have HY4 := Lib.hid HO.out.by
      have HB7 := Lib.hid (HB3.out.trans (HBr.out.mono HB3.out.size))
      have hsealed := HBU.out.1
      have hn := HBU.out.2.1
      have hb1 := HBU.out.2.2.1
      have hb2 := HBU.out.2.2.2
      generalize burst ss p pat 32 = bad at *
      have HS := Lib.hid hsealed; clear hsealed
      have HFl := Lib.hid hfl; clear hfl
      go_wp2_with fail
      refine (check_bad _ bad (by rw [HFl.out]; omega) (by rw [HFl.out]; omega) _ (by exact HY4.out) (by exact HT.out.below HB7.out) HS.out).mono ?_
      rintro e w9 ⟨rfl, hb9⟩
      have HB9 := Lib.hid (HB7.out.trans (hb9.mono HB7.out.size))
      have HYa := Lib.hid ((HY3.out.below HBr.out).below hb9)
      have HYb := Lib.hid (HY4.out.below hb9)
      clear hb9
      go_wp2_with fail
      refine (errors_any _ _ ss bad _ (by exact HYa.out) (by exact HYb.out) (by omega)).mono ?_
      rintro e w8 ⟨rfl, hd⟩
      have HB8 := Lib.hid (below_dr HB9.out hd)
      clear hd
      go_wp2_with fail
      go_ret
      exact ⟨rfl, HB8.out⟩

set_option maxHeartbeats 2000000 in
theorem crcBursts_big (w : World) (a : Option Addr) (n cap : Nat) (x : Int) (pat : BitVec 32) (ht : Tab w) (h : (300 : Int) < n) :
    Calls Tryd.prog 9 #[.slice a n cap, .int .u16 x, .int .u32 (U pat)] w fun e w' => e = .returned (.bool true) ∧ Below w.heap.size w w' := by
  have HT := Lib.hid ht; clear ht
  go_enter Tryd.func9, Tryd.ntmps9
  go_wp2_with fail
  refine (awake_any w HT.out).mono ?_
  rintro e w1 ⟨rfl, hb1⟩
  have HB := Lib.hid hb1; clear hb1
  go_wp2_with fail
  go_ret
  exact ⟨rfl, HB.out⟩
set_option maxHeartbeats 2000000 in
theorem crcBursts_zero (w : World) (a : Option Addr) (n cap : Nat) (x : Int) (ht : Tab w) (h : ¬ (300 : Int) < n) :
    Calls Tryd.prog 9 #[.slice a n cap, .int .u16 x, .int .u32 0] w fun e w' => e = .returned (.bool true) ∧ Below w.heap.size w w' := by
  have HT := Lib.hid ht; clear ht
  go_enter Tryd.func9, Tryd.ntmps9
  go_wp2_with fail
  refine (awake_any w HT.out).mono ?_
  rintro e w1 ⟨rfl, hb1⟩
  have HB := Lib.hid hb1; clear hb1
  go_wp2_with fail
  go_ret
  exact ⟨rfl, HB.out⟩
theorem walkCrcBursts (W : World) (v0 v1 v2 : Value) (o0 : IsBytes W v0) (o1 : IsInt .u16 v1) (o2 : IsInt .u32 v2) (ht : Tab W) :
    Calls Tryd.prog 9 #[v0, v1, v2] W fun e w' => e = .returned (.bool true) ∧ Below W.heap.size W w' := by
  obtain ⟨bs, hv⟩ := o0
  obtain ⟨x, rfl, hx⟩ := o1
  obtain ⟨z, rfl, hz⟩ := o2
  have bx := u16_bd hx
  have bz := bounds_u32 hz
  by_cases hbig : (300 : Int) < bs.length
  · obtain ⟨a, cap, rfl⟩ := hv.slice
    exact crcBursts_big W a _ cap x (BitVec.ofInt 32 z) ht hbig |> fun h => by rw [ofInt_U (n := 32) z (by omega) (by omega)] at h; exact h
  by_cases hz0 : z = 0
  · subst hz0
    obtain ⟨a, cap, rfl⟩ := hv.slice
    exact crcBursts_zero W a _ cap x ht hbig
  have hzU : U (BitVec.ofInt 32 z) = z := ofInt_U (n := 32) z (by omega) (by omega)
  have hpat : BitVec.ofInt 32 z ≠ 0#32 := by
    intro e; rw [e] at hzU; exact hz0 hzU.symm
  have hl := sealed_length bs
  have hp : ∃ p : Nat, x % (8 * ((sealed bs).length : Int) - 31) = (p : Int) ∧ p + 32 ≤ 8 * (sealed bs).length := by
    have h1 := Int.emod_nonneg x (show (8 * ((sealed bs).length : Int) - 31) ≠ 0 by omega)
    have h2 := Int.emod_lt_of_pos x (show 0 < (8 * ((sealed bs).length : Int) - 31) by omega)
    obtain ⟨p, hp⟩ := Int.eq_ofNat_of_zero_le h1
    exact ⟨p, hp, by omega⟩
  obtain ⟨p, hp, hpl⟩ := hp
  have := crcBursts_main W v0 bs x (BitVec.ofInt 32 z) bx hpat hv ht (by omega) p hp hpl
  rwa [hzU] at this
end Go.Proofs.YtmpigciommmjcaaDoor
