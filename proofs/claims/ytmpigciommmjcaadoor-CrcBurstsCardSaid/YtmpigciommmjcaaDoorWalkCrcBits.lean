/- The walk of CrcBits. -/
import Derived.Test.YtmpigciommmjcaaDoorWalkCrcPairs
namespace Go.Proofs.YtmpigciommmjcaaDoor
open Go.RowKit

/-- s with the first k of three bits inverted -/
def flips (s : List (BitVec 8)) (p q r : Nat) : Nat → List (BitVec 8)
  | 0 => s
  | 1 => flip s p
  | 2 => flip (flip s p) q
  | _ => flip (flip (flip s p) q) r
def sel (x y z : Int) : Nat → Int
  | 0 => x
  | 1 => y
  | _ => z
def seln (p q r : Nat) : Nat → Nat
  | 0 => p
  | 1 => q
  | _ => r
theorem flips_succ (s : List (BitVec 8)) (p q r k : Nat) (hk : k < 3) : flips s p q r (k + 1) = flip (flips s p q r k) (seln p q r k) := by
  have : k = 0 ∨ k = 1 ∨ k = 2 := by omega
  rcases this with rfl | rfl | rfl <;> rfl
theorem flips_length (s : List (BitVec 8)) (p q r k : Nat) : (flips s p q r k).length = s.length := by
  match k with
  | 0 => rfl
  | 1 => exact flip_length _ _
  | 2 => exact (flip_length _ _).trans (flip_length _ _)
  | k + 3 => exact ((flip_length _ _).trans (flip_length _ _)).trans (flip_length _ _)
theorem sel_cell (x y z : Int) (k : Nat) (hk : k < 3) : (#[Value.int .u16 x, Value.int .u16 y, Value.int .u16 z] : Array Value)[k]? = some (.int .u16 (sel x y z k)) := by
  have : k = 0 ∨ k = 1 ∨ k = 2 := by omega
  rcases this with rfl | rfl | rfl <;> rfl
theorem sel_bd (x y z : Int) (k : Nat) (hx : 0 ≤ x ∧ x ≤ 65535) (hy : 0 ≤ y ∧ y ≤ 65535) (hz : 0 ≤ z ∧ z ≤ 65535) : 0 ≤ sel x y z k ∧ sel x y z k ≤ 65535 := by
  match k with
  | 0 => exact hx
  | 1 => exact hy
  | k + 2 => exact hz
theorem sel_mod (x y z : Int) (p q r : Nat) (M : Int) (hp : x % M = (p : Int)) (hq : y % M = (q : Int)) (hr : z % M = (r : Int)) (k : Nat) : sel x y z k % M = (seln p q r k : Nat) := by
  match k with
  | 0 => exact hp
  | 1 => exact hq
  | k + 2 => exact hr
theorem seln_lt (p q r M k : Nat) (hp : p < M) (hq : q < M) (hr : r < M) : seln p q r k < M := by
  match k with
  | 0 => exact hp
  | 1 => exact hq
  | k + 2 => exact hr

set_option maxHeartbeats 4000000 in
theorem crcBits_main (w : World) (v : Value) (bs : List (BitVec 8)) (x y z : Int) (hx : 0 ≤ x ∧ x ≤ 65535) (hy : 0 ≤ y ∧ y ≤ 65535) (hz : 0 ≤ z ∧ z ≤ 65535) (hv : By w v bs) (ht : Tab w) (h96 : bs.length ≤ 96)
    (p q r : Nat) (hp : x % (8 * ((sealed bs).length : Int)) = (p : Int)) (hq : y % (8 * ((sealed bs).length : Int)) = (q : Int)) (hr : z % (8 * ((sealed bs).length : Int)) = (r : Int)) (hpl : p < 8 * (sealed bs).length) (hql : q < 8 * (sealed bs).length) (hrl : r < 8 * (sealed bs).length) :
    Calls Tryd.prog 10 #[v, .int .u16 x, .int .u16 y, .int .u16 z] w fun e w' => e = .returned (.bool true) ∧ Below w.heap.size w w' := by
  have HV := Lib.hid hv
  have HT := Lib.hid ht; clear ht
  obtain ⟨a, cap, rfl⟩ := hv.slice
  have hcp := hv.parts
  clear hv
  have hsl := sealed_length bs
  have HTR := Lib.hid (three_bits bs p q r (by omega) hpl hql hrl)
  have HP := Lib.hid hp; clear hp
  have HQ := Lib.hid hq; clear hq
  have HR := Lib.hid hr; clear hr
  have tok1 : True := trivial
  go_enter Tryd.func10, Tryd.ntmps10
  go_wp2_with fail
  refine (awake_any w HT.out).mono ?_
  rintro e w1 ⟨rfl, hb1⟩
  have HB := Lib.hid hb1; clear hb1
  go_wp2_with fail
  refine (append_any _ bs _ (HV.out.below HB.out) (HT.out.below HB.out) (by omega)).mono ?_
  rintro e w3 ⟨v2, rfl, hO2, hb2⟩
  have HY3 := Lib.hid hO2.by
  have HB3 := Lib.hid (HB.out.trans (hb2.mono HB.out.size))
  clear hO2 hb2
  generalize hss : sealed bs = ss at *
  have HSS := Lib.hid hss; clear hss
  obtain ⟨a2, cap2, rfl⟩ := HY3.out.slice
  have hsl1 : ss.length ≤ bs.length + 4 := by omega
  have hsl2 : bs.length + 4 ≤ ss.length := by omega
  have HSL := Lib.hid hsl
  clear hsl
  go_wp2_with (at_builtin; have _t := tok1; refine wpList_app slB rfl _ _ rfl w3.heap.size _ 0 [] rfl (World.ownsRow_made _ _ 0 (Nat.le_refl _) (Nat.zero_le _) rfl) _ ss.length (cu ss) rfl (By.alloc HY3.out _) cu_one (by unfold maxLen; omega) (by omega) (by simp) ?_; intro v4 w4 hown4 hg4 hiff; clear hiff; have HB4 := Lib.hid (((Below.refl w3.heap.size w3).alloc (Nat.le_refl _) _).grown hg4 (by simp) (fun k e => by cases e; exact Nat.le_refl _)); have hO4 := (show Ow _ w4 w3.heap.size v4 ss by simpa [Ow] using hown4); obtain ⟨g, cap4, rfl, hg⟩ := Ow.head hO4 (by omega); have HO4 := Lib.hid hO4; clear hown4 hg4 tok1 hO4)
  have hglt : g < w4.heap.size := (World.ownsRow.lt HO4.out g rfl).2
  go_loopw [36] (fun i wr => ∃ k : Nat, k ≤ 3 ∧ i = .int .i64 k ∧ Hid (Ow 5 wr w3.heap.size (.slice (some ⟨g, 0, none⟩) ss.length cap4) (flips ss p q r k)) ∧ Hid (Below w3.heap.size w3 wr) ∧ Hid (wr.heap[w4.heap.size]? = some (.cells #[.int .u16 x, .int .u16 y, .int .u16 z] 36 (0, 0)))) (fun i _ => 3 - (intOf i).toNat)
  case atStart => exact ⟨0, by omega, rfl, Lib.hid (HO4.out.alloc _), Lib.hid (HB4.out.alloc HB4.out.size _), Lib.hid (heap_new _ _)⟩
  case round =>
    obtain ⟨k, hk, rfl, HO, HBr, HX⟩ := hrel
    by_cases hlt : k < 3
    · have hxc : wr.cell? ⟨w4.heap.size, k, none⟩ = some (.int .u16 (sel x y z k)) := by
        have := HX.out
        simp only [World.cell?, this]; exact sel_cell x y z k hlt
      have hsb := sel_bd x y z k hx hy hz
      have hsm := sel_mod x y z p q r _ HP.out HQ.out HR.out k
      have hslt := seln_lt p q r _ k hpl hql hrl
      have hfs := flips_succ ss p q r k hlt
      have hfl := flips_length ss p q r k
      generalize sel x y z k = sx at *
      generalize seln p q r k = sp at *
      generalize hfk : flips ss p q r k = fk at *
      obtain ⟨hc1, hf1⟩ := ow_at (n := ss.length) (by have := HO.out; unfold Ow at this; rw [hfl] at this; exact this) hfl (sp / 8) (by omega)
      obtain ⟨c1, hcc1⟩ : ∃ c1, c1 = fk.getD (sp / 8) 0 := ⟨_, rfl⟩
      have hfl2 : fk.set (sp / 8) (c1 ^^^ 1#8 <<< (sp % 8)) = flip fk sp := by rw [hcc1]; rfl
      rw [← hcc1] at hc1
      have HFL := Lib.hid hfl2; clear hfl2 hcc1
      have HFS := Lib.hid hfs; clear hfs
      have HFk := Lib.hid hfk; clear hfk
      have HFl := Lib.hid hfl; clear hfl
      go_wp2_with fail
      go_region
      have HO5 := Lib.hid (Ow.store (by have := HO.out; unfold Ow at this; rw [HFl.out] at this; exact this : wr.ownsRow w3.heap.size 5 1 (.slice (some ⟨g, 0, none⟩) ss.length cap4) ss.length (cu fk)) (sp / 8) (c1 ^^^ 1#8 <<< (sp % 8)))
      rw [HFL.out] at HO5
      go_wp2_with fail
      go_roundw
      case rel =>
        refine ⟨k + 1, by omega, by go_num, Lib.hid ?_, Lib.hid (HBr.out.drew.setCell (p := ⟨g, sp / 8, none⟩) hg _), Lib.hid ?_⟩
        · rw [HFS.out]; unfold Ow; rw [flip_length, HFl.out]; exact HO5.out
        · have e : (wr.setCell ⟨g, sp / 8, none⟩ (.int .u8 (U (c1 ^^^ 1#8 <<< (sp % 8))))).heap[w4.heap.size]? = wr.heap[w4.heap.size]? := Below.heap_setCell _ _ _ _ (by show w4.heap.size ≠ g; omega)
          exact e.trans HX.out
      case measure => simp [intOf]; omega
    · obtain rfl : k = 3 := by omega
      have hfl := flips_length ss p q r 3
      have hO := HO.out
      have HY4 := Lib.hid hO.by
      have hB7 := HB3.out.trans (HBr.out.mono HB3.out.size)
      have HB7 := Lib.hid hB7; clear hB7 hO
      have h3 : flips ss p q r 3 = flip (flip (flip ss p) q) r := rfl
      have hsealed := HTR.out.1
      have hcount := HTR.out.2
      rw [h3] at HY4 hfl
      generalize flip (flip (flip ss p) q) r = bad at *
      have HS := Lib.hid hsealed; clear hsealed h3
      have HFl := Lib.hid hfl; clear hfl
      have HY5 : Hid (By wr (.slice (some ⟨g, 0, none⟩) ss.length cap4) bad) := HY4
      rcases hcount with hcount | hcount
      all_goals
        have hc1 : ((errors ss bad).1 == 1) = decide ((errors ss bad).1 = 1) := by rw [Bool.eq_iff_iff]; simp
        go_wp2_with fail
        refine (errors_any _ _ ss bad _ (by exact (HY3.out.below HBr.out)) (by exact HY5.out) (by omega)).mono ?_
        rintro e w8 ⟨rfl, hd⟩
        rw [hcount]
        have HB8 := Lib.hid (below_dr HB7.out hd)
        have HY8 : Hid (By w8 (.slice (some ⟨g, 0, none⟩) ss.length cap4) bad) := Lib.hid (by obtain ⟨n, rfl⟩ := hd; exact HY5.out.drewN n)
        clear hd hc1
        go_wp2_with fail
        refine (check_bad _ bad (by rw [HFl.out]; omega) (by rw [HFl.out]; omega) _ (by exact HY8.out) (by exact HT.out.below HB8.out) HS.out).mono ?_
        rintro e w9 ⟨rfl, hb9⟩
        have HB9 := Lib.hid (HB8.out.trans (hb9.mono HB8.out.size))
        clear hb9
        go_wp2_with fail
        go_ret
        exact ⟨rfl, HB9.out⟩

set_option maxHeartbeats 2000000 in
theorem crcBits_big (w : World) (a : Option Addr) (n cap : Nat) (x y z : Int) (ht : Tab w) (h : (96 : Int) < n) :
    Calls Tryd.prog 10 #[.slice a n cap, .int .u16 x, .int .u16 y, .int .u16 z] w fun e w' => e = .returned (.bool true) ∧ Below w.heap.size w w' := by
  have HT := Lib.hid ht; clear ht
  go_enter Tryd.func10, Tryd.ntmps10
  go_wp2_with fail
  refine (awake_any w HT.out).mono ?_
  rintro e w1 ⟨rfl, hb1⟩
  have HB := Lib.hid hb1; clear hb1
  go_wp2_with fail
  go_ret
  exact ⟨rfl, HB.out⟩
theorem walkCrcBits (W : World) (v0 v1 v2 v3 : Value) (o0 : IsBytes W v0) (o1 : IsInt .u16 v1) (o2 : IsInt .u16 v2) (o3 : IsInt .u16 v3) (ht : Tab W) :
    Calls Tryd.prog 10 #[v0, v1, v2, v3] W fun e w' => e = .returned (.bool true) ∧ Below W.heap.size W w' := by
  obtain ⟨bs, hv⟩ := o0
  obtain ⟨x, rfl, hx⟩ := o1
  obtain ⟨y, rfl, hy⟩ := o2
  obtain ⟨z, rfl, hz⟩ := o3
  have bx := u16_bd hx
  have by_ := u16_bd hy
  have bz := u16_bd hz
  by_cases hbig : (96 : Int) < bs.length
  · obtain ⟨a, cap, rfl⟩ := hv.slice
    exact crcBits_big W a _ cap x y z ht hbig
  have hl := sealed_length bs
  obtain ⟨p, hp, hpl⟩ := rem_nat x (sealed bs).length bx.1 (by omega)
  obtain ⟨q, hq, hql⟩ := rem_nat y (sealed bs).length by_.1 (by omega)
  obtain ⟨r, hr, hrl⟩ := rem_nat z (sealed bs).length bz.1 (by omega)
  exact crcBits_main W v0 bs x y z bx by_ bz hv ht (by omega) p q r hp hq hr hpl hql hrl
end Go.Proofs.YtmpigciommmjcaaDoor
