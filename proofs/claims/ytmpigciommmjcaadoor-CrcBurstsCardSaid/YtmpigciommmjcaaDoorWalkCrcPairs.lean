/- The walk of CrcPairs. -/
import Derived.Test.YtmpigciommmjcaaDoorWalkCrcSeals
import Derived.Test.YtmpigciommmjcaaDoorCrcQ
namespace Go.Proofs.YtmpigciommmjcaaDoor
open Go.RowKit

theorem shl_u8_mod8 (yk : IntKind) (p : Nat) : Op.shift .shl .u8 1 yk ((p : Int) % 8) = pure (.int .u8 (U (1#8 <<< (p % 8)))) := by
  have hb : ((IntKind.u8.bits : Nat) : Int) = 8 := rfl
  rw [shift_shl .u8 yk 1 ((p : Int) % 8) (by omega) (by omega)]
  congr 2
  have e : ((p : Int) % 8).toNat = p % 8 := by omega
  rw [e, IntKind.wrap_u8]
  have key : ∀ k : Fin 8, ((1 : Int) * 2 ^ k.val) % 256 = U (1#8 <<< k.val) := by decide
  exact key ⟨p % 8, by omega⟩
attribute [go_sem ↓ high] shl_u8_mod8
/-- the byte that a changed bit lies in, in an owned row -/
theorem ow_at {w : World} {base g n cap : Nat} {xs : List (BitVec 8)} (h : w.ownsRow base 5 1 (.slice (some ⟨g, 0, none⟩) n cap) n (cu xs)) (hl : xs.length = n) (i : Nat) (hi : i < n) :
    w.cell? ⟨g, i, none⟩ = some (.int .u8 (U (xs.getD i 0))) ∧ w.frozen? ⟨g, i, none⟩ = false := by
  refine ⟨?_, h.frozenAt i⟩
  rw [h.cellAt i (by omega), cu, List.getElem?_map, List.getElem?_eq_getElem (by omega)]
  simp [List.getD, hl, hi]
theorem Ow.head {T : TypeId} {w : World} {base : Nat} {v : Value} {bs : List (BitVec 8)} (h : Ow T w base v bs) (hne : 0 < bs.length) : ∃ g cap, v = .slice (some ⟨g, 0, none⟩) bs.length cap ∧ base ≤ g := by
  rcases h.2 with ⟨_, h0⟩ | ⟨g, cap, cur, rfl, hb, _⟩
  · omega
  · exact ⟨g, cap, rfl, hb⟩

set_option maxHeartbeats 4000000 in
theorem crcPairs_main (w : World) (v : Value) (bs : List (BitVec 8)) (x y : Int) (hx0 : 0 ≤ x) (hx1 : x ≤ 65535) (hy0 : 0 ≤ y) (hy1 : y ≤ 65535) (hv : By w v bs) (ht : Tab w) (h96 : bs.length ≤ 96)
    (p q : Nat) (hp : x % (8 * ((sealed bs).length : Int)) = (p : Int)) (hq : y % (8 * ((sealed bs).length : Int)) = (q : Int)) (hpl : p < 8 * (sealed bs).length) (hql : q < 8 * (sealed bs).length) :
    Calls Tryd.prog 11 #[v, .int .u16 x, .int .u16 y] w fun e w' => e = .returned (.bool true) ∧ Below w.heap.size w w' := by
  have HV := Lib.hid hv
  have HT := Lib.hid ht; clear ht
  obtain ⟨a, cap, rfl⟩ := hv.slice
  have hcp := hv.parts
  clear hv
  have hsl := sealed_length bs
  have HST := Lib.hid (sealed_take bs)
  have HOK := Lib.hid (isSealed_sealed bs)
  have HTW := Lib.hid (two_bits bs p q)
  have tok1 : True := trivial
  go_enter Tryd.func11, Tryd.ntmps11
  go_wp2_with fail
  refine (awake_any w HT.out).mono ?_
  rintro e w1 ⟨rfl, hb1⟩
  have HB := Lib.hid hb1; clear hb1
  go_wp2_with fail
  refine (append_any _ bs _ (HV.out.below HB.out) (HT.out.below HB.out) (by omega)).mono ?_
  rintro e w2 ⟨v2, rfl, hO2, hb2⟩
  have HY2 := Lib.hid hO2.by
  have HB2 := Lib.hid (HB.out.trans (hb2.mono HB.out.size))
  clear hO2 hb2
  generalize hss : sealed bs = ss at *
  have HSS := Lib.hid hss; clear hss
  obtain ⟨a2, cap2, rfl⟩ := HY2.out.slice
  have hsl1 : ss.length ≤ bs.length + 4 := by omega
  have hsl2 : bs.length + 4 ≤ ss.length := by omega
  have HSL := Lib.hid hsl
  clear hsl
  go_wp2_with fail
  go_quiet (fail)
  have HB3 := Lib.hid (below_drewN HB2.out nq)
  have HY3 := Lib.hid (HY2.out.drewN nq)
  clear HB2 HY2
  generalize hw3 : w2.drewN nq = w3 at *
  have HW3 := Lib.hid hw3; clear hw3
  go_wp2_with (at_builtin; have _t := tok1; refine wpList_app slB rfl _ _ rfl w3.heap.size _ 0 [] rfl (World.ownsRow_made _ _ 0 (Nat.le_refl _) (Nat.zero_le _) rfl) _ ss.length (cu ss) rfl (By.alloc HY3.out _) cu_one (by unfold maxLen; omega) (by omega) (by simp) ?_; intro v4 w4 hown4 hg4 hiff; clear hiff; have HB4 := Lib.hid (((Below.refl w3.heap.size w3).alloc (Nat.le_refl _) _).grown hg4 (by simp) (fun k e => by cases e; exact Nat.le_refl _)); have hO4 := (show Ow _ w4 w3.heap.size v4 ss by simpa [Ow] using hown4); obtain ⟨g, cap4, rfl, hg⟩ := Ow.head hO4 (by omega); have HO4 := Lib.hid hO4; clear hown4 hg4 tok1 hO4)
  obtain ⟨hc1, hf1⟩ := ow_at HO4.out rfl (p / 8) (by omega)
  obtain ⟨c1, hcc1⟩ : ∃ c1, c1 = ss.getD (p / 8) 0 := ⟨_, rfl⟩
  have hfl : ss.set (p / 8) (c1 ^^^ 1#8 <<< (p % 8)) = flip ss p := by rw [hcc1]; rfl
  rw [← hcc1] at hc1
  have HFL := Lib.hid hfl; clear hfl hcc1
  go_region
  have HO5 := Lib.hid (Ow.store HO4.out (p / 8) (c1 ^^^ 1#8 <<< (p % 8)))
  have HB5 := Lib.hid (HB4.out.setCell (p := ⟨g, p / 8, none⟩) hg (.int .u8 (U (c1 ^^^ 1#8 <<< (p % 8)))))
  rw [HFL.out] at HO5
  generalize hw5 : w4.setCell ⟨g, p / 8, none⟩ (.int .u8 (U (c1 ^^^ 1#8 <<< (p % 8)))) = w5 at *
  have HW5 := Lib.hid hw5; clear hw5 hc1 hf1 HO4 HB4
  have HLN := Lib.hid (flip_length ss p)
  obtain ⟨hc2, hf2⟩ := ow_at HO5.out HLN.out (q / 8) (by omega)
  obtain ⟨c2, hcc2⟩ : ∃ c2, c2 = (flip ss p).getD (q / 8) 0 := ⟨_, rfl⟩
  have hfl : (flip ss p).set (q / 8) (c2 ^^^ 1#8 <<< (q % 8)) = flip (flip ss p) q := by rw [hcc2]; rfl
  rw [← hcc2] at hc2
  have HFL2 := Lib.hid hfl; clear hfl hcc2
  go_wp2_with fail
  go_region
  have HO6 := Lib.hid (Ow.store HO5.out (q / 8) (c2 ^^^ 1#8 <<< (q % 8)))
  have HB6 := Lib.hid (HB5.out.setCell (p := ⟨g, q / 8, none⟩) hg (.int .u8 (U (c2 ^^^ 1#8 <<< (q % 8)))))
  rw [HFL2.out] at HO6
  generalize hw6 : w5.setCell ⟨g, q / 8, none⟩ (.int .u8 (U (c2 ^^^ 1#8 <<< (q % 8)))) = w6 at *
  have HW6 := Lib.hid hw6; clear hw6 hc2 hf2 HO5 HB5
  have HLN2 := Lib.hid ((flip_length (flip ss p) q).trans HLN.out)
  have HY6 : Hid (By w6 (.slice (some ⟨g, 0, none⟩) ss.length cap4) (flip (flip ss p) q)) := Lib.hid (by have h := Rd.of_own HO6.out; unfold By; rw [HLN2.out]; exact h)
  have HB7 := Lib.hid (HB3.out.trans (HB6.out.mono HB3.out.size))
  clear HB6 HO6
  by_cases hpq : p = q
  · have hpq1 : ((p : Int) == (q : Int)) = true := by simp [hpq]
    have hff : flip (flip ss p) q = ss := by rw [hpq, flip_flip]
    rw [hff] at HY6
    have Hpq := Lib.hid hpq; clear hpq hff
    go_wp2_with fail
    refine (check_ok _ ss (by omega) (by omega) _ (by exact Rd.keep HY6.out fun _ _ _ => rfl) (by exact HT.out.below (HB7.out.drew.drew)) HOK.out).mono ?_
    rintro e w8 ⟨v8, rfl, hY8, hb8⟩
    rw [HST.out] at hY8
    have HB8 := Lib.hid ((HB7.out.drew.drew).trans (hb8.mono HB7.out.size))
    have hk8 := conv8 hY8
    have hk9 := conv8 (HV.out.below HB8.out)
    obtain ⟨a8, cap8, rfl⟩ := hY8.slice
    clear hb8 hY8
    go_wp2_with fail
    go_ret
    exact ⟨rfl, HB8.out⟩
  · have hpq1 : ((p : Int) == (q : Int)) = false := by simp; omega
    have Hpq := Lib.hid hpq; clear hpq
    go_wp2_with fail
    refine (check_bad _ (flip (flip ss p) q) (by rw [HLN2.out]; omega) (by rw [HLN2.out]; omega) _ (by exact Rd.keep HY6.out fun _ _ _ => rfl) (by exact HT.out.below (HB7.out.drew.drew)) (HTW.out (by omega) hpl hql Hpq.out)).mono ?_
    rintro e w8 ⟨rfl, hb8⟩
    have HB8 := Lib.hid ((HB7.out.drew.drew).trans (hb8.mono HB7.out.size))
    clear hb8
    go_wp2_with fail
    go_ret
    exact ⟨rfl, HB8.out⟩

set_option maxHeartbeats 2000000 in
theorem crcPairs_big (w : World) (a : Option Addr) (n cap : Nat) (x y : Int) (ht : Tab w) (h : (96 : Int) < n) :
    Calls Tryd.prog 11 #[.slice a n cap, .int .u16 x, .int .u16 y] w fun e w' => e = .returned (.bool true) ∧ Below w.heap.size w w' := by
  have HT := Lib.hid ht; clear ht
  go_enter Tryd.func11, Tryd.ntmps11
  go_wp2_with fail
  refine (awake_any w HT.out).mono ?_
  rintro e w1 ⟨rfl, hb1⟩
  have HB := Lib.hid hb1; clear hb1
  go_wp2_with fail
  go_ret
  exact ⟨rfl, HB.out⟩
theorem u16_bd {x : Int} (h : (Lit.int .u16 x).wf = true) : 0 ≤ x ∧ x ≤ 65535 := by
  have := bounds_u16 h; omega
theorem rem_nat (x : Int) (L : Nat) (h : 0 ≤ x) (hL : 0 < L) : ∃ p : Nat, x % (8 * (L : Int)) = (p : Int) ∧ p < 8 * L := by
  obtain ⟨n, rfl⟩ := Int.eq_ofNat_of_zero_le h
  exact ⟨n % (8 * L), rfl, Nat.mod_lt _ (by omega)⟩
theorem walkCrcPairs (W : World) (v0 v1 v2 : Value) (o0 : IsBytes W v0) (o1 : IsInt .u16 v1) (o2 : IsInt .u16 v2) (ht : Tab W) :
    Calls Tryd.prog 11 #[v0, v1, v2] W fun e w' => e = .returned (.bool true) ∧ Below W.heap.size W w' := by
  obtain ⟨bs, hv⟩ := o0
  obtain ⟨x, rfl, hx⟩ := o1
  obtain ⟨y, rfl, hy⟩ := o2
  have bx := u16_bd hx
  have by_ := u16_bd hy
  by_cases hbig : (96 : Int) < bs.length
  · obtain ⟨a, cap, rfl⟩ := hv.slice
    exact crcPairs_big W a _ cap x y ht hbig
  have hl := sealed_length bs
  obtain ⟨p, hp, hpl⟩ := rem_nat x (sealed bs).length bx.1 (by omega)
  obtain ⟨q, hq, hql⟩ := rem_nat y (sealed bs).length by_.1 (by omega)
  exact crcPairs_main W v0 bs x y bx.1 bx.2 by_.1 by_.2 hv ht (by omega) p q hp hq hpl hql
end Go.Proofs.YtmpigciommmjcaaDoor
