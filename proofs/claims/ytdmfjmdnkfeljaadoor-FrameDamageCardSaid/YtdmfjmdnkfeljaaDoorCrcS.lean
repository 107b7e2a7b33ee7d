/- The contract of crc.Errors. -/
import Derived.Test.YtdmfjmdnkfeljaaDoorCrcB
import Derived.Test.YtdmfjmdnkfeljaaDoorCrcE
import Derived.Test.YtdmfjmdnkfeljaaDoorCrcH
import Derived.Test.YtdmfjmdnkfeljaaDoorShelf
import Derived.Deep.QuietTactic
import Derived.BigQuiet
namespace Go.Proofs.YtdmfjmdnkfeljaaDoor
open Go.RowKit

theorem shr_u8_nat (yk : IntKind) (x : BitVec 8) (k : Nat) : Op.shift .shr .u8 (U x) yk (k : Int) = pure (.int .u8 (U (x >>> k))) := by
  unfold Op.shift
  rw [if_neg (by omega)]
  have e : IntKind.u8.bits = 8 := rfl
  have hx := x.isLt
  simp only [e, Int.toNat_natCast]
  congr 2
  unfold U
  rw [BitVec.toNat_ushiftRight, Nat.shiftRight_eq_div_pow]
  have h2 : (2 : Int) ^ min k 8 = ((2 ^ min k 8 : Nat) : Int) := by simp
  rw [h2, Int.fdiv_eq_ediv_of_nonneg _ (Int.natCast_nonneg _)]
  by_cases h : k ≤ 8
  · rw [Nat.min_eq_left h]; rfl
  · have h3 : min k 8 = 8 := by omega
    have h4 : 2 ^ 8 ≤ 2 ^ k := Nat.pow_le_pow_right (by decide) (by omega)
    have a1 : x.toNat / 2 ^ k = 0 := Nat.div_eq_of_lt (Nat.lt_of_lt_of_le hx h4)
    have a2 : x.toNat / 2 ^ 8 = 0 := Nat.div_eq_of_lt hx
    rw [h3, a1]
    have : ((x.toNat : Int) / ((2 ^ 8 : Nat) : Int)) = ((x.toNat / 2 ^ 8 : Nat) : Int) := rfl
    rw [this, a2]
attribute [go_sem ↓ high] shr_u8_nat
@[go_sem] theorem and1_u8_bv (x : BitVec 8) : bits .and .u8 (U x) 1 = U (x &&& 1#8) := (bits_u8 x 1#8).2.1
@[go_sem] theorem U_eq_zero8 (x : BitVec 8) : (U x == 0) = (x == 0#8) := U_eq_dec x 0#8
theorem bit8 (x y : BitVec 8) (k : Nat) : (((x >>> k) &&& 1#8) == ((y >>> k) &&& 1#8)) = !(x ^^^ y).getLsbD k := by
  have h : ∀ z : BitVec 8, z &&& 1#8 = if z.getLsbD 0 then 1#8 else 0#8 := by
    intro z
    apply BitVec.eq_of_toNat_eq
    rw [BitVec.toNat_and]
    have e : z.toNat &&& (1#8).toNat = z.toNat % 2 := Nat.and_two_pow_sub_one_eq_mod _ 1
    rw [e, BitVec.getLsbD, Nat.testBit_zero]
    by_cases h : z.toNat % 2 = 1 <;> simp [h]
    omega
  rw [h, h, BitVec.getLsbD_xor, BitVec.getLsbD_ushiftRight, BitVec.getLsbD_ushiftRight, Nat.add_zero]
  cases x.getLsbD k <;> cases y.getLsbD k <;> rfl

theorem tz_any (d : BitVec 8) (w : World) : Calls Tryd.prog 48 #[.int .u8 (U d)] w fun e w' => e = .returned (.int .i64 (trail d)) ∧ w' = w :=
  (Tryd.bits_TrailingZeros8 (U d) w (U_nonneg d) (by have := U_lt8 d; omega)).mono fun e w' ⟨h, h'⟩ => ⟨by rw [h, U_toNat]; rfl, h'⟩
theorem len8_any (d : BitVec 8) (w : World) : Calls Tryd.prog 49 #[.int .u8 (U d)] w fun e w' => e = .returned (.int .i64 (blen d)) ∧ w' = w :=
  (Tryd.bits_Len8 (U d) w (U_nonneg d) (by have := U_lt8 d; omega)).mono fun e w' ⟨h, h'⟩ => ⟨by rw [h, U_toNat]; rfl, h'⟩
theorem ones_any (d : BitVec 8) (w : World) : Calls Tryd.prog 50 #[.int .u8 (U d)] w fun e w' => e = .returned (.int .i64 (ones d)) ∧ w' = w :=
  (Tryd.bits_OnesCount8 (U d) w (U_nonneg d) (by have := U_lt8 d; omega)).mono fun e w' ⟨h, h'⟩ => ⟨by rw [h, U_toNat]; rfl, h'⟩

set_option maxHeartbeats 1000000 in
theorem errors_ne (xs ys : List (BitVec 8)) (he : xs.length = ys.length) (hne : 0 < xs.length) (hm : xs.length ≤ 1152921504606846975) (b off cap b2 off2 cap2 : Nat) (w : World)
   (hc : ∀ k, k < xs.length → w.cell? ⟨b, off + k, none⟩ = some (.int .u8 (U (xs.getD k 0))))
   (hc2 : ∀ k, k < xs.length → w.cell? ⟨b2, off2 + k, none⟩ = some (.int .u8 (U (ys.getD k 0)))) :
    Calls Tryd.prog 26 #[.slice (some ⟨b, off, none⟩) xs.length cap, .slice (some ⟨b2, off2, none⟩) ys.length cap2] w fun e w' => e = .returned (.tuple #[.int .i64 (errors xs ys).1, .int .i64 (errors xs ys).2]) ∧ Dr w w' := by
  rw [← he]
  have her : errors xs ys = ((errs xs ys xs.length).1, (errs xs ys xs.length).2.2 - (errs xs ys xs.length).2.1 + 1) := by unfold errors; rw [if_pos he]
  rw [her]
  have HE := Lib.hid he; clear he her
  go_enter Tryd.func26, Tryd.ntmps26
  go_wp2
  go_loopw [6, 7, 8, 18] (fun c l g i wr => ∃ k : Nat, k ≤ xs.length ∧ i = .int .i64 k ∧ c = .int .i64 (errs xs ys k).1 ∧ l = .int .i64 (errs xs ys k).2.1 ∧ g = .int .i64 (errs xs ys k).2.2 ∧ ∃ n, wr = w.drewN n) (fun _ _ _ i _ => xs.length - (intOf i).toNat)
  case atStart => exact ⟨0, Nat.zero_le _, rfl, rfl, rfl, rfl, 0, rfl⟩
  case round =>
    obtain ⟨k, hk, rfl, rfl, rfl, rfl, n, rfl⟩ := hrel
    have hbd := errs_bd xs ys k
    by_cases hlt : k < xs.length
    · have hck := hc k hlt
      have hck2 := hc2 k hlt
      have hR : errs xs ys (k + 1) = errStep (errs xs ys k) k (xs.getD k 0 ^^^ ys.getD k 0) := rfl
      have HR := Lib.hid hR; clear hR hc hc2
      generalize hx : xs.getD k 0 = x at *
      generalize hy : ys.getD k 0 = y at *
      generalize hs : errs xs ys k = s at *
      obtain ⟨c, l, g⟩ := s
      have Hs := Lib.hid hs; clear hs
      have Hx := Lib.hid hx; clear hx
      have Hy := Lib.hid hy; clear hy
      dsimp only at hbd
      generalize hdd : x ^^^ y = d at *
      have Hd := Lib.hid hdd; clear hdd
      by_cases hd : d = 0
      · have hd1 : (d == 0#8) = true := by simpa using hd
        have hS : errStep (c, l, g) k d = (c, l, g) := by unfold errStep; rw [if_pos hd]
        have HS := Lib.hid hS; clear hS
        have Hd0 := Lib.hid hd; clear hd
        go_wp2_with fail
        go_quiet (fail)
        rw [Hd.out]
        go_wp2_with fail
        go_roundw
        case rel => exact ⟨k + 1, by omega, by go_num, by rw [HR.out, HS.out], by rw [HR.out, HS.out], by rw [HR.out, HS.out], _, rfl⟩
        case measure => simp [intOf]; omega
      · have hd1 : (d == 0#8) = false := by simpa using hd
        have hb1 := ones_bd d
        have hb2 := blen_bd d
        have hb3 := trail_bd d
        have hS : errStep (c, l, g) k d = (c + ones d, if c = 0 then 8 * (k : Int) + trail d else l, 8 * (k : Int) + blen d - 1) := by unfold errStep; rw [if_neg hd]
        by_cases hc0 : c = 0
        · have hc1 : (c == 0) = true := by simpa using hc0
          rw [if_pos hc0] at hS
          have HS := Lib.hid hS; clear hS
          have Hd0 := Lib.hid hd; clear hd
          have Hc0 := Lib.hid hc0; clear hc0
          go_wp2_with fail
          go_quiet (fail)
          rw [Hd.out]
          go_wp2_with fail
          refine (tz_any d _).mono ?_
          rintro e w' ⟨rfl, rfl⟩
          go_wp2_with fail
          refine (len8_any d _).mono ?_
          rintro e w' ⟨rfl, rfl⟩
          go_wp2_with fail
          refine (ones_any d _).mono ?_
          rintro e w' ⟨rfl, rfl⟩
          go_wp2_with fail
          go_roundw
          case rel => exact ⟨k + 1, by omega, by go_num, by rw [HR.out, HS.out], by rw [HR.out, HS.out], by rw [HR.out, HS.out], _, rfl⟩
          case measure => simp [intOf]; omega
        · have hc1 : (c == 0) = false := by simpa using hc0
          rw [if_neg hc0] at hS
          have HS := Lib.hid hS; clear hS
          have Hd0 := Lib.hid hd; clear hd
          have Hc0 := Lib.hid hc0; clear hc0
          go_wp2_with fail
          go_quiet (fail)
          rw [Hd.out]
          go_wp2_with fail
          refine (len8_any d _).mono ?_
          rintro e w' ⟨rfl, rfl⟩
          go_wp2_with fail
          refine (ones_any d _).mono ?_
          rintro e w' ⟨rfl, rfl⟩
          go_wp2_with fail
          go_roundw
          case rel => exact ⟨k + 1, by omega, by go_num, by rw [HR.out, HS.out], by rw [HR.out, HS.out], by rw [HR.out, HS.out], _, rfl⟩
          case measure => simp [intOf]; omega
    · obtain rfl : k = xs.length := by omega
      go_wp2
      go_ret2
      exact ⟨rfl, _, rfl⟩

set_option maxHeartbeats 400000 in
theorem errors_nil (a a2 : Option Addr) (cap cap2 : Nat) (w : World) :
    Calls Tryd.prog 26 #[.slice a 0 cap, .slice a2 0 cap2] w fun e w' => e = .returned (.tuple #[.int .i64 (errors [] []).1, .int .i64 (errors [] []).2]) ∧ Dr w w' := by
  go_enter Tryd.func26, Tryd.ntmps26
  go_wp2
  refine wp_loop_rounds 1 ?_; rw [rounds_succ]
  go_wp2
  go_ret2
  exact ⟨rfl, Dr.refl _⟩
set_option maxHeartbeats 400000 in
theorem errors_off (n m : Nat) (h : n ≠ m) (a a2 : Option Addr) (cap cap2 : Nat) (w : World) :
    Calls Tryd.prog 26 #[.slice a n cap, .slice a2 m cap2] w fun e w' => e = .returned (.tuple #[.int .i64 (-1), .int .i64 (-1)]) ∧ Dr w w' := by
  have h1 : ((n : Int) != (m : Int)) = true := by simp; omega
  go_enter Tryd.func26, Tryd.ntmps26
  go_wp2
  go_ret2
  exact ⟨rfl, Dr.refl _⟩

theorem errors_any (v u : Value) (xs ys : List (BitVec 8)) (w : World) (hv : By w v xs) (hu : By w u ys) (hm : xs.length ≤ 1152921504606846975) :
    Calls Tryd.prog 26 #[v, u] w fun e w' => e = .returned (.tuple #[.int .i64 (errors xs ys).1, .int .i64 (errors xs ys).2]) ∧ Dr w w' := by
  by_cases he : xs.length = ys.length
  · obtain ⟨_, ⟨rfl, a, cap, rfl, _⟩ | ⟨b, off, cap, rfl, h0, _, _, hc⟩⟩ := hv.cases
    · have : ys = [] := List.eq_nil_of_length_eq_zero he.symm
      subst this
      obtain ⟨a2, cap2, rfl⟩ := hu.slice
      exact errors_nil a a2 cap cap2 w
    · obtain ⟨_, ⟨rfl, a2, cap2, rfl, _⟩ | ⟨b2, off2, cap2, rfl, _, _, _, hc2⟩⟩ := hu.cases
      · simp at he; subst he; simp at h0
      · exact errors_ne xs ys he h0 hm b off cap b2 off2 cap2 w hc (fun k hk => hc2 k (by omega))
  · obtain ⟨a, cap, rfl⟩ := hv.slice
    obtain ⟨a2, cap2, rfl⟩ := hu.slice
    have e : errors xs ys = (-1, -1) := by unfold errors; rw [if_neg he]
    rw [e]
    exact errors_off _ _ he a a2 cap cap2 w
end Go.Proofs.YtdmfjmdnkfeljaaDoor
