/- The contracts of the reference's Register and Sum. -/
import Derived.Test.YtdmfjmdnkfeljaaDoorCrcA
namespace Go.Proofs.YtdmfjmdnkfeljaaDoor
open Go.RowKit

theorem shr_u32_nat (yk : IntKind) (x : BitVec 32) (k : Nat) : Op.shift .shr .u32 (U x) yk (k : Int) = pure (.int .u32 (U (x >>> k))) := by
  unfold Op.shift
  rw [if_neg (by omega)]
  have e : IntKind.u32.bits = 32 := rfl
  have hx := x.isLt
  simp only [e, Int.toNat_natCast]
  congr 2
  unfold U
  rw [BitVec.toNat_ushiftRight, Nat.shiftRight_eq_div_pow]
  have h2 : (2 : Int) ^ min k 32 = ((2 ^ min k 32 : Nat) : Int) := by simp
  rw [h2, Int.fdiv_eq_ediv_of_nonneg _ (Int.natCast_nonneg _)]
  by_cases h : k ≤ 32
  · rw [Nat.min_eq_left h]; rfl
  · have h3 : min k 32 = 32 := by omega
    have h4 : 2 ^ 32 ≤ 2 ^ k := Nat.pow_le_pow_right (by decide) (by omega)
    have a1 : x.toNat / 2 ^ k = 0 := Nat.div_eq_of_lt (Nat.lt_of_lt_of_le hx h4)
    have a2 : x.toNat / 2 ^ 32 = 0 := Nat.div_eq_of_lt hx
    rw [h3, a1]
    have : ((x.toNat : Int) / ((2 ^ 32 : Nat) : Int)) = ((x.toNat / 2 ^ 32 : Nat) : Int) := rfl
    rw [this, a2]
attribute [go_sem ↓ high] shr_u32_nat

set_option maxHeartbeats 400000 in
theorem register_ne (r0 : BitVec 32) (b off cap : Nat) (xs : List (BitVec 8)) (w : World) (hm : xs.length ≤ maxLen)
   (hc : ∀ k, k < xs.length → w.cell? ⟨b, off + k, none⟩ = some (.int .u8 (U (xs.getD k 0)))) :
    Calls Tryd.prog 58 #[.int .u32 (U r0), .slice (some ⟨b, off, none⟩) xs.length cap] w fun e w' => e = .returned (.int .u32 (U (reg r0 xs))) ∧ w = w' := by
  unfold maxLen at hm
  go_enter Tryd.func58, Tryd.ntmps58
  go_wp2
  go_loop [0, 5] (fun r i => ∃ k : Nat, k ≤ xs.length ∧ i = .int .i64 k ∧ r = .int .u32 (U (reg r0 (xs.take k)))) (fun _ i => xs.length - (intOf i).toNat)
  case atStart => exact ⟨0, Nat.zero_le _, rfl, rfl⟩
  case round =>
    obtain ⟨k, hk, rfl, rfl⟩ := hrel
    by_cases hlt : k < xs.length
    · have hck := hc k (by omega)
      have hR := reg_snoc r0 xs k hlt
      have HR := Lib.hid hR; clear hR hc
      generalize hR : reg r0 (xs.take k) = R at *
      generalize hx : xs.getD k 0 = x at *
      have HR2 := Lib.hid hR; clear hR
      have HR3 := Lib.hid hx; clear hx
      go_wp2
      go_loop [0, 6] (fun r i => ∃ j : Nat, j ≤ 8 ∧ i = .int .i64 j ∧ r = .int .u32 (U (refBits x R j))) (fun _ i => 8 - (intOf i).toNat)
      case atStart => exact ⟨0, Nat.zero_le _, rfl, rfl⟩
      case round =>
        obtain ⟨j, hj, rfl, rfl⟩ := hrel
        by_cases hlt8 : j < 8
        · have hS := refBits_succ x R j
          generalize hq : refBits x R j = q at *
          have Hq := Lib.hid hq; clear hq
          have HS := Lib.hid hS; clear hS
          by_cases hb : ((q &&& 1#32) != ((x.setWidth 32 >>> j) &&& 1#32)) = true
          · have hS' : refBit x q j = (q >>> 1) ^^^ 3988292384#32 := by unfold refBit; rw [if_pos hb]
            have HS' := Lib.hid hS'; clear hS'
            go_wp2
            go_round
            case rel => exact ⟨j + 1, by omega, by go_num, by rw [HS.out, HS'.out]⟩
            case measure => simp [intOf]; omega
          · have hb' : ((q &&& 1#32) != ((x.setWidth 32 >>> j) &&& 1#32)) = false := by simpa using hb
            have hS' : refBit x q j = (q >>> 1) := by unfold refBit; rw [if_neg hb]
            have HS' := Lib.hid hS'; clear hS' hb
            go_wp2
            go_round
            case rel => exact ⟨j + 1, by omega, by go_num, by rw [HS.out, HS'.out]⟩
            case measure => simp [intOf]; omega
        · obtain rfl : j = 8 := by omega
          have he := refByte_eq x R
          have HE := Lib.hid he; clear he
          go_wp2
          go_round
          case rel => exact ⟨k + 1, by omega, by go_num, by rw [HE.out, HR.out]⟩
          case measure => simp [intOf]; omega
    · have hk' : k = xs.length := by omega
      subst hk'
      go_wp2
      go_ret
      exact ⟨rfl, rfl⟩

set_option maxHeartbeats 400000 in
theorem register_nil (r0 : BitVec 32) (a : Option Addr) (cap : Nat) (w : World) :
    Calls Tryd.prog 58 #[.int .u32 (U r0), .slice a 0 cap] w fun e w' => e = .returned (.int .u32 (U (reg r0 []))) ∧ w = w' := by
  go_enter Tryd.func58, Tryd.ntmps58
  go_wp2
  refine wp_loop_rounds 1 ?_; rw [rounds_succ]
  go_wp2
  go_ret
  exact ⟨rfl, rfl⟩

theorem register_any (r0 : BitVec 32) (v : Value) (bs : List (BitVec 8)) (w : World) (hv : By w v bs) :
    Calls Tryd.prog 58 #[.int .u32 (U r0), v] w fun e w' => e = .returned (.int .u32 (U (reg r0 bs))) ∧ w = w' := by
  obtain ⟨hm, ⟨rfl, a, cap, rfl, _⟩ | ⟨b, off, cap, rfl, _, _, _, hc⟩⟩ := hv.cases
  · exact register_nil r0 a cap w
  · exact register_ne r0 b off cap bs w hm hc

theorem allOnes_U : (4294967295 : Int) = U (~~~(0 : BitVec 32)) := by decide
set_option maxHeartbeats 400000 in
theorem refsum_any (v : Value) (bs : List (BitVec 8)) (w : World) (hv : By w v bs) :
    Calls Tryd.prog 42 #[v] w fun e w' => e = .returned (.int .u32 (U (csum bs))) ∧ w = w' := by
  have H := Lib.hid (register_any (~~~0) v bs w hv)
  clear hv
  go_enter Tryd.func42, Tryd.ntmps42
  go_wp2_with fail
  rw [allOnes_U]
  refine H.out.mono ?_
  rintro e w' ⟨rfl, rfl⟩
  go_wp2
  go_ret
  exact ⟨rfl, rfl⟩
end Go.Proofs.YtdmfjmdnkfeljaaDoor
