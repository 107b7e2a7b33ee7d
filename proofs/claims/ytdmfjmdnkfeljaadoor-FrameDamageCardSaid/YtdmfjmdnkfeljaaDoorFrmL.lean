/- The contract of the line code's reference: its list of symbols. -/
import Derived.Test.YtdmfjmdnkfeljaaDoorFrmK
namespace Go.Proofs.YtdmfjmdnkfeljaaDoor
open Go.RowKit

/-- the bits of a number that are set, of the first k -/
def cntN (m : Nat) : Nat → Nat
  | 0 => 0
  | k + 1 => cntN m k + m / 2 ^ k % 2
/-- the numbers below n with three of six bits -/
def flt : Nat → List Byte
  | 0 => []
  | n + 1 => if cntN n 6 = 3 then flt n ++ [BitVec.ofNat 8 n] else flt n
theorem flt_64 : flt 64 = vs := by decide +kernel
theorem flt_le : ∀ n, (flt n).length ≤ n
  | 0 => Nat.le_refl _
  | n + 1 => by
    have := flt_le n
    unfold flt; split
    · rw [List.length_append]; simp; omega
    · omega
theorem cntN_le (m : Nat) : ∀ k, cntN m k ≤ k
  | 0 => Nat.le_refl _
  | k + 1 => by have := cntN_le m k; show cntN m k + m / 2 ^ k % 2 ≤ _; omega
set_option maxRecDepth 100000 in
set_option maxHeartbeats 8000000 in
theorem refSyms_any (w : World) :
    Calls Tryd.prog 59 #[] w fun e w' => ∃ a c, e = .returned (.slice a 20 c) ∧ Nb w' w.heap.size (.slice a 20 c) vs ∧ Below w.heap.size w w' := by
  go_enter Tryd.func59, Tryd.ntmps59
  go_wp2_with fail
  go_loopw [1, 2] (fun u1 i wr => ∃ n : Nat, n ≤ 64 ∧ i = .int .i64 (n : Int) ∧ Hid (Nb wr w.heap.size u1 (flt n)) ∧ Hid (Below w.heap.size w wr)) (fun _ i _ => 64 - (intOf i).toNat)
  case atStart => exact ⟨0, by omega, by go_num, Lib.hid (Nb.nil _ _), Lib.hid (Below.refl _ _)⟩
  case round =>
    obtain ⟨n, hn, rfl, HO, HBW⟩ := hrel
    by_cases hlt : n < 64
    · obtain ⟨wo, rfl⟩ : ∃ wo : World, wo = wr := ⟨wr, rfl⟩
      have hwr := HBW.out.size
      have hfl := flt_le n
      go_wp2_with fail
      go_loop [3, 4] (fun s k => ∃ j : Nat, j ≤ 6 ∧ k = .int .i64 (j : Int) ∧ s = .int .i64 (cntN n j : Nat)) (fun _ k => 6 - (intOf k).toNat)
      case atStart => exact ⟨0, by omega, by go_num, rfl⟩
      case round =>
        obtain ⟨j, hj, rfl, rfl⟩ := hrel
        have hcl := cntN_le n j
        by_cases hlt6 : j < 6
        · have HE := Lib.hid (show cntN n (j + 1) = cntN n j + n / 2 ^ j % 2 from rfl)
          obtain ⟨m, hm⟩ : ∃ m, m = cntN n j := ⟨_, rfl⟩
          rw [← hm] at HE hcl ⊢
          clear hm
          have hk5 : j = 0 ∨ j = 1 ∨ j = 2 ∨ j = 3 ∨ j = 4 ∨ j = 5 := by omega
          rcases hk5 with rfl | rfl | rfl | rfl | rfl | rfl
          · go_wp2_with fail
            go_round
            case rel => exact ⟨0 + 1, by omega, by go_num, by rw [HE.out]; exact congrArg (Value.int .i64) (by omega)⟩
            case measure => first | (simp [intOf]; done) | (simp [intOf]; omega)
          · go_wp2_with fail
            go_round
            case rel => exact ⟨1 + 1, by omega, by go_num, by rw [HE.out]; exact congrArg (Value.int .i64) (by omega)⟩
            case measure => first | (simp [intOf]; done) | (simp [intOf]; omega)
          · go_wp2_with fail
            go_round
            case rel => exact ⟨2 + 1, by omega, by go_num, by rw [HE.out]; exact congrArg (Value.int .i64) (by omega)⟩
            case measure => first | (simp [intOf]; done) | (simp [intOf]; omega)
          · go_wp2_with fail
            go_round
            case rel => exact ⟨3 + 1, by omega, by go_num, by rw [HE.out]; exact congrArg (Value.int .i64) (by omega)⟩
            case measure => first | (simp [intOf]; done) | (simp [intOf]; omega)
          · go_wp2_with fail
            go_round
            case rel => exact ⟨4 + 1, by omega, by go_num, by rw [HE.out]; exact congrArg (Value.int .i64) (by omega)⟩
            case measure => first | (simp [intOf]; done) | (simp [intOf]; omega)
          · go_wp2_with fail
            go_round
            case rel => exact ⟨5 + 1, by omega, by go_num, by rw [HE.out]; exact congrArg (Value.int .i64) (by omega)⟩
            case measure => first | (simp [intOf]; done) | (simp [intOf]; omega)
        · obtain rfl : j = 6 := by omega
          have hxl : (flt n).length ≤ 64 := by omega
          obtain ⟨ua, uc, rfl⟩ := HO.out.slice
          by_cases h3 : cntN n 6 = 3
          · have HE := Lib.hid (show flt (n + 1) = flt n ++ [BitVec.ofNat 8 n] by show (if cntN n 6 = 3 then _ else _) = _; rw [if_pos h3])
            have ht : ((cntN n 6 : Int) == 3) = true := by simp; omega
            have HL := Lib.hid (show [Value.int .u8 (n : Int)] = cu [BitVec.ofNat 8 n] by show _ = [Value.int .u8 (U (BitVec.ofNat 8 n))]; rw [U_len (by omega)])
            clear h3
            generalize flt n = xs at *
            go_wp2_with (at_builtin; refine wpList_nb rfl _ _ rfl w.heap.size _ xs rfl (by exact HO.out.below (by (repeat (first | (with_reducible exact Below.refl _ _) | (with_reducible refine Bw.alloc ?_ _) | (with_reducible refine Bw.drewN ?_ _) | (with_reducible refine Bw.drew ?_))))) _ [BitVec.ofNat 8 n] rfl (By_lit _ _ _ _ [BitVec.ofNat 8 n] 1 1 rfl HL.out rfl (Nat.le_refl _) (by decide)) (by show xs.length + 1 ≤ _; omega) (by simp; omega) ?_; intro a' c' w2 hn2 hb2; have HN2 := Lib.hid hn2; have HB2 := Lib.hid (HBW.out.trans (Below.trans ((show Below wo.heap.size wo _ by (repeat (first | (with_reducible exact Below.refl _ _) | (with_reducible refine Bw.alloc ?_ _) | (with_reducible refine Bw.drewN ?_ _) | (with_reducible refine Bw.drew ?_)))).mono hwr) hb2)); clear hn2 hb2)
            go_roundw
            case rel => exact ⟨n + 1, by omega, by go_num, Lib.hid (by rw [HE.out]; exact HN2.out), HB2⟩
            case measure => simp [intOf]; omega
          · have HE := Lib.hid (show flt (n + 1) = flt n by show (if cntN n 6 = 3 then _ else _) = _; rw [if_neg h3])
            have ht : ((cntN n 6 : Int) == 3) = false := by simp; omega
            clear h3
            go_wp2_with fail
            go_roundw
            case rel => exact ⟨n + 1, by omega, by go_num, Lib.hid (by rw [HE.out]; exact HO.out), HBW⟩
            case measure => simp [intOf]; omega
    · obtain rfl : n = 64 := by omega
      have HF := Lib.hid (show Nb wr w.heap.size _ vs by have := HO.out; rw [flt_64] at this; exact this)
      obtain ⟨a, c, rfl⟩ := HF.out.slice
      go_wp2_with fail
      go_ret
      exact ⟨a, c, rfl, HF.out, HBW.out⟩
end Go.Proofs.YtdmfjmdnkfeljaaDoor
