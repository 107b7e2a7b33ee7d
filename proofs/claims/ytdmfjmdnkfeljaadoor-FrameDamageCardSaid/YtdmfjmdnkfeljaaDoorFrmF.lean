/- The contracts of number, of the frame and of its reference: the number in five bytes. -/
import Derived.Test.YtdmfjmdnkfeljaaDoorFrmE
namespace Go.Proofs.YtdmfjmdnkfeljaaDoor
open Go.RowKit

theorem or_256 (n x : Nat) (hn : n < 4294967296) (hx : x < 256) : bits .or .i64 ((n : Int) * 256) (x : Int) = ((256 * n + x : Nat) : Int) := by
  have h : bits .or .i64 ((n * 256 : Nat) : Int) (x : Int) = ((n * 256 + x : Nat) : Int) := or_shift 8 n x (by omega) (by omega)
  have e2 : n * 256 + x = 256 * n + x := by omega
  rw [e2] at h
  exact h
theorem num_small (l : List Byte) {k : Nat} (hk : k ≤ 4) : num l k < 4294967296 := by
  have h := num_lt l k
  have : 256 ^ k ≤ 256 ^ 4 := Nat.pow_le_pow_right (by decide) hk
  omega
set_option maxRecDepth 100000 in
set_option maxHeartbeats 4000000 in
theorem number_any (v : Value) (bs : List Byte) (at' : Nat) (w : World) (hv : By w v bs) (hl : at' + 5 ≤ bs.length) (hm : bs.length ≤ 1000000) :
    Calls Tryd.prog 45 #[v, .int .i64 (at' : Int)] w fun e w' => e = .returned (.int .i64 (num (bs.drop at') 5 : Nat)) ∧ w = w' := by
  obtain ⟨_, ⟨rfl, a, cap, rfl, _⟩ | ⟨b, off, cap, rfl, h0, hcap, hcm, hc⟩⟩ := hv.cases
  · simp at hl
  clear hv
  have HC := Lib.hid hc
  clear hc
  go_enter Tryd.func45, Tryd.ntmps45
  go_wp2_with fail
  go_loop [5, 7] (fun n i => ∃ k : Nat, k ≤ 5 ∧ i = .int .i64 (k : Int) ∧ n = .int .i64 (num (bs.drop at') k : Nat)) (fun _ i => 5 - (intOf i).toNat)
  case atStart => exact ⟨0, by omega, by go_num, rfl⟩
  case round =>
    obtain ⟨k, hk, rfl, rfl⟩ := hrel
    by_cases hlt : k < 5
    · have hck := HC.out (at' + k) (by omega)
      have HE := Lib.hid (show num (bs.drop at') (k + 1) = 256 * num (bs.drop at') k + (bs.getD (at' + k) 0).toNat by
        show 256 * num (bs.drop at') k + ((bs.drop at').getD k 0).toNat = _
        rw [getD_drop])
      have hns := num_small (bs.drop at') (show k ≤ 4 by omega)
      generalize bs.getD (at' + k) 0 = x at *
      rw [U_eq] at hck
      have hx : x.toNat < 256 := x.isLt
      obtain ⟨n, hn⟩ : ∃ n, n = num (bs.drop at') k := ⟨_, rfl⟩
      rw [← hn] at HE hns ⊢
      clear hn
      have hor := or_256 n x.toNat hns hx
      go_wp2_with fail
      go_round
      case rel => exact ⟨k + 1, by omega, by go_num, by rw [HE.out]; go_num⟩
      case measure => simp [intOf]; omega
    · obtain rfl : k = 5 := by omega
      go_wp2_with fail
      go_ret
      exact ⟨rfl, rfl⟩
set_option maxRecDepth 100000 in
set_option maxHeartbeats 4000000 in
theorem refNumber_any (v : Value) (bs : List Byte) (w : World) (hv : By w v bs) (hl : bs.length = 5) :
    Calls Tryd.prog 46 #[v] w fun e w' => e = .returned (.int .i64 (num bs 5 : Nat)) ∧ w = w' := by
  obtain ⟨_, ⟨rfl, a, cap, rfl, _⟩ | ⟨b, off, cap, rfl, h0, hcap, hcm, hc⟩⟩ := hv.cases
  · simp at hl
  clear hv
  have HC := Lib.hid hc
  clear hc
  have hl5 : 5 ≤ bs.length := by omega
  have HL := Lib.hid hl
  clear hl
  go_enter Tryd.func46, Tryd.ntmps46
  go_wp2_with fail
  go_loop [3, 4] (fun n i => ∃ k : Nat, k ≤ 5 ∧ i = .int .i64 (k : Int) ∧ n = .int .i64 (num bs k : Nat)) (fun _ i => 5 - (intOf i).toNat)
  case atStart => exact ⟨0, by omega, by go_num, rfl⟩
  case round =>
    obtain ⟨k, hk, rfl, rfl⟩ := hrel
    by_cases hlt : k < 5
    · have hck := HC.out k (by omega)
      have HE := Lib.hid (show num bs (k + 1) = 256 * num bs k + (bs.getD k 0).toNat from rfl)
      have hns := num_small bs (show k ≤ 4 by omega)
      generalize bs.getD k 0 = x at *
      rw [U_eq] at hck
      have hx : x.toNat < 256 := x.isLt
      obtain ⟨n, hn⟩ : ∃ n, n = num bs k := ⟨_, rfl⟩
      rw [← hn] at HE hns ⊢
      clear hn
      go_wp2_with fail
      go_round
      case rel => exact ⟨k + 1, by omega, by go_num, by rw [HE.out]; go_num⟩
      case measure => simp [intOf]; omega
    · obtain rfl : k = 5 := by omega
      go_wp2_with fail
      go_ret
      exact ⟨rfl, rfl⟩
end Go.Proofs.YtdmfjmdnkfeljaaDoor
