/- The walk of RetryUnsent. -/
import Derived.Test.YtgpeekicpkgpmaaRetO
namespace Go.Proofs.Ytgpeekicpkgpmaa
open Go.RowKit

def oneX (_ : Nat) : Bytes := [0x78]
theorem oneX_le (i : Nat) : (oneX i).length ≤ 64 := by simp [oneX]
set_option maxHeartbeats 4000000 in
theorem unsent_walk (W : World) (a b c w n k : Nat) (x : Int) (ew : (a : Int) % 128 + 1 = (w : Int)) (en : (b : Int) % ((w : Int) + 1) = (n : Int)) (ek : (c : Int) % ((n : Int) + 1) = (k : Int))
    (ha : a < 256) (hb : b < 256) (hc : c < 256) (w1 : 1 ≤ w) (w2 : w ≤ 128) (nw : n ≤ w) (kn : k ≤ n) (hx : (Lit.int .i64 x).wf = true) :
    Calls Try.prog 4 #[.int .u8 a, .int .u8 b, .int .u8 c, .int .i64 x] W fun e w' => e = .returned (.bool true) ∧ Below W.heap.size W w' := by
  have kc := fun (w : World) (C : Array Value) (n c : Nat) => Lib.run_convert_bytes_const (P := Try.prog) w 28 5 C n c Try.underlying28 Try.underlying5
  have hx' := bounds_i64 hx
  go_enter Try.func4, Try.ntmps4
  go_wp2_with fail
  refine (awake_any W).mono ?_
  rintro e u1 ⟨rfl, hb⟩
  have HB := Lib.hid hb; have hz1 := hb.size; clear hb
  go_wp2_with fail
  refine (new_sn w 5 u1 (fun x => x < W.heap.size) (fun x hx => by omega) w1 w2 (by omega) (by omega)).mono ?_
  rintro e u2 ⟨rfl, hs, hb⟩
  have HS := Lib.hid hs; have HK := Lib.hid (Kp.of_below (X := fun x => x < W.heap.size) HB.out |>.trans (Kp.of_below hb)); have hz2 := hb.size; clear hs hb
  go_wp2_with fail
  try simp only [en]
  go_loopw [37] (fun i wr => ∃ j : Nat, j ≤ n ∧ i = .int .i64 j ∧ Hid (Sn wr (fun x => x < W.heap.size) u1.heap.size (qS oneX w j 0 0 0)) ∧ Hid (Kp (fun x => x < W.heap.size) W wr)) (fun i _ => n - (intOf i).toNat)
  case atStart => exact ⟨0, by omega, rfl, HS, HK⟩
  case round =>
    clear HS HK
    obtain ⟨j, hj, rfl, HS, HK⟩ := hrel
    by_cases hlt : j < n
    · go_wp2_with fail
      refine (offer_sn (X := fun x => x < W.heap.size) (HS.out.below ((Below.refl _ _).alloc (Nat.le_refl _) _)) (fun k hk => by have := HK.out.size; simp; omega) (qS_ok oneX_le w j 0 0 0 w1 w2 (by omega) (by omega) (by omega)) _ (oneX j) (By_lit1 _ _ _ _ _ _ (by rfl) rfl)).mono ?_
      rw [qS_offer oneX_le w j 0 0 0 (by omega) (by omega)]
      rintro e u3 ⟨he, hs, hk⟩
      obtain rfl : e = .returned (.int .i64 0) := he
      have HS3 := Lib.hid hs; have HK3 := Lib.hid ((HK.out.alloc _).trans hk); clear hs hk
      go_wp2_with fail
      go_roundw
      case rel => exact ⟨j + 1, by omega, by go_num, HS3, HK3⟩
      case measure => simp [intOf]; omega
    · obtain rfl : n = j := by omega
      go_wp2_with fail
      try simp only [ek]
      go_loopw [50] (fun i wr => ∃ j : Nat, j ≤ k ∧ i = .int .i64 j ∧ Hid (Sn wr (fun x => x < W.heap.size) u1.heap.size (qS oneX w n 0 j j)) ∧ Hid (Kp (fun x => x < W.heap.size) W wr)) (fun i _ => k - (intOf i).toNat)
      case atStart => exact ⟨0, by omega, rfl, HS, HK⟩
      case round =>
        clear HS HK
        obtain ⟨j, hj, rfl, HS, HK⟩ := hrel
        by_cases hlt : j < k
        · go_wp2_with fail
          refine (tick_sn HS.out (qS_ok oneX_le w n 0 j j w1 w2 (by omega) (by omega) (by omega)) (qS_total _ _ _ _ _ (by omega) (by omega))).mono ?_
          rw [qS_tick w n 0 j j (by omega)]
          rintro e u5 ⟨v5, he, ho, hs, hk⟩
          obtain rfl : e = .returned (.tuple #[.int .i64 (((0 + j) % 256 : Nat) : Int), v5, .bool true]) := he
          have HS5 : Hid (Sn u5 (fun x => x < W.heap.size) u1.heap.size (qS oneX w n 0 (j + 1) (j + 1))) := Lib.hid (by rw [Nat.max_eq_right (by omega)] at hs; exact hs)
          have HK5 := Lib.hid (HK.out.trans hk); clear ho hs hk
          go_wp2_with fail
          go_roundw
          case rel => exact ⟨j + 1, by omega, by go_num, HS5, HK5⟩
          case measure => simp [intOf]; omega
        · obtain rfl : k = j := by omega
          by_cases hyes : 0 ≤ x ∧ x ≤ (k : Int)
          · obtain ⟨m, rfl⟩ := Int.eq_ofNat_of_zero_le hyes.1
            obtain ⟨_, hmk⟩ := hyes
            clear hx hx'
            go_wp2_with fail
            refine (ack_sn HS.out (qS_ok oneX_le w n 0 k k w1 w2 (by omega) (by omega) (by omega)) (qS_total _ _ _ _ _ (by omega) (by omega)) (m : Int)).mono ?_
            rw [qS_ack0 w n k m (by omega) (by omega)]
            rintro e u5 ⟨rfl, hs, hk⟩
            have HS5 := Lib.hid hs
            have HK5 := Lib.hid (HK.out.trans hk); clear hs hk
            go_wp2_with fail
            refine (kept_sn HS5.out).mono ?_
            rw [qS_kept, Int.ofNat_sub (by omega)]
            rintro e u6 ⟨rfl, rfl⟩
            go_wp2_with fail
            go_ret
            exact ⟨rfl, HK5.out.below (Nat.le_refl _) fun x hx => hx⟩
          · have HN := Lib.hid hyes
            rcases (show x < 0 ∨ (0 ≤ x ∧ (k : Int) < x) by omega) with h | ⟨h, h'⟩
            all_goals
              clear hyes
              go_wp2_with fail
              refine (ack_sn HS.out (qS_ok oneX_le w n 0 k k w1 w2 (by omega) (by omega) (by omega)) (qS_total _ _ _ _ _ (by omega) (by omega)) x).mono ?_
              rw [qS_ack_no w n k k x HN.out (by omega)]
              rintro e u5 ⟨he, hs, hk⟩
              obtain rfl : e = .returned (.int .i64 0) := he
              have HS5 := Lib.hid hs
              have HK5 := Lib.hid (HK.out.trans hk); clear hs hk
              go_wp2_with fail
              refine (nak_sn HS5.out (qS_ok oneX_le w n 0 k k w1 w2 (by omega) (by omega) (by omega)) (qS_total _ _ _ _ _ (by omega) (by omega)) x).mono ?_
              rw [qS_nak_no w n k k x HN.out (by omega)]
              rintro e u6 ⟨he, hs, hk⟩
              obtain rfl : e = .returned (.int .i64 0) := he
              have HS6 := Lib.hid hs
              have HK6 := Lib.hid (HK5.out.trans hk); clear hs hk
              go_wp2_with fail
              refine (kept_sn HS6.out).mono ?_
              rw [qS_kept, Nat.sub_zero]
              rintro e u7 ⟨rfl, rfl⟩
              go_wp2_with fail
              go_ret
              exact ⟨rfl, HK6.out.below (Nat.le_refl _) fun x hx => hx⟩
theorem walkRetryUnsent (W : World) (v0 v1 v2 v3 : Value) (o0 : IsInt .u8 v0) (o1 : IsInt .u8 v1) (o2 : IsInt .u8 v2) (o3 : IsInt .i64 v3) :
    Calls Try.prog 4 #[v0, v1, v2, v3] W fun e w' => e = .returned (.bool true) ∧ Below W.heap.size W w' := by
  obtain ⟨a, rfl, ha⟩ := int_u8 o0
  obtain ⟨b, rfl, hb⟩ := int_u8 o1
  obtain ⟨c, rfl, hc⟩ := int_u8 o2
  obtain ⟨x, rfl, hx⟩ := o3
  have h1 : a % 128 + 1 ≤ 128 := by omega
  have h2 := Nat.mod_lt b (show a % 128 + 1 + 1 > 0 by omega)
  have h3 := Nat.mod_lt c (show b % (a % 128 + 1 + 1) + 1 > 0 by omega)
  exact unsent_walk W a b c (a % 128 + 1) _ _ x (by omega) (emod_cast b _) (emod_cast c _) ha hb hc (by omega) h1 (by omega) (by omega) hx
end Go.Proofs.Ytgpeekicpkgpmaa
