/- The walk of RetryNaks. -/
import Derived.Test.YtgpeekicpkgpmaaRetO
namespace Go.Proofs.Ytgpeekicpkgpmaa
open Go.RowKit

set_option maxHeartbeats 4000000 in
theorem naks_walk (W : World) (a b c d w n k m : Nat) (ew : (a : Int) % 128 + 1 = (w : Int)) (en : (b : Int) % ((w : Int) + 1) = (n : Int)) (ek : (c : Int) % ((n : Int) + 1) = (k : Int)) (em : (d : Int) % ((k : Int) + 1) = (m : Int))
    (ha : a < 256) (hb : b < 256) (hc : c < 256) (hd : d < 256) (w1 : 1 ≤ w) (w2 : w ≤ 128) (nw : n ≤ w) (kn : k ≤ n) (mk : m ≤ k) :
    Calls Try.prog 3 #[.int .u8 a, .int .u8 b, .int .u8 c, .int .u8 d] W fun e w' => e = .returned (.bool true) ∧ Below W.heap.size W w' := by
  go_enter Try.func3, Try.ntmps3
  go_wp2_with fail
  refine (awake_any W).mono ?_
  rintro e u1 ⟨rfl, hb⟩
  have HB := Lib.hid hb; have hz1 := hb.size; clear hb
  go_wp2_with fail
  refine (new_sn w 5 u1 (fun x => x < W.heap.size) (fun x hx => by omega) w1 w2 (by omega) (by omega)).mono ?_
  rintro e u2 ⟨rfl, hs, hb⟩
  have HS := Lib.hid hs; have HK := Lib.hid (Kp.of_below (X := fun x => x < W.heap.size) HB.out |>.trans (Kp.of_below hb)); have hz2 := hb.size; clear hs hb
  go_wp2_with fail
  simp only [en]
  go_loopw [43] (fun i wr => ∃ j : Nat, j ≤ n ∧ i = .int .i64 j ∧ Hid (Sn wr (fun x => x < W.heap.size) u1.heap.size (qS oneB w j 0 0 0)) ∧ Hid (Kp (fun x => x < W.heap.size) W wr)) (fun i _ => n - (intOf i).toNat)
  case atStart => exact ⟨0, by omega, rfl, HS, HK⟩
  case round =>
    obtain ⟨j, hj, rfl, HS, HK⟩ := hrel
    by_cases hlt : j < n
    · go_wp2_with fail
      refine (offer_sn (X := fun x => x < W.heap.size) (HS.out.below ((Below.refl _ _).alloc (Nat.le_refl _) _)) (fun k hk => by have := HK.out.size; simp; omega) (qS_ok one_le w j 0 0 0 w1 w2 (by omega) (by omega) (by omega)) _ (oneB j) (By_lit1 _ _ (BitVec.ofNat 8 j) _ _ _ (U_small j (by omega)).symm rfl)).mono ?_
      rw [qS_offer one_le w j 0 0 0 (by omega) (by omega)]
      rintro e u3 ⟨he, hs, hk⟩
      obtain rfl : e = .returned (.int .i64 0) := he
      have HS3 := Lib.hid hs; have HK3 := Lib.hid ((HK.out.alloc _).trans hk); clear hs hk
      go_wp2_with fail
      go_roundw
      case rel => exact ⟨j + 1, by omega, by go_num, HS3, HK3⟩
      case measure => simp [intOf]; omega
    · obtain rfl : n = j := by omega
      go_wp2_with fail
      refine (kept_sn HS.out).mono ?_
      rw [qS_kept, Nat.sub_zero]
      rintro e u3 ⟨rfl, rfl⟩
      have hz3 := HK.out.size
      by_cases hnw : n = w
      case' pos =>
        have hq : ((n : Int) == (w : Int)) = true := by simp [hnw]
        have HNW := Lib.hid hnw; clear hnw
        go_wp2_with fail
        refine (offer_sn (X := fun x => x < W.heap.size) HS.out (fun k hk => by omega) (qS_ok one_le w n 0 0 0 w1 w2 (by omega) (by omega) (by omega)) _ [] (By.of_nil _)).mono ?_
        rw [qS_full w n 0 0 0 HNW.out]
        rintro e u3 ⟨he, hs, hk⟩
        obtain rfl : e = .returned (.int .i64 5) := he
        have HK3 := Lib.hid (HK.out.trans hk); have hz4 := hk.size; clear hk HS HK
        have HS := Lib.hid hs; clear hs
        have HK := HK3; clear HK3
        go_wp2_with fail
        try simp only [ek]
      case' neg =>
        have hq : ((n : Int) == (w : Int)) = false := by simp; omega
        clear hnw
        go_wp2_with fail
        try simp only [ek]

      all_goals
        clear hz3
        go_loopw [68] (fun i wr => ∃ j : Nat, j ≤ k ∧ i = .int .i64 j ∧ Hid (Sn wr (fun x => x < W.heap.size) u1.heap.size (qS oneB w n 0 j j)) ∧ Hid (Kp (fun x => x < W.heap.size) W wr)) (fun i _ => k - (intOf i).toNat)
        case atStart => exact ⟨0, by omega, rfl, HS, HK⟩
        case round =>
          clear HS HK
          obtain ⟨j, hj, rfl, HS, HK⟩ := hrel
          by_cases hlt : j < k
          · go_wp2_with fail
            refine (tick_sn HS.out (qS_ok one_le w n 0 j j w1 w2 (by omega) (by omega) (by omega)) (qS_total _ _ _ _ _ (by omega) (by omega))).mono ?_
            rw [qS_tick w n 0 j j (by omega), Nat.mod_eq_of_lt (show 0 + j < 256 by omega)]
            rintro e u5 ⟨v5, he, ho, hs, hk⟩
            obtain rfl : e = .returned (.tuple #[.int .i64 ((0 + j : Nat) : Int), v5, .bool true]) := he
            have HS5 : Hid (Sn u5 (fun x => x < W.heap.size) u1.heap.size (qS oneB w n 0 (j + 1) (j + 1))) := Lib.hid (by rw [Nat.max_eq_right (by omega)] at hs; exact hs)
            have HK5 := Lib.hid (HK.out.trans hk); clear ho hs hk
            go_wp2_with fail
            go_roundw
            case rel => exact ⟨j + 1, by omega, by go_num, HS5, HK5⟩
            case measure => simp [intOf]; omega
          · obtain rfl : k = j := by omega
            go_wp2_with fail
            try simp only [em]
            refine (nak_sn HS.out (qS_ok one_le w n 0 k k w1 w2 (by omega) (by omega) (by omega)) (qS_total _ _ _ _ _ (by omega) (by omega)) (m : Int)).mono ?_
            rw [qS_nak w n k m mk (by omega)]
            rintro e u5 ⟨rfl, hs, hk⟩
            have HS5 := Lib.hid hs
            have HK5 := Lib.hid (HK.out.trans hk); clear hs hk
            go_wp2_with fail
            refine (kept_sn HS5.out).mono ?_
            rw [qS_kept, Int.ofNat_sub (by omega)]
            rintro e u6 ⟨rfl, rfl⟩
            go_wp2_with fail
            try simp only [em]
            go_loopw [16] (fun i wr => ∃ i' h : Nat, m ≤ i' ∧ i' ≤ n ∧ i' - m ≤ h ∧ h ≤ n - m ∧ i = .int .i64 i' ∧ Hid (Sn wr (fun x => x < W.heap.size) u1.heap.size (qS oneB w n m (i' - m) h)) ∧ Hid (Kp (fun x => x < W.heap.size) W wr)) (fun i _ => n - (intOf i).toNat)
            case atStart => exact ⟨m, k - m, by omega, by omega, by omega, by omega, rfl, by rw [Nat.sub_self]; exact HS5, HK5⟩
            case round =>
              clear HS HK HS5 HK5
              obtain ⟨i, h, h1, h2, h3, h4, rfl, HS, HK⟩ := hrel
              by_cases hlt : i < n
              · go_wp2_with fail
                refine (tick_sn HS.out (qS_ok one_le w n m (i - m) h w1 w2 (by omega) (by omega) (by omega)) (qS_total _ _ _ _ _ (by omega) (by omega))).mono ?_
                rw [qS_tick' w n m i h h1 hlt, Nat.mod_eq_of_lt (show i < 256 by omega)]
                rintro e u7 ⟨v7, he, ho, hs, hk⟩
                obtain rfl : e = .returned (.tuple #[.int .i64 (i : Int), v7, .bool true]) := he
                obtain ⟨vb, voff, vcap, rfl, hvc, hcell⟩ := By.one ho.by
                rw [U_small i (by omega)] at hcell
                have HS7 := Lib.hid hs
                have HK7 := Lib.hid (HK.out.trans hk); clear ho hs hk
                go_wp2_with fail
                go_roundw
                case rel => exact ⟨i + 1, max h (i + 1 - m), by omega, by omega, by omega, by omega, by go_num, HS7, HK7⟩
                case measure => simp [intOf]; omega
              · go_wp2_with fail
                go_ret
                exact ⟨rfl, HK.out.below (Nat.le_refl _) fun x hx => hx⟩
theorem walkRetryNaks (W : World) (v0 v1 v2 v3 : Value) (o0 : IsInt .u8 v0) (o1 : IsInt .u8 v1) (o2 : IsInt .u8 v2) (o3 : IsInt .u8 v3) :
    Calls Try.prog 3 #[v0, v1, v2, v3] W fun e w' => e = .returned (.bool true) ∧ Below W.heap.size W w' := by
  obtain ⟨a, rfl, ha⟩ := int_u8 o0
  obtain ⟨b, rfl, hb⟩ := int_u8 o1
  obtain ⟨c, rfl, hc⟩ := int_u8 o2
  obtain ⟨d, rfl, hd⟩ := int_u8 o3
  have h1 : a % 128 + 1 ≤ 128 := by omega
  have h2 := Nat.mod_lt b (show a % 128 + 1 + 1 > 0 by omega)
  have h3 := Nat.mod_lt c (show b % (a % 128 + 1 + 1) + 1 > 0 by omega)
  have h4 := Nat.mod_lt d (show c % (b % (a % 128 + 1 + 1) + 1) + 1 > 0 by omega)
  exact naks_walk W a b c d (a % 128 + 1) _ _ _ (by omega) (emod_cast b _) (emod_cast c _) (emod_cast d _) ha hb hc hd (by omega) h1 (by omega) (by omega) (by omega)
end Go.Proofs.Ytgpeekicpkgpmaa
