/- The walk of CableFull. -/
import Derived.Test.YtekojekgjfefkaaCabI
import Derived.Test.YtekojekgjfefkaaCabJ
import Derived.Test.YtekojekgjfefkaaRow
namespace Go.Proofs.Ytekojekgjfefkaa
open Go.RowKit

theorem by1_at {w : World} {v : Value} {x : BitVec 8} (h : By w v [x]) : ∃ b off cap, v = .slice (some ⟨b, off, none⟩) 1 cap ∧ 1 ≤ cap ∧ w.cell? ⟨b, off, none⟩ = some (.int .u8 (U x)) := by
  obtain ⟨_, ⟨h0, _⟩ | ⟨b, off, cap, rfl, _, h1, _, hc⟩⟩ := h.cases
  · cases h0
  · exact ⟨b, off, cap, rfl, h1, by simpa using hc 0 (by simp)⟩
theorem U_ofNat (i : Nat) (h : i < 256) : U (BitVec.ofNat 8 i) = (i : Int) := by
  unfold U; rw [BitVec.toNat_ofNat, Nat.mod_eq_of_lt (by omega)]
theorem Held.byteN {F Z : BS} {W w : World} {ts : List Th} (h : Held F Z W ts w) (i : Nat) (hi : i < 256) (T : TypeId) : Held F Z W (ts ++ [tBy (.slice (some ⟨w.heap.size, 0, none⟩) 1 1) [BitVec.ofNat 8 i]]) (w.alloc (.cells #[.int .u8 (i : Int)] T)) := by
  have := h.byte (BitVec.ofNat 8 i) T
  rwa [U_ofNat i hi] at this
theorem int_u8' {v : Value} (o : IsInt .u8 v) : ∃ a : Nat, v = .int .u8 (a : Int) ∧ a < 256 := by
  obtain ⟨x, rfl, hx⟩ := o
  have := bounds_u8 hx
  obtain ⟨n, rfl⟩ := Int.eq_ofNat_of_zero_le this.1
  exact ⟨n, rfl, by omega⟩
set_option maxHeartbeats 4000000 in
theorem walkCableFull (W : World) (v0 : Value) (o0 : IsInt .u8 v0) :
    Calls Try.prog 6 #[v0] W fun e w' => e = .returned (.bool true) ∧ Below W.heap.size W w' := by
  obtain ⟨m, rfl, hm⟩ := int_u8' o0
  have HS := Lib.hid (Held.start0 (fun _ => False) (fun _ => False) (fun _ f _ => f) W)
  have HO := Lib.hid fullC_ok
  go_enter Try.func6, Try.ntmps6
  go_wp2_with fail
  refine (awake_any W).mono ?_
  rintro e w1 ⟨rfl, hb⟩
  have H1 := Lib.hid (HS.out.own hb); clear hb
  go_wp2_with fail
  refine (new0_h H1.out 1 (by decide) (by decide)).mono ?_
  rintro e w2 ⟨p, rfl, h⟩
  have H2 := Lib.hid (show Held (fun _ => False) (fun _ => False) W [tCab p (fullC 0)] w2 from h); clear h
  obtain ⟨q, hq⟩ : ∃ q : Nat, q = m % 20 := ⟨_, rfl⟩
  have hq2 : (m : Int) % 20 = (q : Int) := by omega
  have hq3 : q < 20 := by omega
  clear hq
  go_wp2_with fail
  simp only [hq2]
  go_loopw [24] (fun i wr => ∃ j : Nat, j ≤ 64 + q ∧ i = .int .i64 (j : Int) ∧ Hid (Held (fun _ => False) (fun _ => False) W [tCab p (fullC j)] wr)) (fun i _ => 64 + q - (intOf i).toNat)
  case atStart => exact ⟨0, by omega, by go_num, H2⟩
  case round =>
    clear H2
    obtain ⟨j, hj, rfl, HH⟩ := hrel
    by_cases hlt : j < 64 + q
    · have H3 := Lib.hid (HH.out.byteN j (by omega) 5)
      have hs := fullC_send j
      by_cases h64 : j < 64
      · rw [if_pos h64] at hs
        have HSN := Lib.hid hs; clear hs
        go_wp2_with fail
        refine (send_h H3.out 0 rfl (HO.out j) (by simp [fullC]) (by simp [fullC]) (by show j < _; omega) (by show j - 64 < _; omega) _ [BitVec.ofNat 8 j] (by simp) 1 _ rfl (by decide) by_rd).mono ?_
        rintro e w3 ⟨rfl, h⟩
        rw [HSN.out] at h ⊢
        have H4 := Lib.hid (h.pick [0] [tCab p (fullC (j + 1))] (by simp) rfl); clear h
        go_wp2_with fail
        go_roundw
        case rel => exact ⟨j + 1, by omega, by go_num, H4⟩
        case measure => simp [intOf]; omega
      · rw [if_neg h64] at hs
        have HSN := Lib.hid hs; clear hs
        go_wp2_with fail
        refine (send_h H3.out 0 rfl (HO.out j) (by simp [fullC]) (by simp [fullC]) (by show j < _; omega) (by show j - 64 < _; omega) _ [BitVec.ofNat 8 j] (by simp) 1 _ rfl (by decide) by_rd).mono ?_
        rintro e w3 ⟨rfl, h⟩
        rw [HSN.out] at h ⊢
        have H4 := Lib.hid (h.pick [0] [tCab p (fullC (j + 1))] (by simp) rfl); clear h
        go_wp2_with fail
        go_roundw
        case rel => exact ⟨j + 1, by omega, by go_num, H4⟩
        case measure => simp [intOf]; omega
    · obtain rfl : j = 64 + q := by omega
      have HT := Lib.hid (fullC_tick (64 + q) (by omega))
      go_wp2_with fail
      refine (tick_h HH.out 0 rfl (by rw [fullC_len]; omega) (by simp [fullC])).mono ?_
      rintro e w3 ⟨a, n, rfl, h⟩
      rw [HT.out.1] at h ⊢
      rw [show ((List.range 64).map (fun k => [BitVec.ofNat 8 k])).length = 64 by simp] at h ⊢
      have H5 := Lib.hid h; clear h
      go_wp2_with fail
      go_loopw [41] (fun i wr => ∃ k : Nat, k ≤ 64 ∧ i = .int .i64 (k : Int) ∧ wr = w3) (fun i _ => 64 - (intOf i).toNat)
      case atStart => exact ⟨0, by omega, by go_num, rfl⟩
      case round =>
        obtain ⟨k, hk, rfl, rfl⟩ := hrel
        by_cases hkl : k < 64
        · obtain ⟨G, Y, hs⟩ := H5.out.get 1 rfl
          obtain ⟨b, o, va, vc, rfl, c0, hby⟩ := bys_at (show Sq eBy 32 _ G Y _ _ from hs) (j := k) (d := [BitVec.ofNat 8 k]) (by rw [List.getElem?_map, List.getElem?_range hkl]; rfl)
          obtain ⟨b1, o1, c1, e1, _, c2⟩ := by1_at hby.1
          obtain ⟨rfl, rfl⟩ : va = some ⟨b1, o1, none⟩ ∧ vc = c1 := by simpa using e1
          rw [U_ofNat k (by omega)] at c2
          clear hs hby e1
          go_wp2_with fail
          go_roundw
          case rel => exact ⟨k + 1, by omega, by go_num, by trivial⟩
          case measure => simp [intOf]; omega
        · obtain rfl : k = 64 := by omega
          go_wp2_with fail
          refine (lost_h H5.out 0 rfl).mono ?_
          rintro e w4 ⟨rfl, rfl⟩
          rw [HT.out.2]
          go_wp2_with fail
          go_ret
          exact ⟨by simp <;> omega, H5.out.below⟩
end Go.Proofs.Ytekojekgjfefkaa
