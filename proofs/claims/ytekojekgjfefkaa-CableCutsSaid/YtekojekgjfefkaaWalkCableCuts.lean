/- The walk of CableCuts. -/
import Derived.Test.YtekojekgjfefkaaWalkCableFull
namespace Go.Proofs.Ytekojekgjfefkaa
open Go.RowKit

set_option maxRecDepth 100000 in
set_option maxHeartbeats 8000000 in
theorem walkCableCuts (W : World) (v0 v1 v2 : Value) (o0 : IsInt .u8 v0) (o1 : IsInt .u8 v1) (o2 : IsInt .u8 v2) :
    Calls Try.prog 9 #[v0, v1, v2] W fun e w' => e = .returned (.bool true) ∧ Below W.heap.size W w' := by
  obtain ⟨ma, rfl, hma⟩ := int_u8' o0
  obtain ⟨mb, rfl, hmb⟩ := int_u8' o1
  obtain ⟨mn, rfl, hmn⟩ := int_u8' o2
  have HS := Lib.hid (Held.start0 (fun _ => False) (fun _ => False) (fun _ f _ => f) W)
  obtain ⟨a, ha⟩ : ∃ q : Nat, q = ma % 20 := ⟨_, rfl⟩
  obtain ⟨b, hb⟩ : ∃ q : Nat, q = mb % 20 := ⟨_, rfl⟩
  obtain ⟨n, hn⟩ : ∃ q : Nat, q = mn % 20 := ⟨_, rfl⟩
  have ha2 : (ma : Int) % 20 = (a : Int) := by omega
  have hb2 : (mb : Int) % 20 = (b : Int) := by omega
  have hn2 : (mn : Int) % 20 = (n : Int) := by omega
  have ha3 : a < 20 := by omega
  have hb3 : b < 20 := by omega
  have hn3 : n < 20 := by omega
  clear ha hb hn
  go_enter Try.func9, Try.ntmps9
  go_wp2_with fail
  refine (awake_any W).mono ?_
  rintro e w1 ⟨rfl, hb⟩
  have H1 := Lib.hid (HS.out.own hb); clear hb
  go_wp2_with fail
  refine (new0_h H1.out 3 (by decide) (by decide)).mono ?_
  rintro e w2 ⟨p, rfl, h⟩
  have H2 := Lib.hid (show Held (fun _ => False) (fun _ => False) W [tCab p (cutA 0)] w2 from h); clear h
  go_wp2_with fail
  try simp only [ha2, hb2, hn2]
  go_loopw [33] (fun i wr => ∃ j : Nat, j ≤ a ∧ i = .int .i64 (j : Int) ∧ Hid (Held (fun _ => False) (fun _ => False) W [tCab p (cutA j)] wr)) (fun i _ => a - (intOf i).toNat)
  case atStart => exact ⟨0, by omega, by go_num, H2⟩
  case round =>
    clear H2
    obtain ⟨j, hj, rfl, HH⟩ := hrel
    by_cases hlt : j < a
    · have H3 := Lib.hid (HH.out.byte (1#8) 5)
      have HSN := Lib.hid (cutA_send j (by omega))
      go_wp2_with fail
      refine (send_h H3.out 0 rfl (cut_ok' rfl rfl (by simp [cutA]; omega)) (by show 0 ≤ 1000000; omega) (by show 0 < 1000000000; omega) (by show _ < 1000000000; simp [cutA] <;> omega) (by show _ < 1000000000; simp [cutA] <;> omega) _ [1#8] (by simp) 1 _ rfl (by decide) by_rd).mono ?_
      rintro e w3 ⟨rfl, h⟩
      rw [HSN.out] at h ⊢
      have H4 := Lib.hid (h.pick [0] [tCab p (cutA (j + 1))] (by simp) rfl); clear h
      go_wp2_with fail
      go_roundw
      case rel => exact ⟨j + 1, by omega, by go_num, H4⟩
      case measure => simp [intOf]; omega
    · obtain rfl : a = j := by omega
      go_wp2_with fail
      refine (cut_h HH.out 0 rfl (by simp [cutA]) (by simp [cutA]; omega)).mono ?_
      rintro e w4 ⟨rfl, h⟩
      rw [cutA_cut] at h
      have H5 := Lib.hid h; clear h
      go_wp2_with fail
      go_loopw [42] (fun i wr => ∃ j : Nat, j ≤ b ∧ i = .int .i64 (j : Int) ∧ Hid (Held (fun _ => False) (fun _ => False) W [tCab p (cutB a j)] wr)) (fun i _ => b - (intOf i).toNat)
      case atStart => exact ⟨0, by omega, by go_num, H5⟩
      case round =>
        clear H5
        obtain ⟨j, hj, rfl, HH⟩ := hrel
        by_cases hlt : j < b
        · have H3 := Lib.hid (HH.out.byte (2#8) 5)
          have HSN := Lib.hid (cutB_send a j)
          go_wp2_with fail
          refine (send_h H3.out 0 rfl (cut_ok' rfl rfl (by simp [cutB])) (by show 0 ≤ 1000000; omega) (by show 0 < 1000000000; omega) (by show _ < 1000000000; simp [cutB] <;> omega) (by show _ < 1000000000; simp [cutB] <;> omega) _ [2#8] (by simp) 1 _ rfl (by decide) by_rd).mono ?_
          rintro e w3 ⟨rfl, h⟩
          rw [HSN.out] at h ⊢
          have H4 := Lib.hid (h.pick [0] [tCab p (cutB a (j + 1))] (by simp) rfl); clear h
          go_wp2_with fail
          go_roundw
          case rel => exact ⟨j + 1, by omega, by go_num, H4⟩
          case measure => simp [intOf]; omega
        · obtain rfl : b = j := by omega
          go_wp2_with fail
          refine (mend_h HH.out 0 rfl).mono ?_
          rintro e w5 ⟨rfl, h⟩
          rw [cutB_mend] at h
          have H6 := Lib.hid h; clear h
          go_wp2_with fail
          go_loopw [51] (fun i wr => ∃ j : Nat, j ≤ n ∧ i = .int .i64 (j : Int) ∧ Hid (Held (fun _ => False) (fun _ => False) W [tCab p (cutC (a + b) j)] wr)) (fun i _ => n - (intOf i).toNat)
          case atStart => exact ⟨0, by omega, by go_num, H6⟩
          case round =>
            clear H6
            obtain ⟨j, hj, rfl, HH⟩ := hrel
            by_cases hlt : j < n
            · have H3 := Lib.hid (HH.out.byte (3#8) 5)
              have HSN := Lib.hid (cutC_send (a + b) j (by omega))
              go_wp2_with fail
              refine (send_h H3.out 0 rfl (cut_ok' rfl rfl (by simp [cutC]; omega)) (by show 0 ≤ 1000000; omega) (by show 0 < 1000000000; omega) (by show _ < 1000000000; simp [cutC] <;> omega) (by show _ < 1000000000; simp [cutC] <;> omega) _ [3#8] (by simp) 1 _ rfl (by decide) by_rd).mono ?_
              rintro e w3 ⟨rfl, h⟩
              rw [HSN.out] at h ⊢
              have H4 := Lib.hid (h.pick [0] [tCab p (cutC (a + b) (j + 1))] (by simp) rfl); clear h
              go_wp2_with fail
              go_roundw
              case rel => exact ⟨j + 1, by omega, by go_num, H4⟩
              case measure => simp [intOf]; omega
            · obtain rfl : n = j := by omega
              obtain ⟨ht1, ht2, ht3⟩ := cutC_ticks (a + b) n
              have HT1 := Lib.hid ht1; have HT2 := Lib.hid ht2; have HT3 := Lib.hid ht3; clear ht1 ht2 ht3
              go_wp2_with fail
              refine (flying_h HH.out 0 rfl).mono ?_
              rintro e w6 ⟨rfl, rfl⟩
              rw [show (cutC (a + b) n).flying.length = n by simp [cutC]]
              go_wp2_with fail
              refine (lost_h HH.out 0 rfl).mono ?_
              rintro e w6 ⟨rfl, rfl⟩
              rw [show ((cutC (a + b) n).lost : Int) = (a : Int) + (b : Int) by simp [cutC]]
              go_wp2_with fail
              refine (tick_h HH.out 0 rfl (by simp [cutC]; omega) (by simp [cutC])).mono ?_
              rintro e w7 ⟨a7, n7, rfl, h⟩
              rw [HT1.out] at h ⊢
              have H7 := Lib.hid h; clear h
              go_wp2_with fail
              refine (tick_h H7.out 0 rfl (by simp [cutC, Cab.tick]; omega) (by simp [cutC, Cab.tick])).mono ?_
              rintro e w8 ⟨a8, n8, rfl, h⟩
              rw [HT2.out] at h ⊢
              have H8 := Lib.hid h; clear h
              go_wp2_with fail
              refine (tick_h H8.out 0 rfl (by simp [cutC, Cab.tick]; omega) (by simp [cutC, Cab.tick])).mono ?_
              rintro e w9 ⟨a9, n9, rfl, h⟩
              rw [HT3.out] at h ⊢
              rw [List.length_replicate] at h ⊢
              have H9 := Lib.hid h; clear h
              have hlit : str8 [3#8] = ⟨#[3]⟩ := rfl
              have HLIT := Lib.hid hlit; clear hlit
              go_wp2_with fail
              go_loopw [85] (fun i wr => ∃ k : Nat, k ≤ n ∧ i = .int .i64 (k : Int) ∧ wr = w9) (fun i _ => n - (intOf i).toNat)
              case atStart => exact ⟨0, by omega, by go_num, rfl⟩
              case round =>
                obtain ⟨k, hk, rfl, rfl⟩ := hrel
                by_cases hkl : k < n
                · obtain ⟨G, Y, hs⟩ := H9.out.get 3 rfl
                  obtain ⟨b1, o1, va, vc, rfl, c0, hby⟩ := bys_at (show Sq eBy 32 _ G Y _ _ from hs) (j := k) (d := [3#8]) (by rw [List.getElem?_replicate, if_pos hkl])
                  have hrun := run_str8 (P := Try.prog) (src := 32) (dst := 9) Try.underlying32 Try.underlying5 Try.underlying9 hby.1
                  rw [HLIT.out] at hrun
                  rw [show ([3#8] : Byt).length = 1 from rfl] at hrun c0
                  clear hs hby
                  go_wp2_with fail
                  go_roundw
                  case rel => exact ⟨k + 1, by omega, by go_num, by trivial⟩
                  case measure => simp [intOf]; omega
                · obtain rfl : n = k := by omega
                  go_wp2_with fail
                  go_ret
                  exact ⟨by simp, H9.out.below⟩
end Go.Proofs.Ytekojekgjfefkaa
