/- The walk of PortStops. -/
import Derived.Test.YtcocnfbhileheaaLvK
import Derived.Test.YtcocnfbhileheaaMgL
namespace Go.Proofs.Ytcocnfbhileheaa
open Go.RowKit

abbrev boxRow (v : Value) : Obj := .cells #[v] 41
section
variable {F Z : BS} {W w : World} {ts : List Th} {x p N : Nat} {P : Pr}
set_option maxRecDepth 100000 in
set_option maxHeartbeats 4000000 in
/-- the closure: forty ticks -/
theorem waitFn_c (hok : P.Ok 300000) (h : Held F Z W (tPair x P :: tBlk p (boxRow (.pointer (some ⟨x, 0, none⟩))) :: ts) w) :
    Calls Try.prog 26 #[.pointer (some ⟨p, 0, none⟩)] w fun e w' => e = .returned (.bool true) ∧ Held F Z W (tPair x (waits P 40) :: tBlk p (boxRow (.pointer (some ⟨x, 0, none⟩))) :: ts) w' := by
  have HW : Hid (∀ n, n ≤ 40 → (waits P n).Ok 400000) := Lib.hid fun n hn => (waits_ok hok n).mono (by omega)
  have HS : Hid (∀ n, waits P (n + 1) = ((waits P n).tick 0 0).take 1 1) := Lib.hid fun _ => rfl
  have H0 := Lib.hid (show Held F Z W (tPair x (waits P 0) :: tBlk p (boxRow (.pointer (some ⟨x, 0, none⟩))) :: ts) w from h)
  clear h hok
  go_enter Try.func26, Try.ntmps26
  go_wp2_with fail
  go_loopw [2] (fun i wr => ∃ n : Nat, n ≤ 40 ∧ i = .int .i64 (n : Int) ∧ Hid (Held F Z W (tPair x (waits P n) :: tBlk p (boxRow (.pointer (some ⟨x, 0, none⟩))) :: ts) wr)) (fun i _ => 40 - (intOf i).toNat)
  case atStart => exact ⟨0, by decide, rfl, H0⟩
  case round =>
    clear H0
    obtain ⟨n, hn, rfl, HK⟩ := hrel
    by_cases hlt : n < 40
    · have c0 := blk_cell (i := 0) (HK.out.blk 1 rfl) rfl
      have HON := Lib.hid (HW.out n (by omega))
      go_wp2_with fail
      refine (pairTick_c HON.out (by omega) 0 0 (by decide) (by decide) HK.out).mono ?_
      rintro e w1 ⟨rfl, h⟩
      have H1 := Lib.hid h
      clear h c0
      have c0 := blk_cell (i := 0) (H1.out.blk 1 rfl) rfl
      go_wp2_with fail
      refine (pairTake_c (HON.out.tick 0 0) (by omega) 1 (by decide) 1 (by decide) H1.out).mono ?_
      rintro e w2 ⟨rfl, h⟩
      rw [← HS.out n] at h
      have H2 := Lib.hid h
      clear h HK
      go_wp2_with fail
      go_roundw
      case rel => exact ⟨n + 1, by omega, by go_num, H2⟩
      case measure => simp [intOf]; omega
    · obtain rfl : n = 40 := by omega
      go_wp2_with fail
      go_ret
      exact ⟨rfl, HK.out⟩
end
set_option maxRecDepth 100000 in
set_option maxHeartbeats 16000000 in
theorem walkPortStops (W : World) (v0 v1 : Value) (o0 : IsInt .u8 v0) (o1 : IsInt .u8 v1) :
    Calls Try.prog 8 #[v0, v1] W fun e w' => e = .returned (.bool true) ∧ Below W.heap.size W w' := by
  have hmf : ∀ (fn : Fn) (first cap : Array Value) (w : World), (Instr.makeFunc fn first cap).run Try.prog w = .ok (.func fn first cap) w := fun _ _ _ _ => rfl
  obtain ⟨room, rfl, hr⟩ := int_u8' o0
  obtain ⟨window, rfl, hw⟩ := int_u8' o1
  have HS := Lib.hid (Held.start0 (fun _ => False) (Old W) (fun _ f _ => f) W)
  obtain ⟨q, hq⟩ : ∃ m, m = room % 4 := ⟨_, rfl⟩
  have hq4 : q < 4 := by omega
  have e2 : (room : Int).tmod 4 = (q : Int) := by rw [hq, Int.tmod_eq_emod_of_nonneg (by omega)]; rfl
  have e2' : (room : Int) % 4 = (q : Int) := by rw [hq]; rfl
  have HQ := Lib.hid hq
  clear hq
  go_enter Try.func8, Try.ntmps8
  go_wp2_with fail
  refine (awake_any W).mono ?_
  rintro e w1 ⟨rfl, hb⟩
  have H1 := Lib.hid (HS.out.own hb); clear hb
  go_wp2_with fail
  refine (connect_c room window hr hw H1.out).mono ?_
  rintro e w2 ⟨x, rfl, h⟩
  obtain ⟨bx, hbx⟩ : ∃ b, b = w2.heap.size := ⟨_, rfl⟩
  have h4 := (show Held (fun _ => False) (Old W) W [tPair x (newPr room window)] w2 from h).new (boxRow (.pointer (some ⟨x, 0, none⟩)))
  rw [← hbx] at h4
  have c5 := blk_cell (i := 0) (h4.blk 1 rfl) rfl
  have H4 := Lib.hid (show Held (fun _ => False) (Old W) W [tPair x (newPr room window), tBlk bx (boxRow (.pointer (some ⟨x, 0, none⟩)))] _ from h4)
  clear h h4 H1 HS
  go_wp2_with fail
  rw [← hbx]
  clear hbx
  generalize w2.alloc (boxRow (.pointer (some ⟨x, 0, none⟩))) = w3 at H4 c5 ⊢
  clear c5
  have HP0 : Hid (Pre (newPr room window) (1 + q) 0 0) := Lib.hid (by rw [HQ.out]; exact newPr_pre room window)
  go_loopw [28] (fun i wr => ∃ (k : Nat) (P : Pr), k ≤ 1 + q + 3 ∧ i = .int .i64 (k : Int) ∧ Hid (Pre P (1 + q) k 0) ∧ Hid (Held (fun _ => False) (Old W) W [tPair x P, tBlk bx (boxRow (.pointer (some ⟨x, 0, none⟩)))] wr)) (fun i _ => 1 + q + 3 - (intOf i).toNat)
  case atStart => exact ⟨0, _, Nat.zero_le _, rfl, HP0, H4⟩
  case round =>
    clear H4 HP0
    obtain ⟨k, P, hk, rfl, HPR, HK⟩ := hrel
    by_cases hlt : k < 1 + q + 3
    · have hlt2 : (k : Int) < 1 + (q : Int) + 3 := by omega
      have c0 := blk_cell (i := 0) (HK.out.blk 1 rfl) rfl
      have HU : Hid (U (BitVec.ofNat 8 k) = (k : Int)) := Lib.hid (by unfold U; rw [BitVec.toNat_ofNat, Nat.mod_eq_of_lt (by omega)])
      have HC := pairOffer_c HPR.out.ok (by omega) 0 (by decide) 0 (by decide) (BitVec.ofNat 8 k) HK.out
      rw [HU.out] at HC
      have HC := Lib.hid HC
      have HP3 := Lib.hid (HPR.out.offer (c := 0) (by decide) (by omega) (by decide) (BitVec.ofNat 8 k))
      clear HPR HK
      go_wp2_with fail
      refine HC.out.mono ?_
      rintro e w4 ⟨rfl, h⟩
      have H3 := Lib.hid h
      clear h HC c0
      generalize P.offer 0 0 (BitVec.ofNat 8 k) = P1 at H3 HP3
      go_wp2_with fail
      go_roundw
      case rel => first | exact ⟨k + 1, P1, by omega, by go_num, HP3, H3⟩ | ((repeat apply Exists.intro); exact ⟨⟨k + 1, P1, by omega, by go_num, HP3, H3⟩, rfl⟩)
      case measure => simp [intOf]; omega
    · obtain rfl : k = 1 + q + 3 := by omega
      have hlt2 : ¬ (((1 + q + 3 : Nat)) : Int) < 1 + (q : Int) + 3 := by omega
      go_wp2_with fail
      go_loopw [36] (fun i wr => ∃ (k : Nat) (P : Pr), k ≤ 3 ∧ i = .int .i64 (k : Int) ∧ Hid (Pre P (1 + q) (1 + q + 3) k) ∧ Hid (Held (fun _ => False) (Old W) W [tPair x P, tBlk bx (boxRow (.pointer (some ⟨x, 0, none⟩)))] wr)) (fun i _ => 3 - (intOf i).toNat)
      case atStart => exact ⟨0, P, by decide, rfl, HPR, HK⟩
      case round =>
        clear HPR HK hlt hlt2
        obtain ⟨k, P, hk, rfl, HPR, HK⟩ := hrel
        by_cases hlt : k < 3
        · have c0 := blk_cell (i := 0) (HK.out.blk 1 rfl) rfl
          have HU : Hid (U (BitVec.ofNat 8 (100 + k)) = 100 + (k : Int)) := Lib.hid (by unfold U; rw [BitVec.toNat_ofNat, Nat.mod_eq_of_lt (by omega)]; omega)
          have HC := pairOffer_c HPR.out.ok (by omega) 0 (by decide) 1 (by decide) (BitVec.ofNat 8 (100 + k)) HK.out
          rw [HU.out] at HC
          have HC := Lib.hid HC
          have HP3 := Lib.hid (HPR.out.offer (c := 1) (by decide) (by omega) (by omega) (BitVec.ofNat 8 (100 + k)))
          clear HPR HK
          go_wp2_with fail
          refine HC.out.mono ?_
          rintro e w4 ⟨rfl, h⟩
          have H3 := Lib.hid h
          clear h HC c0
          generalize P.offer 0 1 (BitVec.ofNat 8 (100 + k)) = P1 at H3 HP3
          go_wp2_with fail
          go_roundw
          case rel => first | exact ⟨k + 1, P1, by omega, by go_num, HP3, H3⟩ | ((repeat apply Exists.intro); exact ⟨⟨k + 1, P1, by omega, by go_num, HP3, H3⟩, rfl⟩)
          case measure => simp [intOf]; omega
        · obtain rfl : k = 3 := by omega
          have HD := Lib.hid (pre_done HPR.out (by omega) (by omega))
          have HO := Lib.hid (HPR.out.ok.mono (show _ ≤ 300000 by omega))
          clear HPR hlt
          go_wp2_with fail
          refine (waitFn_c HO.out HK.out).mono ?_
          rintro e w4 ⟨rfl, h⟩
          generalize waits P 40 = Q at h HD
          have HD1 := Lib.hid HD.out.1
          have HD4 := Lib.hid HD.out.2.2.2.1
          have HD5 := Lib.hid HD.out.2.2.2.2
          have HR := Lib.hid HD.out.2.1
          have HG := Lib.hid HD.out.2.2.1
          clear HD HO HK
          have cb := blk_cell (i := 0) (h.blk 1 rfl) rfl
          obtain ⟨⟨pl, pr, fl, fr, ol, or', gl, gr⟩, h0⟩ := h.pair'
          obtain ⟨c0, c1, _, _, _, _, _, _⟩ := pair_cells (h0.blk 0 rfl)
          dsimp only at c0 c1
          have HC := counts_any h0 2 rfl HD1.out.r.ok (by omega) 0 (by rw [HD1.out.r.two]; decide)
          rw [HR.out, show ((1 + q : Nat) : Int) = 1 + (q : Int) by omega] at HC
          have HC := Lib.hid HC
          have hself : ((1 + (q : Int)) != (1 + (q : Int))) = false := by simp
          clear h h0
          go_wp2_with fail
          refine HC.out.mono ?_
          rintro e w5 ⟨rfl, h⟩
          have H5 := Lib.hid h
          clear HC c0 c1 cb
          have cb := blk_cell (i := 0) (h.blk 9 rfl) rfl
          obtain ⟨_, _, _, _, _, _, _, c7⟩ := pair_cells (h.blk 0 rfl)
          dsimp only at c7
          obtain ⟨b8, o8, k8, va8, vc8, rfl, q8, d8, _⟩ := h.bb2 8 rfl HD1.out.r.g2 (c := 1) (by decide)
          rw [HG.out] at d8
          clear h
          go_wp2_with fail
          refine (pairTake_c HD1.out (by omega) 1 (by decide) 0 (by decide) (Held.pair_shut H5.out)).mono ?_
          rintro e w6 ⟨rfl, h⟩
          have H6 := Lib.hid h
          have cb2 := blk_cell (i := 0) (h.blk 1 rfl) rfl
          clear h c7 d8 cb
          go_wp2_with fail
          refine (waitFn_c (HD4.out.mono (by omega)) H6.out).mono ?_
          rintro e w7 ⟨rfl, h⟩
          generalize waits (Q.take 1 0) 40 = R at h HD5
          clear H6 H5 cb2 HD1 HR HG HD4
          have HR1 := Lib.hid HD5.out.1
          have HRG := Lib.hid HD5.out.2.1
          have HR2 := Lib.hid HD5.out.2.2
          clear HD5
          have H7 := Lib.hid h
          have cb := blk_cell (i := 0) (h.blk 1 rfl) rfl
          obtain ⟨⟨pl2, pr2, fl2, fr2, ol2, or2, gl2, gr2⟩, h0⟩ := h.pair'
          obtain ⟨c0, c1, _, _, _, _, _, _⟩ := pair_cells (h0.blk 0 rfl)
          dsimp only at c0 c1
          have HC := counts_any h0 2 rfl HR1.out.r.ok (by omega) 0 (by rw [HR1.out.r.two]; decide)
          rw [HR2.out.1, HR2.out.2, show ((1 + q + 1 : Nat) : Int) = 1 + (q : Int) + 1 by omega] at HC
          have HC := Lib.hid HC
          clear h h0
          go_wp2_with fail
          refine HC.out.mono ?_
          rintro e w8 ⟨rfl, h⟩
          have H8 := Lib.hid (Held.pair_shut h)
          have cb2 := blk_cell (i := 0) (h.blk 9 rfl) rfl
          clear h HC c0 c1 cb H7
          have hself2 : ((1 + (q : Int) + 1) == (1 + (q : Int) + 1)) = true := by simp
          go_wp2_with fail
          refine (pairPrefix_c HR1.out HRG.out.front.1 HRG.out.front.2 H8.out).mono ?_
          rintro e w9 ⟨rfl, nn, rfl⟩
          go_wp2_with fail
          go_ret
          exact ⟨rfl, (H8.out.drewN nn).below⟩
end Go.Proofs.Ytcocnfbhileheaa
