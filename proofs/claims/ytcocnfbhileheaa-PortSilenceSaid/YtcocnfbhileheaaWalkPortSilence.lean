/- The walk of PortSilence. -/
import Derived.Test.YtcocnfbhileheaaLvK
import Derived.Test.YtcocnfbhileheaaLvL
namespace Go.Proofs.Ytcocnfbhileheaa
open Go.RowKit

set_option maxRecDepth 100000 in
set_option maxHeartbeats 16000000 in
theorem walkPortSilence (W : World) (v0 v1 v2 v3 : Value) (o0 : IsInt .u8 v0) (o1 : IsInt .u8 v1) (o2 : IsInt .u8 v2) (o3 : IsInt .u8 v3) :
    Calls Try.prog 6 #[v0, v1, v2, v3] W fun e w' => e = .returned (.bool true) ∧ Below W.heap.size W w' := by
  obtain ⟨room, rfl, hr⟩ := int_u8' o0
  obtain ⟨window, rfl, hw⟩ := int_u8' o1
  obtain ⟨before, rfl, hbf⟩ := int_u8' o2
  obtain ⟨silence, rfl, hsl⟩ := int_u8' o3
  have HS := Lib.hid (Held.start0 (fun _ => False) (Old W) (fun _ f _ => f) W)
  obtain ⟨m2, hm2⟩ : ∃ m, m = before % 12 := ⟨_, rfl⟩
  obtain ⟨m3, hm3⟩ : ∃ m, m = silence % 41 := ⟨_, rfl⟩
  have hm2' : m2 < 12 := by omega
  have hm3' : m3 < 41 := by omega
  have e2 : (before : Int).tmod 12 = (m2 : Int) := by rw [hm2, Int.tmod_eq_emod_of_nonneg (by omega)]; rfl
  have e3 : (silence : Int).tmod 41 = (m3 : Int) := by rw [hm3, Int.tmod_eq_emod_of_nonneg (by omega)]; rfl
  have e2' : (before : Int) % 12 = (m2 : Int) := by rw [hm2]; rfl
  have e3' : (silence : Int) % 41 = (m3 : Int) := by rw [hm3]; rfl
  have E2 := Lib.hid (And.intro e2 e2')
  have E3 := Lib.hid (And.intro e3 e3')
  clear hm2 hm3 e2 e3 e2' e3'
  go_enter Try.func6, Try.ntmps6
  go_wp2_with fail
  refine (awake_any W).mono ?_
  rintro e w1 ⟨rfl, hb⟩
  have H1 := Lib.hid (HS.out.own hb); clear hb
  go_wp2_with fail
  refine (connect_c room window hr hw H1.out).mono ?_
  rintro e w2 ⟨x, rfl, h⟩
  have H2 := Lib.hid (show Held (fun _ => False) (Old W) W [tPair x (newPr room window)] w2 from h)
  clear h H1 HS
  go_wp2_with fail
  go_loopw [22] (fun i wr => ∃ (k : Nat) (P : Pr), k ≤ 12 ∧ i = .int .i64 (k : Int) ∧ Hid (P.Ok (200 + 2100 * k)) ∧ Hid P.Good ∧ Hid (P.Sum k) ∧ Hid (Held (fun _ => False) (Old W) W [tPair x P] wr)) (fun i _ => 12 - (intOf i).toNat)
  case atStart => exact ⟨0, _, by decide, rfl, Lib.hid (newPr_ok _ _), Lib.hid (newPr_good _ _), Lib.hid (newPr_sum _ _), H2⟩
  case round =>
    clear H2
    obtain ⟨k, P, hk, rfl, HOK, HGD, HSM, HK⟩ := hrel
    by_cases hlt : k < 12
    · have hb1 := and1_i64 k (by omega)
      have hb2 := and1_i64 (k / 2) (by omega)
      rw [show ((k / 2 : Nat) : Int) = (k : Int) / 2 by omega] at hb2
      have HU : Hid (U (BitVec.ofNat 8 k) = (k : Int)) := Lib.hid (by unfold U; rw [BitVec.toNat_ofNat, Nat.mod_eq_of_lt (by omega)])
      have HC := Lib.hid (pairOffer_c HOK.out (by omega) (k % 2) (by omega) (k / 2 % 2) (by omega) (BitVec.ofNat 8 k) HK.out)
      rw [HU.out] at HC
      have HO3 := Lib.hid (HOK.out.offer (k % 2) (c := k / 2 % 2) (by omega) (BitVec.ofNat 8 k))
      have HG3 := Lib.hid (HGD.out.offer HOK.out (k % 2) (c := k / 2 % 2) (by omega) (BitVec.ofNat 8 k))
      have HM3 := Lib.hid (HSM.out.offer HOK.out (k % 2) (c := k / 2 % 2) (by omega) (BitVec.ofNat 8 k))
      clear HOK HGD HSM HK
      go_wp2_with fail
      refine HC.out.mono ?_
      rintro e w3 ⟨rfl, h⟩
      have H3 := Lib.hid h
      clear h HC
      generalize P.offer (k % 2) (k / 2 % 2) (BitVec.ofNat 8 k) = P1 at H3 HO3 HG3 HM3
      go_wp2_with fail
      go_roundw
      case rel => exact ⟨k + 1, P1, by omega, by go_num, Lib.hid (HO3.out.mono (by omega)), HG3, HM3, H3⟩
      case measure => simp [intOf]; omega
    · obtain rfl : k = 12 := by omega
      have e2 := E2.out.1
      have e2' := E2.out.2
      go_wp2_with fail
      go_loopw [38] (fun i wr => ∃ (k : Nat) (P : Pr), k ≤ m2 ∧ i = .int .i64 (k : Int) ∧ Hid (P.Ok (30000 + 2100 * k)) ∧ Hid P.Good ∧ Hid (P.Sum 12) ∧ Hid (Held (fun _ => False) (Old W) W [tPair x P] wr)) (fun i _ => m2 - (intOf i).toNat)
      case atStart => exact ⟨0, P, Nat.zero_le _, rfl, Lib.hid (HOK.out.mono (by decide)), HGD, HSM, HK⟩
      case round =>
        clear HOK HGD HSM HK e2 e2' hlt
        obtain ⟨k, P, hk, rfl, HOK, HGD, HSM, HK⟩ := hrel
        by_cases hlt : k < m2
        · go_wp2_with fail
          refine (pairTick_c HOK.out (by omega) 0 0 (by decide) (by decide) HK.out).mono ?_
          rintro e w4 ⟨rfl, h⟩
          have H4 := Lib.hid h
          have HO4 := Lib.hid ((HOK.out.tick 0 0).mono (show _ ≤ 30000 + 2100 * (k + 1) by omega))
          have HG4 := Lib.hid (HGD.out.tick HOK.out 0 0)
          have HM4 := Lib.hid (HSM.out.tick HOK.out 0 0)
          clear h HK HOK HGD HSM
          generalize P.tick 0 0 = P2 at H4 HO4 HG4 HM4
          go_wp2_with fail
          go_roundw
          case rel => first | exact ⟨k + 1, P2, by omega, by go_num, HO4, HG4, HM4, H4⟩ | ((repeat apply Exists.intro); exact ⟨⟨k + 1, P2, by omega, by go_num, HO4, HG4, HM4, H4⟩, rfl⟩)
          case measure => simp [intOf]; omega
        · obtain rfl : m2 = k := by omega
          have e3 := E3.out.1
          have e3' := E3.out.2
          have HP : Hid (∀ n, n ≤ 40 → (losts P n).Ok 200000 ∧ (losts P n).Good ∧ (losts P n).Sum 12 ∧ (13 < n → decide ((losts P n).l.prt.side.state = 2) = false ∧ decide ((losts P n).r.prt.side.state = 2) = false)) := Lib.hid fun n hn => ⟨(losts_ok HOK.out n).mono (by omega), losts_good HGD.out HOK.out n, losts_sum HSM.out HOK.out n, fun h => losts_down HSM.out HOK.out h⟩
          clear HOK HGD HSM
          go_wp2_with fail
          go_loopw [47] (fun i wr => ∃ n : Nat, n ≤ m3 ∧ i = .int .i64 (n : Int) ∧ Hid (Held (fun _ => False) (Old W) W [tPair x (losts P n)] wr)) (fun i _ => m3 - (intOf i).toNat)
          case atStart => exact ⟨0, Nat.zero_le _, rfl, HK⟩
          case round =>
            clear HK e3 e3' hlt
            obtain ⟨n, hn, rfl, HK⟩ := hrel
            by_cases hlt : n < m3
            · go_wp2_with fail
              refine (pairTick_c (HP.out n (by omega)).1 (by omega) 65535 0 (by decide) (by decide) HK.out).mono ?_
              rintro e w4 ⟨rfl, h⟩
              have H4 := Lib.hid (show Held (fun _ => False) (Old W) W [tPair x (losts P (n + 1))] w4 from h)
              clear h HK
              go_wp2_with fail
              go_roundw
              case rel => first | exact ⟨n + 1, by omega, by go_num, H4⟩ | ((repeat apply Exists.intro); exact ⟨⟨n + 1, by omega, by go_num, H4⟩, rfl⟩)
              case measure => simp [intOf]; omega
            · obtain rfl : m3 = n := by omega
              obtain ⟨q1, q2, q3, q4⟩ := HP.out m3 (by omega)
              have HQO := Lib.hid q1
              have HQG := Lib.hid q2
              have HQS := Lib.hid q3
              have HQD := Lib.hid q4
              clear q1 q2 q3 q4 HP hlt
              generalize losts P m3 = P3 at HK HQO HQG HQS HQD
              have HP : Hid (∀ n, n ≤ 250 → (serves P3 n).Ok 3000000 ∧ (222 ≤ n → Done (serves P3 n) ∧ (serves P3 n).Good)) := Lib.hid fun n hn => ⟨(serves_ok HQO.out n).mono (by omega), fun h => ⟨pair_done HQG.out HQO.out (by omega) HQS.out (by omega) (by omega), serves_good HQG.out HQO.out n⟩⟩
              clear HQO HQG HQS
              go_upto_region 20 with fail
              go_cut [69] from 52 to 70 (fun i wc => i = .bool false ∧ Hid (Held (fun _ => False) (Old W) W [tPair x P3] wc))
              case first =>
                by_cases hq : 13 < m3
                · obtain ⟨⟨pl, pr, fl, fr, ol, or', gl, gr⟩, h0⟩ := HK.out.pair'
                  obtain ⟨c0, c1, _, _, _, _, _, _⟩ := pair_cells (h0.blk 0 rfl)
                  dsimp only at c0 c1
                  have HU1 := Lib.hid (up_any h0 1 rfl)
                  have HU2 := Lib.hid (up_any h0 2 rfl)
                  rw [(HQD.out hq).1] at HU1
                  rw [(HQD.out hq).2] at HU2
                  clear h0
                  go_wp2_with fail
                  refine HU1.out.mono ?_
                  rintro e w' ⟨rfl, rfl⟩
                  go_wp2_with fail
                  refine HU2.out.mono ?_
                  rintro e w' ⟨rfl, rfl⟩
                  go_wp2_with fail
                  go_meet
                  exact ⟨rfl, HK⟩
                · go_wp2_with fail
                  go_meet
                  exact ⟨rfl, HK⟩
              case rest =>
                obtain ⟨rfl, HK2⟩ := hcut
                clear HK HQD
                go_wp2_with fail
                go_loopw [70] (fun i wr => ∃ n : Nat, n ≤ 250 ∧ i = .int .i64 (n : Int) ∧ Hid (Held (fun _ => False) (Old W) W [tPair x (serves P3 n)] wr)) (fun i _ => 250 - (intOf i).toNat)
                case atStart => exact ⟨0, Nat.zero_le _, rfl, HK2⟩
                case round =>
                  clear HK2
                  obtain ⟨n, hn, rfl, HK⟩ := hrel
                  by_cases hlt : n < 250
                  · have HON := Lib.hid (HP.out n (by omega)).1
                    go_wp2_with fail
                    refine (pairTick_c HON.out (by omega) 0 0 (by decide) (by decide) HK.out).mono ?_
                    rintro e w4 ⟨rfl, h⟩
                    have HT0 := Lib.hid h
                    have HO0 := Lib.hid (stage_ok (HON.out.tick 0 0))
                    have HSE := Lib.hid (serves_next P3 n)
                    clear h HK HON
                    generalize (serves P3 n).tick 0 0 = P0 at HT0 HO0 HSE
                    rw [← stage_0 P0] at HT0
                    have hb0 : bits .and .i64 0 1 = 0 := by decide
                    have hb1 : bits .and .i64 1 1 = 1 := by decide
                    have hb2 : bits .and .i64 2 1 = 0 := by decide
                    have hb3 : bits .and .i64 3 1 = 1 := by decide
                    go_wp2_with fail
                    go_loopw [74] (fun i wr => ∃ q : Nat, q ≤ 4 ∧ i = .int .i64 (q : Int) ∧ Hid (Held (fun _ => False) (Old W) W [tPair x (stage P0 q)] wr)) (fun i _ => 4 - (intOf i).toNat)
                    case atStart => exact ⟨0, by decide, rfl, HT0⟩
                    case round =>
                      clear HT0
                      obtain ⟨q, hq, rfl, HK⟩ := hrel
                      obtain rfl | rfl | rfl | rfl | rfl : q = 0 ∨ q = 1 ∨ q = 2 ∨ q = 3 ∨ q = 4 := by omega
                      · go_wp2_with fail
                        refine (pairTake_c HO0.out.1 (by omega) 0 (by decide) 0 (by decide) HK.out).mono ?_
                        rintro e w5 ⟨rfl, h⟩
                        rw [← stage_1] at h
                        have H5 := Lib.hid h
                        clear h HK
                        go_wp2_with fail
                        go_roundw
                        case rel => exact ⟨1, by decide, by go_num, H5⟩
                        case measure => simp [intOf]
                      · go_wp2_with fail
                        refine (pairTake_c HO0.out.2.1 (by omega) 1 (by decide) 0 (by decide) HK.out).mono ?_
                        rintro e w5 ⟨rfl, h⟩
                        rw [← stage_2] at h
                        have H5 := Lib.hid h
                        clear h HK
                        go_wp2_with fail
                        go_roundw
                        case rel => exact ⟨2, by decide, by go_num, H5⟩
                        case measure => simp [intOf]
                      · go_wp2_with fail
                        refine (pairTake_c HO0.out.2.2.1 (by omega) 0 (by decide) 1 (by decide) HK.out).mono ?_
                        rintro e w5 ⟨rfl, h⟩
                        rw [← stage_3] at h
                        have H5 := Lib.hid h
                        clear h HK
                        go_wp2_with fail
                        go_roundw
                        case rel => exact ⟨3, by decide, by go_num, H5⟩
                        case measure => simp [intOf]
                      · go_wp2_with fail
                        refine (pairTake_c HO0.out.2.2.2 (by omega) 1 (by decide) 1 (by decide) HK.out).mono ?_
                        rintro e w5 ⟨rfl, h⟩
                        rw [← stage_4] at h
                        have H5 := Lib.hid h
                        clear h HK
                        go_wp2_with fail
                        go_roundw
                        case rel => exact ⟨4, by decide, by go_num, H5⟩
                        case measure => simp [intOf]
                      · go_wp2_with fail
                        go_roundw
                        case rel => first | exact ⟨n + 1, by omega, by go_num, by rw [HSE.out]; exact HK⟩ | ((repeat apply Exists.intro); exact ⟨⟨n + 1, by omega, by go_num, by rw [HSE.out]; exact HK⟩, rfl⟩)
                        case measure => simp [intOf]; omega
                  · obtain rfl : n = 250 := by omega
                    have HDN := Lib.hid ((HP.out 250 (by decide)).2 (by decide))
                    have HON := Lib.hid (HP.out 250 (by decide)).1
                    clear HP hlt
                    obtain ⟨wr0, hwr⟩ : ∃ z, z = wr := ⟨_, rfl⟩
                    rw [← hwr] at HK ⊢
                    clear hwr
                    generalize serves P3 250 = Q at HK HDN HON
                    have HD := Lib.hid HDN.out.1
                    have HG := Lib.hid HDN.out.2
                    have HL := Lib.hid (And.intro (And.intro HON.out.l.o2 HON.out.l.g2) (And.intro HON.out.r.o2 HON.out.r.g2))
                    clear HDN
                    have hw1 : IntKind.i64.wrap 1 = 1 := by decide
                    have hw0 : IntKind.i64.wrap 0 = 0 := by decide
                    go_wp2_with fail
                    go_loopw [86] (fun i wr => ∃ q : Nat, q ≤ 2 ∧ i = .int .i64 (q : Int) ∧ ∃ m, wr = wr0.drewN m) (fun i _ => 2 - (intOf i).toNat)
                    case atStart => exact ⟨0, by decide, rfl, 0, rfl⟩
                    case round =>
                      obtain ⟨q, hq, rfl, m, rfl⟩ := hrel
                      obtain rfl | rfl | rfl : q = 0 ∨ q = 1 ∨ q = 2 := by omega
                      · go_wp2_with fail
                        go_loopw [89] (fun i wr => ∃ q : Nat, q ≤ 2 ∧ i = .int .i64 (q : Int) ∧ ∃ m, wr = wr0.drewN m) (fun i _ => 2 - (intOf i).toNat)
                        case atStart => exact ⟨0, by decide, rfl, _, rfl⟩
                        case round =>
                          obtain ⟨q, hq, rfl, m, rfl⟩ := hrel
                          obtain rfl | rfl | rfl : q = 0 ∨ q = 1 ∨ q = 2 := by omega
                          · obtain ⟨⟨pl, pr, fl, fr, ol, or', gl, gr⟩, h0⟩ := HK.out.pair'
                            obtain ⟨_, _, _, _, c4, c5, c6, c7⟩ := pair_cells (h0.blk 0 rfl)
                            dsimp only at c4 c5 c6 c7
                            obtain ⟨b4, o4, k4, va4, vc4, rfl, q4, d4, y4⟩ := h0.bb2 5 rfl HL.out.1.1 (c := 0) (by decide)
                            obtain ⟨b8, o8, k8, va8, vc8, rfl, q8, d8, y8⟩ := h0.bb2 8 rfl HL.out.2.2 (c := 0) (by decide)
                            rw [(HD.out.got 0 (by decide)).1] at d8 y8
                            have HE := Lib.hid (fun n => bytesEqual_refl (y4.drewN n) (y8.drewN n))
                            simp only [Nat.add_zero] at d4 d8
                            generalize Q.l.off.getD 0 [] = bs at d4 d8 HE
                            clear y4 y8 h0
                            go_wp2_with fail
                            go_quiet ((go_at_call 25; exact quiet_add_own (HE.out _)))
                            go_wp2_with fail
                            go_roundw
                            case rel => first | exact ⟨1, by decide, by go_num, _, rfl⟩ | ((repeat apply Exists.intro); exact ⟨⟨1, by decide, by go_num, _, rfl⟩, rfl⟩)
                            case measure => simp [intOf]
                          · obtain ⟨⟨pl, pr, fl, fr, ol, or', gl, gr⟩, h0⟩ := HK.out.pair'
                            obtain ⟨_, _, _, _, c4, c5, c6, c7⟩ := pair_cells (h0.blk 0 rfl)
                            dsimp only at c4 c5 c6 c7
                            obtain ⟨b4, o4, k4, va4, vc4, rfl, q4, d4, y4⟩ := h0.bb2 5 rfl HL.out.1.1 (c := 1) (by decide)
                            obtain ⟨b8, o8, k8, va8, vc8, rfl, q8, d8, y8⟩ := h0.bb2 8 rfl HL.out.2.2 (c := 1) (by decide)
                            rw [(HD.out.got 1 (by decide)).1] at d8 y8
                            have HE := Lib.hid (fun n => bytesEqual_refl (y4.drewN n) (y8.drewN n))
                            skip
                            generalize Q.l.off.getD 1 [] = bs at d4 d8 HE
                            clear y4 y8 h0
                            go_wp2_with fail
                            go_quiet ((go_at_call 25; exact quiet_add_own (HE.out _)))
                            go_wp2_with fail
                            go_roundw
                            case rel => first | exact ⟨2, by decide, by go_num, _, rfl⟩ | ((repeat apply Exists.intro); exact ⟨⟨2, by decide, by go_num, _, rfl⟩, rfl⟩)
                            case measure => simp [intOf]
                          · go_wp2_with fail
                            go_roundw
                            case rel => first | exact ⟨1, by decide, by go_num, _, rfl⟩ | ((repeat apply Exists.intro); exact ⟨⟨1, by decide, by go_num, _, rfl⟩, rfl⟩)
                            case measure => simp [intOf]
                      · go_wp2_with fail
                        go_loopw [89] (fun i wr => ∃ q : Nat, q ≤ 2 ∧ i = .int .i64 (q : Int) ∧ ∃ m, wr = wr0.drewN m) (fun i _ => 2 - (intOf i).toNat)
                        case atStart => exact ⟨0, by decide, rfl, _, rfl⟩
                        case round =>
                          obtain ⟨q, hq, rfl, m, rfl⟩ := hrel
                          obtain rfl | rfl | rfl : q = 0 ∨ q = 1 ∨ q = 2 := by omega
                          · obtain ⟨⟨pl, pr, fl, fr, ol, or', gl, gr⟩, h0⟩ := HK.out.pair'
                            obtain ⟨_, _, _, _, c4, c5, c6, c7⟩ := pair_cells (h0.blk 0 rfl)
                            dsimp only at c4 c5 c6 c7
                            obtain ⟨b4, o4, k4, va4, vc4, rfl, q4, d4, y4⟩ := h0.bb2 6 rfl HL.out.2.1 (c := 0) (by decide)
                            obtain ⟨b8, o8, k8, va8, vc8, rfl, q8, d8, y8⟩ := h0.bb2 7 rfl HL.out.1.2 (c := 0) (by decide)
                            rw [(HD.out.got 0 (by decide)).2] at d8 y8
                            have HE := Lib.hid (fun n => bytesEqual_refl (y4.drewN n) (y8.drewN n))
                            simp only [Nat.add_zero] at d4 d8
                            generalize Q.r.off.getD 0 [] = bs at d4 d8 HE
                            clear y4 y8 h0
                            go_wp2_with fail
                            go_quiet ((go_at_call 25; exact quiet_add_own (HE.out _)))
                            go_wp2_with fail
                            go_roundw
                            case rel => first | exact ⟨1, by decide, by go_num, _, rfl⟩ | ((repeat apply Exists.intro); exact ⟨⟨1, by decide, by go_num, _, rfl⟩, rfl⟩)
                            case measure => simp [intOf]
                          · obtain ⟨⟨pl, pr, fl, fr, ol, or', gl, gr⟩, h0⟩ := HK.out.pair'
                            obtain ⟨_, _, _, _, c4, c5, c6, c7⟩ := pair_cells (h0.blk 0 rfl)
                            dsimp only at c4 c5 c6 c7
                            obtain ⟨b4, o4, k4, va4, vc4, rfl, q4, d4, y4⟩ := h0.bb2 6 rfl HL.out.2.1 (c := 1) (by decide)
                            obtain ⟨b8, o8, k8, va8, vc8, rfl, q8, d8, y8⟩ := h0.bb2 7 rfl HL.out.1.2 (c := 1) (by decide)
                            rw [(HD.out.got 1 (by decide)).2] at d8 y8
                            have HE := Lib.hid (fun n => bytesEqual_refl (y4.drewN n) (y8.drewN n))
                            skip
                            generalize Q.r.off.getD 1 [] = bs at d4 d8 HE
                            clear y4 y8 h0
                            go_wp2_with fail
                            go_quiet ((go_at_call 25; exact quiet_add_own (HE.out _)))
                            go_wp2_with fail
                            go_roundw
                            case rel => first | exact ⟨2, by decide, by go_num, _, rfl⟩ | ((repeat apply Exists.intro); exact ⟨⟨2, by decide, by go_num, _, rfl⟩, rfl⟩)
                            case measure => simp [intOf]
                          · go_wp2_with fail
                            go_roundw
                            case rel => first | exact ⟨2, by decide, by go_num, _, rfl⟩ | ((repeat apply Exists.intro); exact ⟨⟨2, by decide, by go_num, _, rfl⟩, rfl⟩)
                            case measure => simp [intOf]
                      · go_wp2_with fail
                        refine (pairPrefix_c HON.out HG.out.front.1 HG.out.front.2 (HK.out.drewN m)).mono ?_
                        rintro e w6 ⟨rfl, nn, rfl⟩
                        go_wp2_with fail
                        go_ret
                        exact ⟨rfl, (HK.out.drewN _).below⟩
end Go.Proofs.Ytcocnfbhileheaa
