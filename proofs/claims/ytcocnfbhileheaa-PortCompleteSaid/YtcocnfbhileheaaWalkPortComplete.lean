/- The walk of PortComplete. -/
import Derived.Test.YtcocnfbhileheaaLvK
namespace Go.Proofs.Ytcocnfbhileheaa
open Go.RowKit

set_option maxRecDepth 100000 in
set_option maxHeartbeats 16000000 in
theorem walkPortComplete (W : World) (v0 v1 v2 v3 : Value) (o0 : IsInt .u8 v0) (o1 : IsInt .u8 v1) (o2 : IsBytes W v2) (o3 : IsSl r16 W v3) :
    Calls Try.prog 7 #[v0, v1, v2, v3] W fun e w' => e = .returned (.bool true) ∧ Below W.heap.size W w' := by
  obtain ⟨room, rfl, hr⟩ := int_u8' o0
  obtain ⟨window, rfl, hw⟩ := int_u8' o1
  obtain ⟨d, hd⟩ := o2
  have hz := byZ_of hd
  obtain ⟨da, dc, rfl⟩ := hz.slice
  have hmax : d.length ≤ maxLen := hz.1.cases.1
  obtain ⟨fs, hf⟩ := u16s_of o3
  obtain ⟨fa, fc, rfl, hfc, hfm⟩ := hf.shape
  have hmax2 : fs.length ≤ maxLen := Nat.le_trans hfc hfm
  have HS := Lib.hid (((Held.start0 (fun _ => False) (Old W) (fun _ f _ => f) W).addOld (T := tBy (.slice da d.length dc) d) (ByZ.mono hz fun k h => ⟨h, id⟩)).addOld (T := tRd eU16 (.slice fa fs.length fc) fs) (RdS.mono hf fun k h => ⟨h, id⟩))
  clear hz hd hf hfc hfm
  go_enter Try.func7, Try.ntmps7
  go_wp2_with fail
  refine (awake_any W).mono ?_
  rintro e w1 ⟨rfl, hb⟩
  have H1 := Lib.hid (HS.out.own hb); clear hb
  by_cases hbig : 40 < d.length
  · go_wp2_with fail
    go_ret
    exact ⟨rfl, H1.out.below⟩
  by_cases hbig2 : 60 < fs.length
  · go_wp2_with fail
    go_ret
    exact ⟨rfl, H1.out.below⟩
  go_wp2_with fail
  refine (connect_c room window hr hw H1.out).mono ?_
  rintro e w2 ⟨x, rfl, h⟩
  have H2 := Lib.hid (show Held (fun _ => False) (Old W) W [tPair x (newPr room window), tBy (.slice da d.length dc) d, tRd eU16 (.slice fa fs.length fc) fs] w2 from h)
  clear h H1 HS
  have hd40 : d.length ≤ 40 := by omega
  have hf60 : fs.length ≤ 60 := by omega
  clear hbig hbig2 hmax hmax2
  go_wp2_with fail
  go_loopw [40] (fun i wr => ∃ (k : Nat) (P : Pr), k ≤ d.length ∧ i = .int .i64 (k : Int) ∧ Hid (P.Ok (200 + 2100 * k)) ∧ Hid P.Good ∧ Hid (P.Sum k) ∧ Hid (Held (fun _ => False) (Old W) W [tPair x P, tBy (.slice da d.length dc) d, tRd eU16 (.slice fa fs.length fc) fs] wr)) (fun i _ => d.length - (intOf i).toNat)
  case atStart => exact ⟨0, _, Nat.zero_le _, rfl, Lib.hid (newPr_ok _ _), Lib.hid (newPr_good _ _), Lib.hid (newPr_sum _ _), H2⟩
  case round =>
    clear H2
    obtain ⟨k, P, hk, rfl, HOK, HGD, HSM, HK⟩ := hrel
    by_cases hlt : k < d.length
    · obtain ⟨ev, hev⟩ : ∃ x, d[k]? = some x := ⟨_, List.getElem?_eq_getElem hlt⟩
      obtain ⟨_, _, hby⟩ := HK.out.get 1 rfl
      obtain ⟨eb, eo, rfl, hc⟩ := By.at (show By wr (.slice da d.length dc) d from hby.1) hev
      clear hby hev
      go_wp2_with fail
      refine (show Calls Try.prog 20 #[.pointer (some ⟨x, 0, none⟩), .int .u8 (U ev)] wr _ from pairAct_c HOK.out (by omega) ev.toNat ev.isLt HK.out).mono ?_
      rintro e w3 ⟨rfl, h⟩
      have H3 := Lib.hid h
      have HO3 := Lib.hid (HOK.out.act ev.toNat)
      have HG3 := Lib.hid (HGD.out.act HOK.out ev.toNat)
      have HM3 := Lib.hid (HSM.out.act HOK.out ev.toNat)
      clear h HK hc HOK HGD HSM
      generalize P.act ev.toNat = P1 at H3 HO3 HG3 HM3
      by_cases hne : 0 < fs.length
      · have hk1 : k % fs.length < fs.length := Nat.mod_lt _ hne
        obtain ⟨lose, hlo⟩ : ∃ y, fs[k % fs.length]? = some y := ⟨_, List.getElem?_eq_getElem hk1⟩
        obtain ⟨_, _, hrd⟩ := H3.out.get 2 rfl
        obtain ⟨fb, fo, _, rfl, _, ⟨rfl, hl16⟩, q1⟩ := RdS.at (show RdS eU16 w3 _ (.slice fa fs.length fc) fs from hrd) (by decide) hlo
        have q1 := q1 0 _ rfl
        simp only [eU16, Nat.mul_one, Nat.add_zero] at q1
        clear hrd hlo
        generalize hm1 : k % fs.length = m1 at q1 hk1
        have hr1 : (k : Int).tmod (fs.length : Int) = (m1 : Int) := by rw [← hm1, Int.tmod_eq_emod_of_nonneg (by omega)]; rfl
        have hr3 : (k : Int) % (fs.length : Int) = (m1 : Int) := by rw [← hm1]; rfl
        clear hm1
        go_wp2_with fail
        refine (show Calls Try.prog 21 #[.pointer (some ⟨x, 0, none⟩), .int .u16 (lose : Int), .int .u16 0] w3 _ from pairTick_c HO3.out (by omega) lose 0 hl16 (by decide) H3.out).mono ?_
        rintro e w4 ⟨rfl, h⟩
        have H4 := Lib.hid h
        have HO4 := Lib.hid ((HO3.out.tick lose 0).mono (show _ ≤ 200 + 2100 * (k + 1) by omega))
        have HG4 := Lib.hid (HG3.out.tick HO3.out lose 0)
        have HM4 := Lib.hid (HM3.out.tick HO3.out lose 0)
        clear h H3 HO3 HG3 HM3
        generalize P1.tick lose 0 = P2 at H4 HO4 HG4 HM4
        go_wp2_with fail
        go_roundw
        case rel => exact ⟨k + 1, P2, by omega, by go_num, HO4, HG4, HM4, H4⟩
        case measure => simp [intOf]; omega
      · go_wp2_with fail
        refine (show Calls Try.prog 21 #[.pointer (some ⟨x, 0, none⟩), .int .u16 0, .int .u16 0] w3 _ from pairTick_c HO3.out (by omega) 0 0 (by decide) (by decide) H3.out).mono ?_
        rintro e w4 ⟨rfl, h⟩
        have H4 := Lib.hid h
        have HO4 := Lib.hid ((HO3.out.tick 0 0).mono (show _ ≤ 200 + 2100 * (k + 1) by omega))
        have HG4 := Lib.hid (HG3.out.tick HO3.out 0 0)
        have HM4 := Lib.hid (HM3.out.tick HO3.out 0 0)
        clear h H3 HO3 HG3 HM3
        generalize P1.tick 0 0 = P2 at H4 HO4 HG4 HM4
        go_wp2_with fail
        go_roundw
        case rel => exact ⟨k + 1, P2, by omega, by go_num, HO4, HG4, HM4, H4⟩
        case measure => simp [intOf]; omega
    · obtain rfl : d.length = k := by omega
      have HP : Hid (∀ n, n ≤ 860 → (serves P n).Ok 3000000 ∧ (17 * d.length + 18 ≤ n → Done (serves P n) ∧ (serves P n).Good)) := Lib.hid fun n hn => ⟨(serves_ok HOK.out n).mono (by omega), fun h => ⟨pair_done HGD.out HOK.out (by omega) HSM.out (by omega) h, serves_good HGD.out HOK.out n⟩⟩
      clear HOK HGD HSM
      go_wp2_with fail
      go_loopw [68] (fun i wr => ∃ n : Nat, n ≤ 40 + 20 * (d.length + 1) ∧ i = .int .i64 (n : Int) ∧ Hid (Held (fun _ => False) (Old W) W [tPair x (serves P n), tBy (.slice da d.length dc) d, tRd eU16 (.slice fa fs.length fc) fs] wr)) (fun i _ => 40 + 20 * (d.length + 1) - (intOf i).toNat)
      case atStart => exact ⟨0, Nat.zero_le _, rfl, HK⟩
      case round =>
        clear HK
        obtain ⟨n, hn, rfl, HK⟩ := hrel
        by_cases hlt : n < 40 + 20 * (d.length + 1)
        · have hlt2 : (n : Int) < 40 + 20 * ((d.length : Int) + 1) := by omega
          have HON := Lib.hid (HP.out n (by omega)).1
          go_wp2_with fail
          refine (pairTick_c HON.out (by omega) 0 0 (by decide) (by decide) HK.out).mono ?_
          rintro e w4 ⟨rfl, h⟩
          have HT0 := Lib.hid h
          have HO0 := Lib.hid (stage_ok (HON.out.tick 0 0))
          have HSE := Lib.hid (serves_next P n)
          clear h HK HON
          generalize (serves P n).tick 0 0 = P0 at HT0 HO0 HSE
          rw [← stage_0 P0] at HT0
          have hb0 : bits .and .i64 0 1 = 0 := by decide
          have hb1 : bits .and .i64 1 1 = 1 := by decide
          have hb2 : bits .and .i64 2 1 = 0 := by decide
          have hb3 : bits .and .i64 3 1 = 1 := by decide
          go_wp2_with fail
          go_loopw [72] (fun i wr => ∃ q : Nat, q ≤ 4 ∧ i = .int .i64 (q : Int) ∧ Hid (Held (fun _ => False) (Old W) W [tPair x (stage P0 q), tBy (.slice da d.length dc) d, tRd eU16 (.slice fa fs.length fc) fs] wr)) (fun i _ => 4 - (intOf i).toNat)
          case atStart => exact ⟨0, by decide, rfl, HT0⟩
          case round =>
            clear HT0
            obtain ⟨q, hq, rfl, HK⟩ := hrel
            obtain rfl | rfl | rfl | rfl | rfl : q = 0 ∨ q = 1 ∨ q = 2 ∨ q = 3 ∨ q = 4 := by omega
            · go_wp2_with fail
              refine (pairTake_c HO0.out.1 (by omega) 0 (by decide) 0 (by decide) HK.out).mono ?_
              rintro e w5 ⟨rfl, h⟩
              rw [← stage_1] at h
              have H5 := Lib.hid h
              clear h HK
              go_wp2_with fail
              go_roundw
              case rel => exact ⟨1, by decide, by go_num, H5⟩
              case measure => simp [intOf]
            · go_wp2_with fail
              refine (pairTake_c HO0.out.2.1 (by omega) 1 (by decide) 0 (by decide) HK.out).mono ?_
              rintro e w5 ⟨rfl, h⟩
              rw [← stage_2] at h
              have H5 := Lib.hid h
              clear h HK
              go_wp2_with fail
              go_roundw
              case rel => exact ⟨2, by decide, by go_num, H5⟩
              case measure => simp [intOf]
            · go_wp2_with fail
              refine (pairTake_c HO0.out.2.2.1 (by omega) 0 (by decide) 1 (by decide) HK.out).mono ?_
              rintro e w5 ⟨rfl, h⟩
              rw [← stage_3] at h
              have H5 := Lib.hid h
              clear h HK
              go_wp2_with fail
              go_roundw
              case rel => exact ⟨3, by decide, by go_num, H5⟩
              case measure => simp [intOf]
            · go_wp2_with fail
              refine (pairTake_c HO0.out.2.2.2 (by omega) 1 (by decide) 1 (by decide) HK.out).mono ?_
              rintro e w5 ⟨rfl, h⟩
              rw [← stage_4] at h
              have H5 := Lib.hid h
              clear h HK
              go_wp2_with fail
              go_roundw
              case rel => exact ⟨4, by decide, by go_num, H5⟩
              case measure => simp [intOf]
            · go_wp2_with fail
              go_roundw
              case rel => exact ⟨n + 1, by omega, by go_num, by rw [HSE.out]; exact HK⟩
              case measure => simp [intOf]; omega
        · obtain rfl : n = 40 + 20 * (d.length + 1) := by omega
          have hlt2 : ¬ (((40 + 20 * (d.length + 1) : Nat)) : Int) < 40 + 20 * ((d.length : Int) + 1) := by omega
          have HDN := Lib.hid ((HP.out _ (show 40 + 20 * (d.length + 1) ≤ 860 by omega)).2 (by omega))
          have HON := Lib.hid (HP.out _ (show 40 + 20 * (d.length + 1) ≤ 860 by omega)).1
          clear HP hlt
          generalize serves P (40 + 20 * (d.length + 1)) = Q at HK HDN HON
          have HD := Lib.hid HDN.out.1
          have HG := Lib.hid HDN.out.2
          have HL := Lib.hid (And.intro (And.intro HON.out.l.o2 HON.out.l.g2) (And.intro HON.out.r.o2 HON.out.r.g2))
          clear HDN
          have hw1 : IntKind.i64.wrap 1 = 1 := by decide
          have hw0 : IntKind.i64.wrap 0 = 0 := by decide
          go_wp2_with fail
          go_loopw [84] (fun i wr => ∃ q : Nat, q ≤ 2 ∧ i = .int .i64 (q : Int) ∧ Hid (Held (fun _ => False) (Old W) W [tPair x Q, tBy (.slice da d.length dc) d, tRd eU16 (.slice fa fs.length fc) fs] wr)) (fun i _ => 2 - (intOf i).toNat)
          case atStart => exact ⟨0, by decide, rfl, HK⟩
          case round =>
            clear HK hlt2
            obtain ⟨q, hq, rfl, HK⟩ := hrel
            obtain rfl | rfl | rfl : q = 0 ∨ q = 1 ∨ q = 2 := by omega
            · go_wp2_with fail
              go_loopw [87] (fun i wr => ∃ q : Nat, q ≤ 2 ∧ i = .int .i64 (q : Int) ∧ Hid (Held (fun _ => False) (Old W) W [tPair x Q, tBy (.slice da d.length dc) d, tRd eU16 (.slice fa fs.length fc) fs] wr)) (fun i _ => 2 - (intOf i).toNat)
              case atStart => exact ⟨0, by decide, rfl, HK⟩
              case round =>
                clear HK
                obtain ⟨q, hq, rfl, HK⟩ := hrel
                obtain rfl | rfl | rfl : q = 0 ∨ q = 1 ∨ q = 2 := by omega
                · obtain ⟨⟨pl, pr, fl, fr, ol, or', gl, gr⟩, h0⟩ := HK.out.pair'
                  obtain ⟨c0, c1, _, _, _, _, _, _⟩ := pair_cells (h0.blk 0 rfl)
                  dsimp only at c0 c1
                  have H0 := Lib.hid h0
                  obtain ⟨bs, hbs⟩ : ∃ bs, Q.l.off.getD 0 [] = bs := ⟨_, rfl⟩
                  obtain ⟨bt, hbt⟩ : ∃ bt, Q.r.off.getD 0 [] = bt := ⟨_, rfl⟩
                  have HBS := Lib.hid hbs
                  have HBT := Lib.hid hbt
                  have HC := counts_l H0.out HON.out (by omega) HD.out (c := 0) (by decide)
                  rw [hbs, hbt] at HC
                  have HC := Lib.hid HC
                  have hself : ((bs.length : Int) != (bs.length : Int)) = false := by simp
                  clear h0 HK hbs hbt
                  go_wp2_with fail
                  refine HC.out.mono ?_
                  rintro e w6 ⟨rfl, h⟩
                  have H6 := Lib.hid h
                  clear h H0 c0 c1
                  obtain ⟨c0, c1, _, _, _, _, _, _⟩ := pair_cells (H6.out.blk 0 rfl)
                  dsimp only at c0 c1
                  go_wp2_with fail
                  have HC2 := counts_r H6.out HON.out (by omega) HD.out (c := 0) (by decide)
                  rw [HBS.out, HBT.out] at HC2
                  refine HC2.mono ?_
                  clear HC2
                  rintro e w7 ⟨rfl, h⟩
                  have H7 := Lib.hid h
                  clear h H6 c0 c1 HC
                  obtain ⟨_, _, _, _, c4, c5, c6, c7⟩ := pair_cells (H7.out.blk 0 rfl)
                  dsimp only at c4 c5 c6 c7
                  obtain ⟨b4, o4, k4, va4, vc4, rfl, q4, d4, y4⟩ := H7.out.bb2 5 rfl HL.out.1.1 (c := 0) (by decide)
                  obtain ⟨b8, o8, k8, va8, vc8, rfl, q8, d8, y8⟩ := H7.out.bb2 8 rfl HL.out.2.2 (c := 0) (by decide)
                  rw [(HD.out.got 0 (by decide)).1, HBS.out] at d8 y8
                  rw [HBS.out] at d4 y4
                  have HE := Lib.hid (fun n => bytesEqual_refl (y4.drewN n) (y8.drewN n))
                  simp only [Nat.add_zero] at d4 d8
                  clear y4 y8
                  go_wp2_with fail
                  go_quiet ((go_at_call 25; exact Calls.quiet_of_same ((HE.out _).mono fun e w' h => ⟨h.1, h.2.symm⟩)))
                  go_wp2_with fail
                  go_roundw
                  case rel => first | exact ⟨1, by decide, by go_num, Lib.hid (H7.out.pair_shut.drewN _)⟩ | ((repeat apply Exists.intro); exact ⟨⟨1, by decide, by go_num, Lib.hid (H7.out.pair_shut.drewN _)⟩, rfl⟩)
                  case measure => simp [intOf]
                · obtain ⟨⟨pl, pr, fl, fr, ol, or', gl, gr⟩, h0⟩ := HK.out.pair'
                  obtain ⟨c0, c1, _, _, _, _, _, _⟩ := pair_cells (h0.blk 0 rfl)
                  dsimp only at c0 c1
                  have H0 := Lib.hid h0
                  obtain ⟨bs, hbs⟩ : ∃ bs, Q.l.off.getD 1 [] = bs := ⟨_, rfl⟩
                  obtain ⟨bt, hbt⟩ : ∃ bt, Q.r.off.getD 1 [] = bt := ⟨_, rfl⟩
                  have HBS := Lib.hid hbs
                  have HBT := Lib.hid hbt
                  have HC := counts_l H0.out HON.out (by omega) HD.out (c := 1) (by decide)
                  rw [hbs, hbt] at HC
                  have HC := Lib.hid HC
                  have hself : ((bs.length : Int) != (bs.length : Int)) = false := by simp
                  clear h0 HK hbs hbt
                  go_wp2_with fail
                  refine HC.out.mono ?_
                  rintro e w6 ⟨rfl, h⟩
                  have H6 := Lib.hid h
                  clear h H0 c0 c1
                  obtain ⟨c0, c1, _, _, _, _, _, _⟩ := pair_cells (H6.out.blk 0 rfl)
                  dsimp only at c0 c1
                  go_wp2_with fail
                  have HC2 := counts_r H6.out HON.out (by omega) HD.out (c := 1) (by decide)
                  rw [HBS.out, HBT.out] at HC2
                  refine HC2.mono ?_
                  clear HC2
                  rintro e w7 ⟨rfl, h⟩
                  have H7 := Lib.hid h
                  clear h H6 c0 c1 HC
                  obtain ⟨_, _, _, _, c4, c5, c6, c7⟩ := pair_cells (H7.out.blk 0 rfl)
                  dsimp only at c4 c5 c6 c7
                  obtain ⟨b4, o4, k4, va4, vc4, rfl, q4, d4, y4⟩ := H7.out.bb2 5 rfl HL.out.1.1 (c := 1) (by decide)
                  obtain ⟨b8, o8, k8, va8, vc8, rfl, q8, d8, y8⟩ := H7.out.bb2 8 rfl HL.out.2.2 (c := 1) (by decide)
                  rw [(HD.out.got 1 (by decide)).1, HBS.out] at d8 y8
                  rw [HBS.out] at d4 y4
                  have HE := Lib.hid (fun n => bytesEqual_refl (y4.drewN n) (y8.drewN n))
                  skip
                  clear y4 y8
                  go_wp2_with fail
                  go_quiet ((go_at_call 25; exact Calls.quiet_of_same ((HE.out _).mono fun e w' h => ⟨h.1, h.2.symm⟩)))
                  go_wp2_with fail
                  go_roundw
                  case rel => first | exact ⟨2, by decide, by go_num, Lib.hid (H7.out.pair_shut.drewN _)⟩ | ((repeat apply Exists.intro); exact ⟨⟨2, by decide, by go_num, Lib.hid (H7.out.pair_shut.drewN _)⟩, rfl⟩)
                  case measure => simp [intOf]
                · go_wp2_with fail
                  go_roundw
                  case rel => first | exact ⟨1, by decide, by go_num, HK⟩ | ((repeat apply Exists.intro); exact ⟨⟨1, by decide, by go_num, HK⟩, rfl⟩)
                  case measure => simp [intOf]
            · go_wp2_with fail
              go_loopw [87] (fun i wr => ∃ q : Nat, q ≤ 2 ∧ i = .int .i64 (q : Int) ∧ Hid (Held (fun _ => False) (Old W) W [tPair x Q, tBy (.slice da d.length dc) d, tRd eU16 (.slice fa fs.length fc) fs] wr)) (fun i _ => 2 - (intOf i).toNat)
              case atStart => exact ⟨0, by decide, rfl, HK⟩
              case round =>
                clear HK
                obtain ⟨q, hq, rfl, HK⟩ := hrel
                obtain rfl | rfl | rfl : q = 0 ∨ q = 1 ∨ q = 2 := by omega
                · obtain ⟨⟨pl, pr, fl, fr, ol, or', gl, gr⟩, h0⟩ := HK.out.pair'
                  obtain ⟨c0, c1, _, _, _, _, _, _⟩ := pair_cells (h0.blk 0 rfl)
                  dsimp only at c0 c1
                  have H0 := Lib.hid h0
                  obtain ⟨bs, hbs⟩ : ∃ bs, Q.r.off.getD 0 [] = bs := ⟨_, rfl⟩
                  obtain ⟨bt, hbt⟩ : ∃ bt, Q.l.off.getD 0 [] = bt := ⟨_, rfl⟩
                  have HBS := Lib.hid hbs
                  have HBT := Lib.hid hbt
                  have HC := counts_r H0.out HON.out (by omega) HD.out (c := 0) (by decide)
                  rw [hbs, hbt] at HC
                  have HC := Lib.hid HC
                  have hself : ((bs.length : Int) != (bs.length : Int)) = false := by simp
                  clear h0 HK hbs hbt
                  go_wp2_with fail
                  refine HC.out.mono ?_
                  rintro e w6 ⟨rfl, h⟩
                  have H6 := Lib.hid h
                  clear h H0 c0 c1
                  obtain ⟨c0, c1, _, _, _, _, _, _⟩ := pair_cells (H6.out.blk 0 rfl)
                  dsimp only at c0 c1
                  go_wp2_with fail
                  have HC2 := counts_l H6.out HON.out (by omega) HD.out (c := 0) (by decide)
                  rw [HBS.out, HBT.out] at HC2
                  refine HC2.mono ?_
                  clear HC2
                  rintro e w7 ⟨rfl, h⟩
                  have H7 := Lib.hid h
                  clear h H6 c0 c1 HC
                  obtain ⟨_, _, _, _, c4, c5, c6, c7⟩ := pair_cells (H7.out.blk 0 rfl)
                  dsimp only at c4 c5 c6 c7
                  obtain ⟨b4, o4, k4, va4, vc4, rfl, q4, d4, y4⟩ := H7.out.bb2 6 rfl HL.out.2.1 (c := 0) (by decide)
                  obtain ⟨b8, o8, k8, va8, vc8, rfl, q8, d8, y8⟩ := H7.out.bb2 7 rfl HL.out.1.2 (c := 0) (by decide)
                  rw [(HD.out.got 0 (by decide)).2, HBS.out] at d8 y8
                  rw [HBS.out] at d4 y4
                  have HE := Lib.hid (fun n => bytesEqual_refl (y4.drewN n) (y8.drewN n))
                  simp only [Nat.add_zero] at d4 d8
                  clear y4 y8
                  go_wp2_with fail
                  go_quiet ((go_at_call 25; exact Calls.quiet_of_same ((HE.out _).mono fun e w' h => ⟨h.1, h.2.symm⟩)))
                  go_wp2_with fail
                  go_roundw
                  case rel => first | exact ⟨1, by decide, by go_num, Lib.hid (H7.out.pair_shut.drewN _)⟩ | ((repeat apply Exists.intro); exact ⟨⟨1, by decide, by go_num, Lib.hid (H7.out.pair_shut.drewN _)⟩, rfl⟩)
                  case measure => simp [intOf]
                · obtain ⟨⟨pl, pr, fl, fr, ol, or', gl, gr⟩, h0⟩ := HK.out.pair'
                  obtain ⟨c0, c1, _, _, _, _, _, _⟩ := pair_cells (h0.blk 0 rfl)
                  dsimp only at c0 c1
                  have H0 := Lib.hid h0
                  obtain ⟨bs, hbs⟩ : ∃ bs, Q.r.off.getD 1 [] = bs := ⟨_, rfl⟩
                  obtain ⟨bt, hbt⟩ : ∃ bt, Q.l.off.getD 1 [] = bt := ⟨_, rfl⟩
                  have HBS := Lib.hid hbs
                  have HBT := Lib.hid hbt
                  have HC := counts_r H0.out HON.out (by omega) HD.out (c := 1) (by decide)
                  rw [hbs, hbt] at HC
                  have HC := Lib.hid HC
                  have hself : ((bs.length : Int) != (bs.length : Int)) = false := by simp
                  clear h0 HK hbs hbt
                  go_wp2_with fail
                  refine HC.out.mono ?_
                  rintro e w6 ⟨rfl, h⟩
                  have H6 := Lib.hid h
                  clear h H0 c0 c1
                  obtain ⟨c0, c1, _, _, _, _, _, _⟩ := pair_cells (H6.out.blk 0 rfl)
                  dsimp only at c0 c1
                  go_wp2_with fail
                  have HC2 := counts_l H6.out HON.out (by omega) HD.out (c := 1) (by decide)
                  rw [HBS.out, HBT.out] at HC2
                  refine HC2.mono ?_
                  clear HC2
                  rintro e w7 ⟨rfl, h⟩
                  have H7 := Lib.hid h
                  clear h H6 c0 c1 HC
                  obtain ⟨_, _, _, _, c4, c5, c6, c7⟩ := pair_cells (H7.out.blk 0 rfl)
                  dsimp only at c4 c5 c6 c7
                  obtain ⟨b4, o4, k4, va4, vc4, rfl, q4, d4, y4⟩ := H7.out.bb2 6 rfl HL.out.2.1 (c := 1) (by decide)
                  obtain ⟨b8, o8, k8, va8, vc8, rfl, q8, d8, y8⟩ := H7.out.bb2 7 rfl HL.out.1.2 (c := 1) (by decide)
                  rw [(HD.out.got 1 (by decide)).2, HBS.out] at d8 y8
                  rw [HBS.out] at d4 y4
                  have HE := Lib.hid (fun n => bytesEqual_refl (y4.drewN n) (y8.drewN n))
                  skip
                  clear y4 y8
                  go_wp2_with fail
                  go_quiet ((go_at_call 25; exact Calls.quiet_of_same ((HE.out _).mono fun e w' h => ⟨h.1, h.2.symm⟩)))
                  go_wp2_with fail
                  go_roundw
                  case rel => first | exact ⟨2, by decide, by go_num, Lib.hid (H7.out.pair_shut.drewN _)⟩ | ((repeat apply Exists.intro); exact ⟨⟨2, by decide, by go_num, Lib.hid (H7.out.pair_shut.drewN _)⟩, rfl⟩)
                  case measure => simp [intOf]
                · go_wp2_with fail
                  go_roundw
                  case rel => first | exact ⟨2, by decide, by go_num, HK⟩ | ((repeat apply Exists.intro); exact ⟨⟨2, by decide, by go_num, HK⟩, rfl⟩)
                  case measure => simp [intOf]
            · go_wp2_with fail
              refine (pairPrefix_c HON.out HG.out.front.1 HG.out.front.2 HK.out).mono ?_
              rintro e w6 ⟨rfl, nn, rfl⟩
              have H6 := Lib.hid (HK.out.drewN nn)
              clear HK
              generalize wr.drewN nn = w7 at H6 ⊢
              obtain ⟨⟨pl, pr, fl, fr, ol, or', gl, gr⟩, h0⟩ := H6.out.pair'
              obtain ⟨c0, c1, _, _, _, _, _, _⟩ := pair_cells (h0.blk 0 rfl)
              dsimp only at c0 c1
              have HU1 := Lib.hid (up_any h0 1 rfl)
              have HU2 := Lib.hid (up_any h0 2 rfl)
              rw [show decide (Q.l.prt.side.state = 2) = true from decide_eq_true HD.out.up.1] at HU1
              rw [show decide (Q.r.prt.side.state = 2) = true from decide_eq_true HD.out.up.2] at HU2
              clear h0
              go_wp2_with fail
              refine HU1.out.mono ?_
              rintro e w' ⟨rfl, rfl⟩
              go_wp2_with fail
              refine HU2.out.mono ?_
              rintro e w' ⟨rfl, rfl⟩
              go_wp2_with fail
              go_ret
              exact ⟨rfl, H6.out.below⟩
end Go.Proofs.Ytcocnfbhileheaa
