/- The walk of PortRestarts. -/
import Derived.Test.YtcocnfbhileheaaLvK
import Derived.Test.YtcocnfbhileheaaLvN
namespace Go.Proofs.Ytcocnfbhileheaa
open Go.RowKit

section
variable {F Z : BS} {W w : World} {ts : List Th} {x N : Nat} {P : Pr} {v : PP}
theorem pair_again_l (h : Held F Z W (pairThs x P v ++ ts) w) (ok : P.Ok N) {i : Nat} (h1 : P.l.prt.inc < i) (h2 : i ≤ 1000) :
    Calls Try.prog 27 #[.pointer (some ⟨v.pl, 0, none⟩), .int .i64 (i : Int)] w fun e w' => e = .returned (.int .i64 0) ∧ Held F Z W (tPair x (P.again 0 i) :: ts) w' :=
  (restart_yes h 1 rfl ok.l.ok i h1 (by omega)).mono fun _ _ ⟨he, hh⟩ => ⟨he, Held.pair_shut (P := P.again 0 i) (v := v) hh⟩
theorem pair_again_r (h : Held F Z W (pairThs x P v ++ ts) w) (ok : P.Ok N) {i : Nat} (h1 : P.r.prt.inc < i) (h2 : i ≤ 1000) :
    Calls Try.prog 27 #[.pointer (some ⟨v.pr, 0, none⟩), .int .i64 (i : Int)] w fun e w' => e = .returned (.int .i64 0) ∧ Held F Z W (tPair x (P.again 1 i) :: ts) w' :=
  (restart_yes h 2 rfl ok.r.ok i h1 (by omega)).mono fun _ _ ⟨he, hh⟩ => ⟨he, Held.pair_shut (P := P.again 1 i) (v := v) hh⟩
end
def Pr.noOff (P : Pr) : Pr := ⟨{ P.l with off := [[], []] }, { P.r with off := [[], []] }⟩
set_option maxRecDepth 100000 in
set_option maxHeartbeats 16000000 in
theorem walkPortRestarts (W : World) (v0 v1 v2 v3 : Value) (o0 : IsInt .u8 v0) (o1 : IsInt .u8 v1) (o2 : IsBytes W v2) (o3 : IsSl r16 W v3) :
    Calls Try.prog 9 #[v0, v1, v2, v3] W fun e w' => e = .returned (.bool true) ∧ Below W.heap.size W w' := by
  obtain ⟨room, rfl, hr⟩ := int_u8' o0
  obtain ⟨window, rfl, hw⟩ := int_u8' o1
  obtain ⟨d, hd⟩ := o2
  have hz := byZ_of hd
  obtain ⟨da, dc, rfl⟩ := hz.slice
  have hmax : d.length ≤ maxLen := hz.1.cases.1
  obtain ⟨fs, hf⟩ := u16s_of o3
  obtain ⟨fa, fc, rfl, hfc, hfm⟩ := hf.shape
  have hmax2 : fs.length ≤ maxLen := Nat.le_trans hfc hfm
  have HS := Lib.hid (((Held.start0 (fun _ => False) (Old W) (fun _ f _ => f) W).addOld (T := tBy (.slice da d.length dc) d) (ByZ.mono hz fun k h => ⟨h, id⟩)).addOld (T := tRd eU16 (.slice fa fs.length fc) fs) (RdS.mono hf fun k h => ⟨h, id⟩))
  clear hz hd hf hfc hfm
  go_enter Try.func9, Try.ntmps9
  go_wp2_with fail
  refine (awake_any W).mono ?_
  rintro e w1 ⟨rfl, hb⟩
  have H1 := Lib.hid (HS.out.own hb); clear hb
  by_cases hbig : 40 < d.length
  · go_wp2_with fail
    go_ret
    exact ⟨rfl, H1.out.below⟩
  by_cases hbig2 : 60 < fs.length
  · go_wp2_with fail
    go_ret
    exact ⟨rfl, H1.out.below⟩
  go_wp2_with fail
  refine (connect_c room window hr hw H1.out).mono ?_
  rintro e w2 ⟨x, rfl, h⟩
  have H2 := Lib.hid (show Held (fun _ => False) (Old W) W [tPair x (newPr room window), tBy (.slice da d.length dc) d, tRd eU16 (.slice fa fs.length fc) fs] w2 from h)
  clear h H1 HS
  have hd40 : d.length ≤ 40 := by omega
  have hf60 : fs.length ≤ 60 := by omega
  clear hbig hbig2 hmax hmax2
  go_wp2_with fail
  go_loopw [10, 37] (fun nv i wr => ∃ (k nx : Nat) (P : Pr), k ≤ d.length ∧ nx ≤ 30 + k ∧ nv = .int .i64 (nx : Int) ∧ i = .int .i64 (k : Int) ∧ Hid (P.Ok (200 + 2100 * k)) ∧ Hid (P.Mess k nx) ∧ Hid (Held (fun _ => False) (Old W) W [tPair x P, tBy (.slice da d.length dc) d, tRd eU16 (.slice fa fs.length fc) fs] wr)) (fun _ i _ => d.length - (intOf i).toNat)
  case atStart => exact ⟨0, 30, _, Nat.zero_le _, by decide, rfl, rfl, Lib.hid (newPr_ok _ _), Lib.hid (newPr_mess _ _), H2⟩
  case round =>
    clear H2
    obtain ⟨k, nx, P, hk, hnx, rfl, rfl, HOK, HMS, HK⟩ := hrel
    by_cases hlt : k < d.length
    · obtain ⟨ev, hev⟩ : ∃ x, d[k]? = some x := ⟨_, List.getElem?_eq_getElem hlt⟩
      obtain ⟨_, _, hby⟩ := HK.out.get 1 rfl
      obtain ⟨eb, eo, rfl, hc⟩ := By.at (show By wr (.slice da d.length dc) d from hby.1) hev
      clear hby hev
      have hev : ev.toNat < 256 := ev.isLt
      have hUe : U ev = (ev.toNat : Int) := rfl
      by_cases hge : 240 ≤ ev.toNat
      · have hge2 : (240 : Int) ≤ U ev := by rw [hUe]; omega
        have hu0 : (0 : Int) ≤ U ev := by rw [hUe]; omega
        have hu1 : U ev ≤ (255 : Int) := by rw [hUe]; omega
        have hb1 := and1_i64 ev.toNat hev
        rw [← hUe] at hb1
        clear hUe
        obtain hs | hs : ev.toNat % 2 = 0 ∨ ev.toNat % 2 = 1 := by omega
        · rw [hs] at hb1
          have hb1 : bits .and .i64 (U ev) 1 = 0 := hb1
          have hb2 : bits .and .i64 (ev.toNat : Int) 1 = 0 := hb1
          obtain ⟨⟨pl, pr, fl, fr, ol, or', gl, gr⟩, h0⟩ := HK.out.pair'
          obtain ⟨c0, c1, _, _, _, _, _, _⟩ := pair_cells (h0.blk 0 rfl)
          dsimp only at c0 c1
          have HR := Lib.hid (pair_again_l h0 HOK.out (i := nx) HMS.out.nl (by omega))
          clear h0 hs
          go_wp2_with fail
          refine HR.out.mono ?_
          rintro e w3 ⟨rfl, h⟩
          have H3 := Lib.hid h
          have HO3 := Lib.hid (HOK.out.again (by omega) 0 (i := nx) (by have := HMS.out.nl; omega) (by omega))
          have HM3 := Lib.hid ((HMS.out.again 0).mono (show k ≤ k + 1 by omega) (Nat.le_refl _))
          clear h HR HK HOK HMS hc c0 c1 hb1 hb2 hge hge2 hu0 hu1
          generalize P.again 0 nx = P1 at H3 HO3 HM3
          by_cases hne : 0 < fs.length
          · have hk1 : k % fs.length < fs.length := Nat.mod_lt _ hne
            obtain ⟨lose, hlo⟩ : ∃ y, fs[k % fs.length]? = some y := ⟨_, List.getElem?_eq_getElem hk1⟩
            obtain ⟨_, _, hrd⟩ := H3.out.get 2 rfl
            obtain ⟨fb, fo, _, rfl, _, ⟨rfl, hl16⟩, q1⟩ := RdS.at (show RdS eU16 w3 _ (.slice fa fs.length fc) fs from hrd) (by decide) hlo
            have q1 := q1 0 _ rfl
            simp only [eU16, Nat.mul_one, Nat.add_zero] at q1
            clear hrd hlo
            generalize hm1 : k % fs.length = m1 at q1 hk1
            have hr1 : (k : Int).tmod (fs.length : Int) = (m1 : Int) := by rw [← hm1, Int.tmod_eq_emod_of_nonneg (by omega)]; rfl
            have hr3 : (k : Int) % (fs.length : Int) = (m1 : Int) := by rw [← hm1]; rfl
            clear hm1
            go_wp2_with fail
            refine (show Calls Try.prog 21 #[.pointer (some ⟨x, 0, none⟩), .int .u16 (lose : Int), .int .u16 0] w3 _ from pairTick_c HO3.out (by omega) lose 0 hl16 (by decide) H3.out).mono ?_
            rintro e w4 ⟨rfl, h⟩
            have HO4 := Lib.hid ((HO3.out.tick lose 0).mono (show _ ≤ 200 + 2100 * (k + 1) by omega))
            have HM4 := Lib.hid (HM3.out.tick HO3.out lose 0)
            clear H3 HO3 HM3
            generalize P1.tick lose 0 = P2 at h HO4 HM4
            have H4 := Lib.hid h
            obtain ⟨⟨pl, pr, fl, fr, ol, or', gl, gr⟩, h0⟩ := h.pair'
            obtain ⟨c0, c1, _, _, _, _, _, _⟩ := pair_cells (h0.blk 0 rfl)
            dsimp only at c0 c1
            have HV1 := Lib.hid (overflows_any h0 1 rfl)
            have HV2 := Lib.hid (overflows_any h0 2 rfl)
            rw [HM4.out.over.1] at HV1
            rw [HM4.out.over.2] at HV2
            clear h0 h
            go_wp2_with fail
            refine HV1.out.mono ?_
            rintro e w' ⟨rfl, rfl⟩
            go_wp2_with fail
            refine HV2.out.mono ?_
            rintro e w' ⟨rfl, rfl⟩
            go_wp2_with fail
            go_roundw
            case rel => first | exact ⟨k + 1, nx + 1, P2, by omega, by omega, by go_num, by go_num, HO4, HM4, H4⟩ | ((repeat apply Exists.intro); exact ⟨⟨k + 1, nx + 1, P2, by omega, by omega, by go_num, by go_num, HO4, HM4, H4⟩, rfl⟩)
            case measure => simp [intOf]; omega
          · go_wp2_with fail
            refine (show Calls Try.prog 21 #[.pointer (some ⟨x, 0, none⟩), .int .u16 0, .int .u16 0] w3 _ from pairTick_c HO3.out (by omega) 0 0 (by decide) (by decide) H3.out).mono ?_
            rintro e w4 ⟨rfl, h⟩
            have HO4 := Lib.hid ((HO3.out.tick 0 0).mono (show _ ≤ 200 + 2100 * (k + 1) by omega))
            have HM4 := Lib.hid (HM3.out.tick HO3.out 0 0)
            clear H3 HO3 HM3
            generalize P1.tick 0 0 = P2 at h HO4 HM4
            have H4 := Lib.hid h
            obtain ⟨⟨pl, pr, fl, fr, ol, or', gl, gr⟩, h0⟩ := h.pair'
            obtain ⟨c0, c1, _, _, _, _, _, _⟩ := pair_cells (h0.blk 0 rfl)
            dsimp only at c0 c1
            have HV1 := Lib.hid (overflows_any h0 1 rfl)
            have HV2 := Lib.hid (overflows_any h0 2 rfl)
            rw [HM4.out.over.1] at HV1
            rw [HM4.out.over.2] at HV2
            clear h0 h
            go_wp2_with fail
            refine HV1.out.mono ?_
            rintro e w' ⟨rfl, rfl⟩
            go_wp2_with fail
            refine HV2.out.mono ?_
            rintro e w' ⟨rfl, rfl⟩
            go_wp2_with fail
            go_roundw
            case rel => first | exact ⟨k + 1, nx + 1, P2, by omega, by omega, by go_num, by go_num, HO4, HM4, H4⟩ | ((repeat apply Exists.intro); exact ⟨⟨k + 1, nx + 1, P2, by omega, by omega, by go_num, by go_num, HO4, HM4, H4⟩, rfl⟩)
            case measure => simp [intOf]; omega
        · rw [hs] at hb1
          have hb1 : bits .and .i64 (U ev) 1 = 1 := hb1
          have hb2 : bits .and .i64 (ev.toNat : Int) 1 = 1 := hb1
          obtain ⟨⟨pl, pr, fl, fr, ol, or', gl, gr⟩, h0⟩ := HK.out.pair'
          obtain ⟨c0, c1, _, _, _, _, _, _⟩ := pair_cells (h0.blk 0 rfl)
          dsimp only at c0 c1
          have HR := Lib.hid (pair_again_r h0 HOK.out (i := nx) HMS.out.nr (by omega))
          clear h0 hs
          go_wp2_with fail
          refine HR.out.mono ?_
          rintro e w3 ⟨rfl, h⟩
          have H3 := Lib.hid h
          have HO3 := Lib.hid (HOK.out.again (by omega) 1 (i := nx) (by have := HMS.out.nl; omega) (by omega))
          have HM3 := Lib.hid ((HMS.out.again 1).mono (show k ≤ k + 1 by omega) (Nat.le_refl _))
          clear h HR HK HOK HMS hc c0 c1 hb1 hb2 hge hge2 hu0 hu1
          generalize P.again 1 nx = P1 at H3 HO3 HM3
          by_cases hne : 0 < fs.length
          · have hk1 : k % fs.length < fs.length := Nat.mod_lt _ hne
            obtain ⟨lose, hlo⟩ : ∃ y, fs[k % fs.length]? = some y := ⟨_, List.getElem?_eq_getElem hk1⟩
            obtain ⟨_, _, hrd⟩ := H3.out.get 2 rfl
            obtain ⟨fb, fo, _, rfl, _, ⟨rfl, hl16⟩, q1⟩ := RdS.at (show RdS eU16 w3 _ (.slice fa fs.length fc) fs from hrd) (by decide) hlo
            have q1 := q1 0 _ rfl
            simp only [eU16, Nat.mul_one, Nat.add_zero] at q1
            clear hrd hlo
            generalize hm1 : k % fs.length = m1 at q1 hk1
            have hr1 : (k : Int).tmod (fs.length : Int) = (m1 : Int) := by rw [← hm1, Int.tmod_eq_emod_of_nonneg (by omega)]; rfl
            have hr3 : (k : Int) % (fs.length : Int) = (m1 : Int) := by rw [← hm1]; rfl
            clear hm1
            go_wp2_with fail
            refine (show Calls Try.prog 21 #[.pointer (some ⟨x, 0, none⟩), .int .u16 (lose : Int), .int .u16 0] w3 _ from pairTick_c HO3.out (by omega) lose 0 hl16 (by decide) H3.out).mono ?_
            rintro e w4 ⟨rfl, h⟩
            have HO4 := Lib.hid ((HO3.out.tick lose 0).mono (show _ ≤ 200 + 2100 * (k + 1) by omega))
            have HM4 := Lib.hid (HM3.out.tick HO3.out lose 0)
            clear H3 HO3 HM3
            generalize P1.tick lose 0 = P2 at h HO4 HM4
            have H4 := Lib.hid h
            obtain ⟨⟨pl, pr, fl, fr, ol, or', gl, gr⟩, h0⟩ := h.pair'
            obtain ⟨c0, c1, _, _, _, _, _, _⟩ := pair_cells (h0.blk 0 rfl)
            dsimp only at c0 c1
            have HV1 := Lib.hid (overflows_any h0 1 rfl)
            have HV2 := Lib.hid (overflows_any h0 2 rfl)
            rw [HM4.out.over.1] at HV1
            rw [HM4.out.over.2] at HV2
            clear h0 h
            go_wp2_with fail
            refine HV1.out.mono ?_
            rintro e w' ⟨rfl, rfl⟩
            go_wp2_with fail
            refine HV2.out.mono ?_
            rintro e w' ⟨rfl, rfl⟩
            go_wp2_with fail
            go_roundw
            case rel => first | exact ⟨k + 1, nx + 1, P2, by omega, by omega, by go_num, by go_num, HO4, HM4, H4⟩ | ((repeat apply Exists.intro); exact ⟨⟨k + 1, nx + 1, P2, by omega, by omega, by go_num, by go_num, HO4, HM4, H4⟩, rfl⟩)
            case measure => simp [intOf]; omega
          · go_wp2_with fail
            refine (show Calls Try.prog 21 #[.pointer (some ⟨x, 0, none⟩), .int .u16 0, .int .u16 0] w3 _ from pairTick_c HO3.out (by omega) 0 0 (by decide) (by decide) H3.out).mono ?_
            rintro e w4 ⟨rfl, h⟩
            have HO4 := Lib.hid ((HO3.out.tick 0 0).mono (show _ ≤ 200 + 2100 * (k + 1) by omega))
            have HM4 := Lib.hid (HM3.out.tick HO3.out 0 0)
            clear H3 HO3 HM3
            generalize P1.tick 0 0 = P2 at h HO4 HM4
            have H4 := Lib.hid h
            obtain ⟨⟨pl, pr, fl, fr, ol, or', gl, gr⟩, h0⟩ := h.pair'
            obtain ⟨c0, c1, _, _, _, _, _, _⟩ := pair_cells (h0.blk 0 rfl)
            dsimp only at c0 c1
            have HV1 := Lib.hid (overflows_any h0 1 rfl)
            have HV2 := Lib.hid (overflows_any h0 2 rfl)
            rw [HM4.out.over.1] at HV1
            rw [HM4.out.over.2] at HV2
            clear h0 h
            go_wp2_with fail
            refine HV1.out.mono ?_
            rintro e w' ⟨rfl, rfl⟩
            go_wp2_with fail
            refine HV2.out.mono ?_
            rintro e w' ⟨rfl, rfl⟩
            go_wp2_with fail
            go_roundw
            case rel => first | exact ⟨k + 1, nx + 1, P2, by omega, by omega, by go_num, by go_num, HO4, HM4, H4⟩ | ((repeat apply Exists.intro); exact ⟨⟨k + 1, nx + 1, P2, by omega, by omega, by go_num, by go_num, HO4, HM4, H4⟩, rfl⟩)
            case measure => simp [intOf]; omega
      · have hge2 : ¬ (240 : Int) ≤ U ev := by rw [hUe]; omega
        clear hUe
        go_wp2_with fail
        refine (show Calls Try.prog 20 #[.pointer (some ⟨x, 0, none⟩), .int .u8 (U ev)] wr _ from pairAct_c HOK.out (by omega) ev.toNat ev.isLt HK.out).mono ?_
        rintro e w3 ⟨rfl, h⟩
        have H3 := Lib.hid h
        have HO3 := Lib.hid (HOK.out.act ev.toNat)
        have HM3 := Lib.hid (HMS.out.act HOK.out ev.toNat)
        clear h HK HOK HMS hc hge hge2
        generalize P.act ev.toNat = P1 at H3 HO3 HM3
        by_cases hne : 0 < fs.length
        · have hk1 : k % fs.length < fs.length := Nat.mod_lt _ hne
          obtain ⟨lose, hlo⟩ : ∃ y, fs[k % fs.length]? = some y := ⟨_, List.getElem?_eq_getElem hk1⟩
          obtain ⟨_, _, hrd⟩ := H3.out.get 2 rfl
          obtain ⟨fb, fo, _, rfl, _, ⟨rfl, hl16⟩, q1⟩ := RdS.at (show RdS eU16 w3 _ (.slice fa fs.length fc) fs from hrd) (by decide) hlo
          have q1 := q1 0 _ rfl
          simp only [eU16, Nat.mul_one, Nat.add_zero] at q1
          clear hrd hlo
          generalize hm1 : k % fs.length = m1 at q1 hk1
          have hr1 : (k : Int).tmod (fs.length : Int) = (m1 : Int) := by rw [← hm1, Int.tmod_eq_emod_of_nonneg (by omega)]; rfl
          have hr3 : (k : Int) % (fs.length : Int) = (m1 : Int) := by rw [← hm1]; rfl
          clear hm1
          go_wp2_with fail
          refine (show Calls Try.prog 21 #[.pointer (some ⟨x, 0, none⟩), .int .u16 (lose : Int), .int .u16 0] w3 _ from pairTick_c HO3.out (by omega) lose 0 hl16 (by decide) H3.out).mono ?_
          rintro e w4 ⟨rfl, h⟩
          have HO4 := Lib.hid ((HO3.out.tick lose 0).mono (show _ ≤ 200 + 2100 * (k + 1) by omega))
          have HM4 := Lib.hid (HM3.out.tick HO3.out lose 0)
          clear H3 HO3 HM3
          generalize P1.tick lose 0 = P2 at h HO4 HM4
          have H4 := Lib.hid h
          obtain ⟨⟨pl, pr, fl, fr, ol, or', gl, gr⟩, h0⟩ := h.pair'
          obtain ⟨c0, c1, _, _, _, _, _, _⟩ := pair_cells (h0.blk 0 rfl)
          dsimp only at c0 c1
          have HV1 := Lib.hid (overflows_any h0 1 rfl)
          have HV2 := Lib.hid (overflows_any h0 2 rfl)
          rw [HM4.out.over.1] at HV1
          rw [HM4.out.over.2] at HV2
          clear h0 h
          go_wp2_with fail
          refine HV1.out.mono ?_
          rintro e w' ⟨rfl, rfl⟩
          go_wp2_with fail
          refine HV2.out.mono ?_
          rintro e w' ⟨rfl, rfl⟩
          go_wp2_with fail
          go_roundw
          case rel => first | exact ⟨k + 1, nx, P2, by omega, by omega, by go_num, by go_num, HO4, HM4, H4⟩ | ((repeat apply Exists.intro); exact ⟨⟨k + 1, nx, P2, by omega, by omega, by go_num, by go_num, HO4, HM4, H4⟩, rfl⟩)
          case measure => simp [intOf]; omega
        · go_wp2_with fail
          refine (show Calls Try.prog 21 #[.pointer (some ⟨x, 0, none⟩), .int .u16 0, .int .u16 0] w3 _ from pairTick_c HO3.out (by omega) 0 0 (by decide) (by decide) H3.out).mono ?_
          rintro e w4 ⟨rfl, h⟩
          have HO4 := Lib.hid ((HO3.out.tick 0 0).mono (show _ ≤ 200 + 2100 * (k + 1) by omega))
          have HM4 := Lib.hid (HM3.out.tick HO3.out 0 0)
          clear H3 HO3 HM3
          generalize P1.tick 0 0 = P2 at h HO4 HM4
          have H4 := Lib.hid h
          obtain ⟨⟨pl, pr, fl, fr, ol, or', gl, gr⟩, h0⟩ := h.pair'
          obtain ⟨c0, c1, _, _, _, _, _, _⟩ := pair_cells (h0.blk 0 rfl)
          dsimp only at c0 c1
          have HV1 := Lib.hid (overflows_any h0 1 rfl)
          have HV2 := Lib.hid (overflows_any h0 2 rfl)
          rw [HM4.out.over.1] at HV1
          rw [HM4.out.over.2] at HV2
          clear h0 h
          go_wp2_with fail
          refine HV1.out.mono ?_
          rintro e w' ⟨rfl, rfl⟩
          go_wp2_with fail
          refine HV2.out.mono ?_
          rintro e w' ⟨rfl, rfl⟩
          go_wp2_with fail
          go_roundw
          case rel => first | exact ⟨k + 1, nx, P2, by omega, by omega, by go_num, by go_num, HO4, HM4, H4⟩ | ((repeat apply Exists.intro); exact ⟨⟨k + 1, nx, P2, by omega, by omega, by go_num, by go_num, HO4, HM4, H4⟩, rfl⟩)
          case measure => simp [intOf]; omega
    · obtain rfl : d.length = k := by omega
      have HP : Hid (∀ n, n ≤ 860 → (serves P n).Ok 3000000 ∧ (17 * d.length + 18 ≤ n → Stage (serves P n).fresh 0 0)) := Lib.hid fun n hn => ⟨(serves_ok HOK.out n).mono (by omega), fun h => mess_stage HMS.out HOK.out (by omega) (by omega) h⟩
      clear HOK HMS
      go_wp2_with fail
      go_loopw [95] (fun i wr => ∃ n : Nat, n ≤ 60 + 20 * d.length ∧ i = .int .i64 (n : Int) ∧ Hid (Held (fun _ => False) (Old W) W [tPair x (serves P n), tBy (.slice da d.length dc) d, tRd eU16 (.slice fa fs.length fc) fs] wr)) (fun i _ => 60 + 20 * d.length - (intOf i).toNat)
      case atStart => exact ⟨0, Nat.zero_le _, rfl, HK⟩
      case round =>
        clear HK
        obtain ⟨n, hn, rfl, HK⟩ := hrel
        by_cases hlt : n < 60 + 20 * d.length
        · have hlt2 : (n : Int) < 60 + 20 * (d.length : Int) := by omega
          have HON := Lib.hid (HP.out n (by omega)).1
          go_wp2_with fail
          refine (pairTick_c HON.out (by omega) 0 0 (by decide) (by decide) HK.out).mono ?_
          rintro e w4 ⟨rfl, h⟩
          have HT0 := Lib.hid h
          have HO0 := Lib.hid (stage_ok (HON.out.tick 0 0))
          have HSE := Lib.hid (serves_next P n)
          clear h HK HON
          generalize (serves P n).tick 0 0 = P0 at HT0 HO0 HSE
          rw [← stage_0 P0] at HT0
          have hb0 : bits .and .i64 0 1 = 0 := by decide
          have hb1 : bits .and .i64 1 1 = 1 := by decide
          have hb2 : bits .and .i64 2 1 = 0 := by decide
          have hb3 : bits .and .i64 3 1 = 1 := by decide
          go_wp2_with fail
          go_loopw [99] (fun i wr => ∃ q : Nat, q ≤ 4 ∧ i = .int .i64 (q : Int) ∧ Hid (Held (fun _ => False) (Old W) W [tPair x (stage P0 q), tBy (.slice da d.length dc) d, tRd eU16 (.slice fa fs.length fc) fs] wr)) (fun i _ => 4 - (intOf i).toNat)
          case atStart => exact ⟨0, by decide, rfl, HT0⟩
          case round =>
            clear HT0
            obtain ⟨q, hq, rfl, HK⟩ := hrel
            obtain rfl | rfl | rfl | rfl | rfl : q = 0 ∨ q = 1 ∨ q = 2 ∨ q = 3 ∨ q = 4 := by omega
            · go_wp2_with fail
              refine (pairTake_c HO0.out.1 (by omega) 0 (by decide) 0 (by decide) HK.out).mono ?_
              rintro e w5 ⟨rfl, h⟩
              rw [← stage_1] at h
              have H5 := Lib.hid h
              clear h HK
              go_wp2_with fail
              go_roundw
              case rel => exact ⟨1, by decide, by go_num, H5⟩
              case measure => simp [intOf]
            · go_wp2_with fail
              refine (pairTake_c HO0.out.2.1 (by omega) 1 (by decide) 0 (by decide) HK.out).mono ?_
              rintro e w5 ⟨rfl, h⟩
              rw [← stage_2] at h
              have H5 := Lib.hid h
              clear h HK
              go_wp2_with fail
              go_roundw
              case rel => exact ⟨2, by decide, by go_num, H5⟩
              case measure => simp [intOf]
            · go_wp2_with fail
              refine (pairTake_c HO0.out.2.2.1 (by omega) 0 (by decide) 1 (by decide) HK.out).mono ?_
              rintro e w5 ⟨rfl, h⟩
              rw [← stage_3] at h
              have H5 := Lib.hid h
              clear h HK
              go_wp2_with fail
              go_roundw
              case rel => exact ⟨3, by decide, by go_num, H5⟩
              case measure => simp [intOf]
            · go_wp2_with fail
              refine (pairTake_c HO0.out.2.2.2 (by omega) 1 (by decide) 1 (by decide) HK.out).mono ?_
              rintro e w5 ⟨rfl, h⟩
              rw [← stage_4] at h
              have H5 := Lib.hid h
              clear h HK
              go_wp2_with fail
              go_roundw
              case rel => exact ⟨4, by decide, by go_num, H5⟩
              case measure => simp [intOf]
            · go_wp2_with fail
              go_roundw
              case rel => first | exact ⟨n + 1, by omega, by go_num, by rw [HSE.out]; exact HK⟩ | ((repeat apply Exists.intro); exact ⟨⟨n + 1, by omega, by go_num, by rw [HSE.out]; exact HK⟩, rfl⟩)
              case measure => simp [intOf]; omega
        · obtain rfl : n = 60 + 20 * d.length := by omega
          have hlt2 : ¬ (((60 + 20 * d.length : Nat)) : Int) < 60 + 20 * (d.length : Int) := by omega
          have HON := Lib.hid (HP.out _ (show 60 + 20 * d.length ≤ 860 by omega)).1
          have HST := Lib.hid ((HP.out _ (show 60 + 20 * d.length ≤ 860 by omega)).2 (by omega))
          clear HP hlt
          generalize serves P (60 + 20 * d.length) = Q at HK HON HST
          go_upto_region 34 with fail
          go_cut [] from 110 to 116 (fun wc => Hid (Held (fun _ => False) (Old W) W [tPair x Q.noOff, tBy (.slice da d.length dc) d, tRd eU16 (.slice fa fs.length fc) fs] wc))
          case first =>
            obtain ⟨⟨pl, pr, fl, fr, ol, or', gl, gr⟩, h0⟩ := HK.out.pair'
            have HM := Lib.hid h0
            clear h0 HK HON HST hlt2
            go_wp2_with fail
            refine wp_region_held_drew (S := fun _ => True) (by kernel_rfl) trivial (fun _ => ?_)
            change wpAnyH _ _ _ _ _ (6 + 1) _ _ _
            refine wpAnyH_take_n 0 1 (by kernel_rfl) trivial (fun _ _ _ _ _ h => h) ?_
            simp only [List.drop_zero, List.take_succ_cons, List.take_zero]
            (refine wpFirst_val (v := ?_) (by rfl) ?_ ?_; rotate_left 1; (focus ((intro w' hS'; go_simp); try with_reducible rfl)); simp only [Act.put, List.setIfInBounds_toArray, List.set_cons_zero, List.set_cons_succ])
            refine wpFirst_nil ?_
            refine wpAnyH_two 1 2 (by kernel_rfl) rfl rfl (fun K hK => ?_) (fun K hK => ?_)
            focus
              refine step_mkH (E := eSq eU8 5) slBs (u := .slice none 0 0) rfl (a0 := ([] : Bytes)) (fun _ _ => ⟨_, rfl, Sq.nil _ _ _ _ _⟩) rfl _ _ rfl 2 rfl rfl (by decide) (by decide) ?_
              intro w3 hb3 hs3
              have h3 := (HM.out.drew.add hb3 (T := tBB _ [[], []]) hs3).front
              obtain ⟨g1, hb3'⟩ : ∃ b3, b3 = wr.drew.heap.size := ⟨_, rfl⟩
              rw [← hb3'] at h3 ⊢
              clear hb3 hs3 hb3'
              refine hK.out _ _ trivial ?_
              clear hK K
              refine wpAnyH_one 2 (by kernel_rfl) rfl (fun K hK => ?_)
              refine step_mkH (E := eSq eU8 5) slBs (u := .slice none 0 0) rfl (a0 := ([] : Bytes)) (fun _ _ => ⟨_, rfl, Sq.nil _ _ _ _ _⟩) rfl _ _ rfl 2 rfl rfl (by decide) (by decide) ?_
              intro w4 hb4 hs4
              have h4 := (h3.add hb4 (T := tBB _ [[], []]) hs4).front
              obtain ⟨g2, hb4'⟩ : ∃ b4, b4 = w3.heap.size := ⟨_, rfl⟩
              rw [← hb4'] at h4 ⊢
              clear hb4 hs4 hb4' h3
              refine hK.out _ _ trivial ?_
              clear hK K
              simp only [Act.put, List.setIfInBounds_toArray, List.set_cons_zero, List.set_cons_succ]
              have h5 := h4.pickL (us := [tBB (.slice (some ⟨g2, 0, none⟩) 2 2) [[], []], tBB (.slice (some ⟨g1, 0, none⟩) 2 2) [[], []], tBlk x (.cells #[.pointer (some ⟨pl, 0, none⟩), .pointer (some ⟨pr, 0, none⟩), fl, fr, ol, or', gl, gr] 51), tPort pl Q.l.prt, tPort pr Q.r.prt, tRd ePt fl Q.l.fly, tRd ePt fr Q.r.fly, tBB ol Q.l.off, tBB or' Q.r.off, tBB gl Q.l.got, tBB gr Q.r.got]) (vs := [tBlk x (.cells #[.pointer (some ⟨pl, 0, none⟩), .pointer (some ⟨pr, 0, none⟩), fl, fr, ol, or', gl, gr] 51), tPort pl Q.l.prt, tPort pr Q.r.prt, tRd ePt fl Q.l.fly, tRd ePt fr Q.r.fly, tBB (.slice (some ⟨g1, 0, none⟩) 2 2) [[], []], tBB (.slice (some ⟨g2, 0, none⟩) 2 2) [[], []], tBB gl Q.l.got, tBB gr Q.r.got]) [2, 3, 4, 5, 6, 1, 0, 9, 10] (by decide) rfl
              clear h4
            rotate_left
            focus
              refine step_mkH (E := eSq eU8 5) slBs (u := .slice none 0 0) rfl (a0 := ([] : Bytes)) (fun _ _ => ⟨_, rfl, Sq.nil _ _ _ _ _⟩) rfl _ _ rfl 2 rfl rfl (by decide) (by decide) ?_
              intro w3 hb3 hs3
              have h3 := (HM.out.drew.add hb3 (T := tBB _ [[], []]) hs3).front
              obtain ⟨g2, hb3'⟩ : ∃ b3, b3 = wr.drew.heap.size := ⟨_, rfl⟩
              rw [← hb3'] at h3 ⊢
              clear hb3 hs3 hb3'
              refine hK.out _ _ trivial ?_
              clear hK K
              refine wpAnyH_one 1 (by kernel_rfl) rfl (fun K hK => ?_)
              refine step_mkH (E := eSq eU8 5) slBs (u := .slice none 0 0) rfl (a0 := ([] : Bytes)) (fun _ _ => ⟨_, rfl, Sq.nil _ _ _ _ _⟩) rfl _ _ rfl 2 rfl rfl (by decide) (by decide) ?_
              intro w4 hb4 hs4
              have h4 := (h3.add hb4 (T := tBB _ [[], []]) hs4).front
              obtain ⟨g1, hb4'⟩ : ∃ b4, b4 = w3.heap.size := ⟨_, rfl⟩
              rw [← hb4'] at h4 ⊢
              clear hb4 hs4 hb4' h3
              refine hK.out _ _ trivial ?_
              clear hK K
              simp only [Act.put, List.setIfInBounds_toArray, List.set_cons_zero, List.set_cons_succ]
              have h5 := h4.pickL (us := [tBB (.slice (some ⟨g1, 0, none⟩) 2 2) [[], []], tBB (.slice (some ⟨g2, 0, none⟩) 2 2) [[], []], tBlk x (.cells #[.pointer (some ⟨pl, 0, none⟩), .pointer (some ⟨pr, 0, none⟩), fl, fr, ol, or', gl, gr] 51), tPort pl Q.l.prt, tPort pr Q.r.prt, tRd ePt fl Q.l.fly, tRd ePt fr Q.r.fly, tBB ol Q.l.off, tBB or' Q.r.off, tBB gl Q.l.got, tBB gr Q.r.got]) (vs := [tBlk x (.cells #[.pointer (some ⟨pl, 0, none⟩), .pointer (some ⟨pr, 0, none⟩), fl, fr, ol, or', gl, gr] 51), tPort pl Q.l.prt, tPort pr Q.r.prt, tRd ePt fl Q.l.fly, tRd ePt fr Q.r.fly, tBB (.slice (some ⟨g1, 0, none⟩) 2 2) [[], []], tBB (.slice (some ⟨g2, 0, none⟩) 2 2) [[], []], tBB gl Q.l.got, tBB gr Q.r.got]) [2, 3, 4, 5, 6, 0, 1, 9, 10] (by decide) rfl
              clear h4
            all_goals
              change wpAnyH _ _ _ _ _ (1 + 3) _ _ _
              refine wpAnyH_take_n 3 3 (by kernel_rfl) trivial (fun _ _ _ _ _ h => h) ?_
              simp only [List.drop_succ_cons, List.drop_zero, List.take_succ_cons, List.take_zero]
              refine wpFirst_val (v := .agg #[.slice (some ⟨g1, 0, none⟩) 2 2, .slice (some ⟨g2, 0, none⟩) 2 2]) (by rfl) (fun w' _ => by kernel_rfl) ?_
              simp only [Act.put, List.setIfInBounds_toArray, List.set_cons_zero, List.set_cons_succ]
              iterate 2 (refine wpFirst_val (v := ?_) (by rfl) ?_ ?_; rotate_left 1; (focus ((intro w' hS'; go_simp); try with_reducible rfl)); simp only [Act.put, List.setIfInBounds_toArray, List.set_cons_zero, List.set_cons_succ])
              refine wpFirst_nil ?_
              refine wpAnyH_one 6 (by kernel_rfl) rfl (fun K hK => ?_)
              have hrow := h5.blk 0 rfl
              have d0 := blk_cell (i := 4) hrow rfl
              have d1 := blk_cell (i := 5) hrow rfl
              have cf := fun i => blk_free hrow i
              have h6 := h5.set 0 rfl (.cells #[.pointer (some ⟨pl, 0, none⟩), .pointer (some ⟨pr, 0, none⟩), fl, fr, (.slice (some ⟨g1, 0, none⟩) 2 2), (.slice (some ⟨g2, 0, none⟩) 2 2), gl, gr] 51) (w' := (w4.setCell ⟨x, 4, none⟩ (.slice (some ⟨g1, 0, none⟩) 2 2)).setCell ⟨x, 5, none⟩ (.slice (some ⟨g2, 0, none⟩) 2 2)) (by (repeat (first | (with_reducible exact Fr.refl _ _) | exact Or.inl rfl | (with_reducible refine Fr.setCell ?_ ?_ _) | (with_reducible refine Fr.drewN ?_ _) | (with_reducible refine Fr.drew ?_)))) (by (apply row_trans; focus (repeat (first | (with_reducible exact hrow) | (with_reducible apply row_set) | (with_reducible apply row_drewN) | (with_reducible apply row_drew)))); rfl)
              have HN := Lib.hid h6
              clear h5 h6 hrow
              go_simp
              refine hK.out _ _ trivial ?_
              clear hK K d0 d1 cf
              refine wpAnyH_done (by kernel_rfl) ?_ _
              go_wp2_with fail
              go_meet
              exact Lib.hid (Held.pair_shut (P := Q.noOff) (v := ⟨pl, pr, fl, fr, (.slice (some ⟨g1, 0, none⟩) 2 2), (.slice (some ⟨g2, 0, none⟩) 2 2), gl, gr⟩) HN.out)
          case rest =>
            clear HK
            have HQ2 := hcut
            clear hcut
            go_upto_region 35 with fail
            go_cut [] from 116 to 122 (fun wc => Hid (Held (fun _ => False) (Old W) W [tPair x Q.fresh, tBy (.slice da d.length dc) d, tRd eU16 (.slice fa fs.length fc) fs] wc))
            case first =>
              obtain ⟨⟨pl, pr, fl, fr, ol, or', gl, gr⟩, h0⟩ := HQ2.out.pair'
              have HM := Lib.hid h0
              clear h0 HON HST hlt2 HQ2
              go_wp2_with fail
              refine wp_region_held_drew (S := fun _ => True) (by kernel_rfl) trivial (fun _ => ?_)
              change wpAnyH _ _ _ _ _ (6 + 1) _ _ _
              refine wpAnyH_take_n 0 1 (by kernel_rfl) trivial (fun _ _ _ _ _ h => h) ?_
              simp only [List.drop_zero, List.take_succ_cons, List.take_zero]
              (refine wpFirst_val (v := ?_) (by rfl) ?_ ?_; rotate_left 1; (focus ((intro w' hS'; go_simp); try with_reducible rfl)); simp only [Act.put, List.setIfInBounds_toArray, List.set_cons_zero, List.set_cons_succ])
              refine wpFirst_nil ?_
              refine wpAnyH_two 1 2 (by kernel_rfl) rfl rfl (fun K hK => ?_) (fun K hK => ?_)
              focus
                refine step_mkH (E := eSq eU8 5) slBs (u := .slice none 0 0) rfl (a0 := ([] : Bytes)) (fun _ _ => ⟨_, rfl, Sq.nil _ _ _ _ _⟩) rfl _ _ rfl 2 rfl rfl (by decide) (by decide) ?_
                intro w3 hb3 hs3
                have h3 := (HM.out.drew.add hb3 (T := tBB _ [[], []]) hs3).front
                obtain ⟨g1, hb3'⟩ : ∃ b3, b3 = wc.drew.heap.size := ⟨_, rfl⟩
                rw [← hb3'] at h3 ⊢
                clear hb3 hs3 hb3'
                refine hK.out _ _ trivial ?_
                clear hK K
                refine wpAnyH_one 2 (by kernel_rfl) rfl (fun K hK => ?_)
                refine step_mkH (E := eSq eU8 5) slBs (u := .slice none 0 0) rfl (a0 := ([] : Bytes)) (fun _ _ => ⟨_, rfl, Sq.nil _ _ _ _ _⟩) rfl _ _ rfl 2 rfl rfl (by decide) (by decide) ?_
                intro w4 hb4 hs4
                have h4 := (h3.add hb4 (T := tBB _ [[], []]) hs4).front
                obtain ⟨g2, hb4'⟩ : ∃ b4, b4 = w3.heap.size := ⟨_, rfl⟩
                rw [← hb4'] at h4 ⊢
                clear hb4 hs4 hb4' h3
                refine hK.out _ _ trivial ?_
                clear hK K
                simp only [Act.put, List.setIfInBounds_toArray, List.set_cons_zero, List.set_cons_succ]
                have h5 := h4.pickL (us := [tBB (.slice (some ⟨g2, 0, none⟩) 2 2) [[], []], tBB (.slice (some ⟨g1, 0, none⟩) 2 2) [[], []], tBlk x (.cells #[.pointer (some ⟨pl, 0, none⟩), .pointer (some ⟨pr, 0, none⟩), fl, fr, ol, or', gl, gr] 51), tPort pl Q.l.prt, tPort pr Q.r.prt, tRd ePt fl Q.l.fly, tRd ePt fr Q.r.fly, tBB ol [[], []], tBB or' [[], []], tBB gl Q.l.got, tBB gr Q.r.got]) (vs := [tBlk x (.cells #[.pointer (some ⟨pl, 0, none⟩), .pointer (some ⟨pr, 0, none⟩), fl, fr, ol, or', gl, gr] 51), tPort pl Q.l.prt, tPort pr Q.r.prt, tRd ePt fl Q.l.fly, tRd ePt fr Q.r.fly, tBB ol [[], []], tBB or' [[], []], tBB (.slice (some ⟨g1, 0, none⟩) 2 2) [[], []], tBB (.slice (some ⟨g2, 0, none⟩) 2 2) [[], []]]) [2, 3, 4, 5, 6, 7, 8, 1, 0] (by decide) rfl
                clear h4
              rotate_left
              focus
                refine step_mkH (E := eSq eU8 5) slBs (u := .slice none 0 0) rfl (a0 := ([] : Bytes)) (fun _ _ => ⟨_, rfl, Sq.nil _ _ _ _ _⟩) rfl _ _ rfl 2 rfl rfl (by decide) (by decide) ?_
                intro w3 hb3 hs3
                have h3 := (HM.out.drew.add hb3 (T := tBB _ [[], []]) hs3).front
                obtain ⟨g2, hb3'⟩ : ∃ b3, b3 = wc.drew.heap.size := ⟨_, rfl⟩
                rw [← hb3'] at h3 ⊢
                clear hb3 hs3 hb3'
                refine hK.out _ _ trivial ?_
                clear hK K
                refine wpAnyH_one 1 (by kernel_rfl) rfl (fun K hK => ?_)
                refine step_mkH (E := eSq eU8 5) slBs (u := .slice none 0 0) rfl (a0 := ([] : Bytes)) (fun _ _ => ⟨_, rfl, Sq.nil _ _ _ _ _⟩) rfl _ _ rfl 2 rfl rfl (by decide) (by decide) ?_
                intro w4 hb4 hs4
                have h4 := (h3.add hb4 (T := tBB _ [[], []]) hs4).front
                obtain ⟨g1, hb4'⟩ : ∃ b4, b4 = w3.heap.size := ⟨_, rfl⟩
                rw [← hb4'] at h4 ⊢
                clear hb4 hs4 hb4' h3
                refine hK.out _ _ trivial ?_
                clear hK K
                simp only [Act.put, List.setIfInBounds_toArray, List.set_cons_zero, List.set_cons_succ]
                have h5 := h4.pickL (us := [tBB (.slice (some ⟨g1, 0, none⟩) 2 2) [[], []], tBB (.slice (some ⟨g2, 0, none⟩) 2 2) [[], []], tBlk x (.cells #[.pointer (some ⟨pl, 0, none⟩), .pointer (some ⟨pr, 0, none⟩), fl, fr, ol, or', gl, gr] 51), tPort pl Q.l.prt, tPort pr Q.r.prt, tRd ePt fl Q.l.fly, tRd ePt fr Q.r.fly, tBB ol [[], []], tBB or' [[], []], tBB gl Q.l.got, tBB gr Q.r.got]) (vs := [tBlk x (.cells #[.pointer (some ⟨pl, 0, none⟩), .pointer (some ⟨pr, 0, none⟩), fl, fr, ol, or', gl, gr] 51), tPort pl Q.l.prt, tPort pr Q.r.prt, tRd ePt fl Q.l.fly, tRd ePt fr Q.r.fly, tBB ol [[], []], tBB or' [[], []], tBB (.slice (some ⟨g1, 0, none⟩) 2 2) [[], []], tBB (.slice (some ⟨g2, 0, none⟩) 2 2) [[], []]]) [2, 3, 4, 5, 6, 7, 8, 0, 1] (by decide) rfl
                clear h4
              all_goals
                change wpAnyH _ _ _ _ _ (1 + 3) _ _ _
                refine wpAnyH_take_n 3 3 (by kernel_rfl) trivial (fun _ _ _ _ _ h => h) ?_
                simp only [List.drop_succ_cons, List.drop_zero, List.take_succ_cons, List.take_zero]
                refine wpFirst_val (v := .agg #[.slice (some ⟨g1, 0, none⟩) 2 2, .slice (some ⟨g2, 0, none⟩) 2 2]) (by rfl) (fun w' _ => by kernel_rfl) ?_
                simp only [Act.put, List.setIfInBounds_toArray, List.set_cons_zero, List.set_cons_succ]
                iterate 2 (refine wpFirst_val (v := ?_) (by rfl) ?_ ?_; rotate_left 1; (focus ((intro w' hS'; go_simp); try with_reducible rfl)); simp only [Act.put, List.setIfInBounds_toArray, List.set_cons_zero, List.set_cons_succ])
                refine wpFirst_nil ?_
                refine wpAnyH_one 6 (by kernel_rfl) rfl (fun K hK => ?_)
                have hrow := h5.blk 0 rfl
                have d0 := blk_cell (i := 6) hrow rfl
                have d1 := blk_cell (i := 7) hrow rfl
                have cf := fun i => blk_free hrow i
                have h6 := h5.set 0 rfl (.cells #[.pointer (some ⟨pl, 0, none⟩), .pointer (some ⟨pr, 0, none⟩), fl, fr, ol, or', (.slice (some ⟨g1, 0, none⟩) 2 2), (.slice (some ⟨g2, 0, none⟩) 2 2)] 51) (w' := (w4.setCell ⟨x, 6, none⟩ (.slice (some ⟨g1, 0, none⟩) 2 2)).setCell ⟨x, 7, none⟩ (.slice (some ⟨g2, 0, none⟩) 2 2)) (by (repeat (first | (with_reducible exact Fr.refl _ _) | exact Or.inl rfl | (with_reducible refine Fr.setCell ?_ ?_ _) | (with_reducible refine Fr.drewN ?_ _) | (with_reducible refine Fr.drew ?_)))) (by (apply row_trans; focus (repeat (first | (with_reducible exact hrow) | (with_reducible apply row_set) | (with_reducible apply row_drewN) | (with_reducible apply row_drew)))); rfl)
                have HN := Lib.hid h6
                clear h5 h6 hrow
                go_simp
                refine hK.out _ _ trivial ?_
                clear hK K d0 d1 cf
                refine wpAnyH_done (by kernel_rfl) ?_ _
                go_wp2_with fail
                go_meet
                exact Lib.hid (Held.pair_shut (P := Q.fresh) (v := ⟨pl, pr, fl, fr, ol, or', (.slice (some ⟨g1, 0, none⟩) 2 2), (.slice (some ⟨g2, 0, none⟩) 2 2)⟩) HN.out)
            case rest =>
              have HK := hcut
              clear hcut HQ2
              have HOF := Lib.hid HON.out.fresh
              clear HON
              generalize Q.fresh = Q0 at HK HST HOF
              go_wp2_with fail
              go_loopw [122] (fun i wr => ∃ (k : Nat) (P : Pr), k ≤ 3 ∧ i = .int .i64 (k : Int) ∧ Hid (P.Ok (3010000 + 1000 * k)) ∧ Hid (Stage P k 0) ∧ Hid (Held (fun _ => False) (Old W) W [tPair x P, tBy (.slice da d.length dc) d, tRd eU16 (.slice fa fs.length fc) fs] wr)) (fun i _ => 3 - (intOf i).toNat)
              case atStart => exact ⟨0, Q0, by decide, rfl, Lib.hid (HOF.out.mono (by decide)), HST, HK⟩
              case round =>
                clear HK HST HOF hlt2
                obtain ⟨k, P, hk, rfl, HOK, HST, HK⟩ := hrel
                by_cases hlt : k < 3
                · have hlt2 : (k : Int) < 3 := by omega
                  go_wp2_with fail
                  go_loopw [125] (fun i wr => ∃ (q : Nat) (P : Pr), q ≤ 4 ∧ i = .int .i64 (q : Int) ∧ Hid (P.Ok (3010000 + 1000 * k + 65 * q)) ∧ Hid (Stage P k q) ∧ Hid (Held (fun _ => False) (Old W) W [tPair x P, tBy (.slice da d.length dc) d, tRd eU16 (.slice fa fs.length fc) fs] wr)) (fun i _ => 4 - (intOf i).toNat)
                  case atStart => exact ⟨0, P, by decide, rfl, HOK, HST, HK⟩
                  case round =>
                    clear HK HST HOK
                    obtain ⟨q, P, hq, rfl, HOK, HST, HK⟩ := hrel
                    by_cases hltq : q < 4
                    · have hb1 := and1_i64 q (by omega)
                      have HU : Hid (U (BitVec.ofNat 8 (10 * k + q)) = 10 * (k : Int) + (q : Int)) := Lib.hid (by unfold U; rw [BitVec.toNat_ofNat, Nat.mod_eq_of_lt (by omega)]; omega)
                      have HC := pairOffer_c HOK.out (by omega) (q % 2) (by omega) (q / 2) (by omega) (BitVec.ofNat 8 (10 * k + q)) HK.out
                      rw [HU.out, show ((q / 2 : Nat) : Int) = (q : Int) / 2 by omega] at HC
                      have HC := Lib.hid HC
                      have HO3 := Lib.hid (HOK.out.offer (q % 2) (c := q / 2) (by omega) (BitVec.ofNat 8 (10 * k + q)))
                      have HS3 := Lib.hid (HST.out.offer HOK.out (by omega) hltq (BitVec.ofNat 8 (10 * k + q)))
                      clear HOK HST HK
                      go_wp2_with fail
                      refine HC.out.mono ?_
                      rintro e w3 ⟨rfl, h⟩
                      have H3 := Lib.hid h
                      clear h HC
                      generalize P.offer (q % 2) (q / 2) (BitVec.ofNat 8 (10 * k + q)) = P1 at H3 HO3 HS3
                      go_wp2_with fail
                      go_roundw
                      case rel => first | exact ⟨q + 1, P1, by omega, by go_num, Lib.hid (HO3.out.mono (by omega)), HS3, H3⟩ | ((repeat apply Exists.intro); exact ⟨⟨q + 1, P1, by omega, by go_num, Lib.hid (HO3.out.mono (by omega)), HS3, H3⟩, rfl⟩)
                      case measure => simp [intOf]; omega
                    · obtain rfl : q = 4 := by omega
                      go_wp2_with fail
                      go_roundw
                      case rel => first | exact ⟨k + 1, P, by omega, by go_num, Lib.hid (HOK.out.mono (by omega)), Lib.hid HST.out.turn, HK⟩ | ((repeat apply Exists.intro); exact ⟨⟨k + 1, P, by omega, by go_num, Lib.hid (HOK.out.mono (by omega)), Lib.hid HST.out.turn, HK⟩, rfl⟩)
                      case measure => simp [intOf]; omega
                · obtain rfl : k = 3 := by omega
                  have HP : Hid (∀ n, n ≤ 80 → (serves P n).Ok 4000000) := Lib.hid fun n hn => (serves_ok HOK.out n).mono (by omega)
                  have HDN := Lib.hid (stage_done HST.out HOK.out (by decide) (n := 80) (by decide))
                  clear HOK HST
                  go_wp2_with fail
                  go_loopw [141] (fun i wr => ∃ n : Nat, n ≤ 80 ∧ i = .int .i64 (n : Int) ∧ Hid (Held (fun _ => False) (Old W) W [tPair x (serves P n), tBy (.slice da d.length dc) d, tRd eU16 (.slice fa fs.length fc) fs] wr)) (fun i _ => 80 - (intOf i).toNat)
                  case atStart => exact ⟨0, Nat.zero_le _, rfl, HK⟩
                  case round =>
                    clear HK hlt
                    obtain ⟨n, hn, rfl, HK⟩ := hrel
                    by_cases hlt : n < 80
                    · have HON := Lib.hid (HP.out n (by omega))
                      go_wp2_with fail
                      refine (pairTick_c HON.out (by omega) 0 0 (by decide) (by decide) HK.out).mono ?_
                      rintro e w4 ⟨rfl, h⟩
                      have HT0 := Lib.hid h
                      have HO0 := Lib.hid (stage_ok (HON.out.tick 0 0))
                      have HSE := Lib.hid (serves_next P n)
                      clear h HK HON
                      generalize (serves P n).tick 0 0 = P0 at HT0 HO0 HSE
                      rw [← stage_0 P0] at HT0
                      have hb0 : bits .and .i64 0 1 = 0 := by decide
                      have hb1 : bits .and .i64 1 1 = 1 := by decide
                      have hb2 : bits .and .i64 2 1 = 0 := by decide
                      have hb3 : bits .and .i64 3 1 = 1 := by decide
                      go_wp2_with fail
                      go_loopw [145] (fun i wr => ∃ q : Nat, q ≤ 4 ∧ i = .int .i64 (q : Int) ∧ Hid (Held (fun _ => False) (Old W) W [tPair x (stage P0 q), tBy (.slice da d.length dc) d, tRd eU16 (.slice fa fs.length fc) fs] wr)) (fun i _ => 4 - (intOf i).toNat)
                      case atStart => exact ⟨0, by decide, rfl, HT0⟩
                      case round =>
                        clear HT0
                        obtain ⟨q, hq, rfl, HK⟩ := hrel
                        obtain rfl | rfl | rfl | rfl | rfl : q = 0 ∨ q = 1 ∨ q = 2 ∨ q = 3 ∨ q = 4 := by omega
                        · go_wp2_with fail
                          refine (pairTake_c HO0.out.1 (by omega) 0 (by decide) 0 (by decide) HK.out).mono ?_
                          rintro e w5 ⟨rfl, h⟩
                          rw [← stage_1] at h
                          have H5 := Lib.hid h
                          clear h HK
                          go_wp2_with fail
                          go_roundw
                          case rel => exact ⟨1, by decide, by go_num, H5⟩
                          case measure => simp [intOf]
                        · go_wp2_with fail
                          refine (pairTake_c HO0.out.2.1 (by omega) 1 (by decide) 0 (by decide) HK.out).mono ?_
                          rintro e w5 ⟨rfl, h⟩
                          rw [← stage_2] at h
                          have H5 := Lib.hid h
                          clear h HK
                          go_wp2_with fail
                          go_roundw
                          case rel => exact ⟨2, by decide, by go_num, H5⟩
                          case measure => simp [intOf]
                        · go_wp2_with fail
                          refine (pairTake_c HO0.out.2.2.1 (by omega) 0 (by decide) 1 (by decide) HK.out).mono ?_
                          rintro e w5 ⟨rfl, h⟩
                          rw [← stage_3] at h
                          have H5 := Lib.hid h
                          clear h HK
                          go_wp2_with fail
                          go_roundw
                          case rel => exact ⟨3, by decide, by go_num, H5⟩
                          case measure => simp [intOf]
                        · go_wp2_with fail
                          refine (pairTake_c HO0.out.2.2.2 (by omega) 1 (by decide) 1 (by decide) HK.out).mono ?_
                          rintro e w5 ⟨rfl, h⟩
                          rw [← stage_4] at h
                          have H5 := Lib.hid h
                          clear h HK
                          go_wp2_with fail
                          go_roundw
                          case rel => exact ⟨4, by decide, by go_num, H5⟩
                          case measure => simp [intOf]
                        · go_wp2_with fail
                          go_roundw
                          case rel => first | exact ⟨n + 1, by omega, by go_num, by rw [HSE.out]; exact HK⟩ | ((repeat apply Exists.intro); exact ⟨⟨n + 1, by omega, by go_num, by rw [HSE.out]; exact HK⟩, rfl⟩)
                          case measure => simp [intOf]; omega
                    · obtain rfl : n = 80 := by omega
                      have HON := Lib.hid (HP.out 80 (by decide))
                      clear HP hlt
                      generalize serves P 80 = Q at HK HDN HON
                      have HG1 := Lib.hid HDN.out.1
                      have HG2 := Lib.hid HDN.out.2.1
                      have HG3 := Lib.hid HDN.out.2.2
                      have HL := Lib.hid (And.intro (And.intro HON.out.l.o2 HON.out.l.g2) (And.intro HON.out.r.o2 HON.out.r.g2))
                      clear HDN
                      have hw1 : IntKind.i64.wrap 1 = 1 := by decide
                      have hw0 : IntKind.i64.wrap 0 = 0 := by decide
                      obtain ⟨wr0, hwr⟩ : ∃ z, z = wr := ⟨_, rfl⟩
                      rw [← hwr] at HK ⊢
                      clear hwr
                      go_wp2_with fail
                      go_loopw [157] (fun i wr => ∃ q : Nat, q ≤ 2 ∧ i = .int .i64 (q : Int) ∧ ∃ m, wr = wr0.drewN m) (fun i _ => 2 - (intOf i).toNat)
                      case atStart => exact ⟨0, by decide, rfl, 0, rfl⟩
                      case round =>
                        obtain ⟨q, hq, rfl, m, rfl⟩ := hrel
                        obtain rfl | rfl | rfl : q = 0 ∨ q = 1 ∨ q = 2 := by omega
                        · go_wp2_with fail
                          go_loopw [160] (fun i wr => ∃ q : Nat, q ≤ 2 ∧ i = .int .i64 (q : Int) ∧ ∃ m, wr = wr0.drewN m) (fun i _ => 2 - (intOf i).toNat)
                          case atStart => exact ⟨0, by decide, rfl, _, rfl⟩
                          case round =>
                            obtain ⟨q, hq, rfl, m, rfl⟩ := hrel
                            obtain rfl | rfl | rfl : q = 0 ∨ q = 1 ∨ q = 2 := by omega
                            · obtain ⟨⟨pl, pr, fl, fr, ol, or', gl, gr⟩, h0⟩ := HK.out.pair'
                              obtain ⟨_, _, _, _, c4, c5, c6, c7⟩ := pair_cells (h0.blk 0 rfl)
                              dsimp only at c4 c5 c6 c7
                              obtain ⟨b4, o4, k4, va4, vc4, rfl, q4, d4, y4⟩ := h0.bb2 5 rfl HL.out.1.1 (c := 0) (by decide)
                              obtain ⟨b8, o8, k8, va8, vc8, rfl, q8, d8, y8⟩ := h0.bb2 8 rfl HL.out.2.2 (c := 0) (by decide)
                              rw [(HG1.out 0 (by decide)).1] at d8 y8
                              have HE := Lib.hid (fun n => bytesEqual_refl (y4.drewN n) (y8.drewN n))
                              rw [(HG2.out 0 (by decide)).1] at d4 d8 HE
                              simp only [Nat.add_zero] at d4 d8
                              clear y4 y8 h0
                              go_wp2_with fail
                              go_quiet ((go_at_call 25; exact quiet_add_own (HE.out _)))
                              go_wp2_with fail
                              go_roundw
                              case rel => first | exact ⟨1, by decide, by go_num, _, rfl⟩ | ((repeat apply Exists.intro); exact ⟨⟨1, by decide, by go_num, _, rfl⟩, rfl⟩)
                              case measure => simp [intOf]
                            · obtain ⟨⟨pl, pr, fl, fr, ol, or', gl, gr⟩, h0⟩ := HK.out.pair'
                              obtain ⟨_, _, _, _, c4, c5, c6, c7⟩ := pair_cells (h0.blk 0 rfl)
                              dsimp only at c4 c5 c6 c7
                              obtain ⟨b4, o4, k4, va4, vc4, rfl, q4, d4, y4⟩ := h0.bb2 5 rfl HL.out.1.1 (c := 1) (by decide)
                              obtain ⟨b8, o8, k8, va8, vc8, rfl, q8, d8, y8⟩ := h0.bb2 8 rfl HL.out.2.2 (c := 1) (by decide)
                              rw [(HG1.out 1 (by decide)).1] at d8 y8
                              have HE := Lib.hid (fun n => bytesEqual_refl (y4.drewN n) (y8.drewN n))
                              rw [(HG2.out 1 (by decide)).1] at d4 d8 HE
                              skip
                              clear y4 y8 h0
                              go_wp2_with fail
                              go_quiet ((go_at_call 25; exact quiet_add_own (HE.out _)))
                              go_wp2_with fail
                              go_roundw
                              case rel => first | exact ⟨2, by decide, by go_num, _, rfl⟩ | ((repeat apply Exists.intro); exact ⟨⟨2, by decide, by go_num, _, rfl⟩, rfl⟩)
                              case measure => simp [intOf]
                            · go_wp2_with fail
                              go_roundw
                              case rel => first | exact ⟨1, by decide, by go_num, _, rfl⟩ | ((repeat apply Exists.intro); exact ⟨⟨1, by decide, by go_num, _, rfl⟩, rfl⟩)
                              case measure => simp [intOf]
                        · go_wp2_with fail
                          go_loopw [160] (fun i wr => ∃ q : Nat, q ≤ 2 ∧ i = .int .i64 (q : Int) ∧ ∃ m, wr = wr0.drewN m) (fun i _ => 2 - (intOf i).toNat)
                          case atStart => exact ⟨0, by decide, rfl, _, rfl⟩
                          case round =>
                            obtain ⟨q, hq, rfl, m, rfl⟩ := hrel
                            obtain rfl | rfl | rfl : q = 0 ∨ q = 1 ∨ q = 2 := by omega
                            · obtain ⟨⟨pl, pr, fl, fr, ol, or', gl, gr⟩, h0⟩ := HK.out.pair'
                              obtain ⟨_, _, _, _, c4, c5, c6, c7⟩ := pair_cells (h0.blk 0 rfl)
                              dsimp only at c4 c5 c6 c7
                              obtain ⟨b4, o4, k4, va4, vc4, rfl, q4, d4, y4⟩ := h0.bb2 6 rfl HL.out.2.1 (c := 0) (by decide)
                              obtain ⟨b8, o8, k8, va8, vc8, rfl, q8, d8, y8⟩ := h0.bb2 7 rfl HL.out.1.2 (c := 0) (by decide)
                              rw [(HG1.out 0 (by decide)).2] at d8 y8
                              have HE := Lib.hid (fun n => bytesEqual_refl (y4.drewN n) (y8.drewN n))
                              rw [(HG2.out 0 (by decide)).2] at d4 d8 HE
                              simp only [Nat.add_zero] at d4 d8
                              clear y4 y8 h0
                              go_wp2_with fail
                              go_quiet ((go_at_call 25; exact quiet_add_own (HE.out _)))
                              go_wp2_with fail
                              go_roundw
                              case rel => first | exact ⟨1, by decide, by go_num, _, rfl⟩ | ((repeat apply Exists.intro); exact ⟨⟨1, by decide, by go_num, _, rfl⟩, rfl⟩)
                              case measure => simp [intOf]
                            · obtain ⟨⟨pl, pr, fl, fr, ol, or', gl, gr⟩, h0⟩ := HK.out.pair'
                              obtain ⟨_, _, _, _, c4, c5, c6, c7⟩ := pair_cells (h0.blk 0 rfl)
                              dsimp only at c4 c5 c6 c7
                              obtain ⟨b4, o4, k4, va4, vc4, rfl, q4, d4, y4⟩ := h0.bb2 6 rfl HL.out.2.1 (c := 1) (by decide)
                              obtain ⟨b8, o8, k8, va8, vc8, rfl, q8, d8, y8⟩ := h0.bb2 7 rfl HL.out.1.2 (c := 1) (by decide)
                              rw [(HG1.out 1 (by decide)).2] at d8 y8
                              have HE := Lib.hid (fun n => bytesEqual_refl (y4.drewN n) (y8.drewN n))
                              rw [(HG2.out 1 (by decide)).2] at d4 d8 HE
                              skip
                              clear y4 y8 h0
                              go_wp2_with fail
                              go_quiet ((go_at_call 25; exact quiet_add_own (HE.out _)))
                              go_wp2_with fail
                              go_roundw
                              case rel => first | exact ⟨2, by decide, by go_num, _, rfl⟩ | ((repeat apply Exists.intro); exact ⟨⟨2, by decide, by go_num, _, rfl⟩, rfl⟩)
                              case measure => simp [intOf]
                            · go_wp2_with fail
                              go_roundw
                              case rel => first | exact ⟨2, by decide, by go_num, _, rfl⟩ | ((repeat apply Exists.intro); exact ⟨⟨2, by decide, by go_num, _, rfl⟩, rfl⟩)
                              case measure => simp [intOf]
                        · have H6 := Lib.hid (HK.out.drewN m)
                          generalize wr0.drewN m = w7 at H6 ⊢
                          obtain ⟨⟨pl, pr, fl, fr, ol, or', gl, gr⟩, h0⟩ := H6.out.pair'
                          obtain ⟨c0, c1, _, _, _, _, _, _⟩ := pair_cells (h0.blk 0 rfl)
                          dsimp only at c0 c1
                          have HU1 := Lib.hid (up_any h0 1 rfl)
                          have HU2 := Lib.hid (up_any h0 2 rfl)
                          have HV1 := Lib.hid (overflows_any h0 1 rfl)
                          have HV2 := Lib.hid (overflows_any h0 2 rfl)
                          rw [show decide (Q.l.prt.side.state = 2) = true from decide_eq_true HG3.out.1] at HU1
                          rw [show decide (Q.r.prt.side.state = 2) = true from decide_eq_true HG3.out.2.1] at HU2
                          rw [HG3.out.2.2.1] at HV1
                          rw [HG3.out.2.2.2] at HV2
                          clear h0 HK
                          go_wp2_with fail
                          refine HU1.out.mono ?_
                          rintro e w' ⟨rfl, rfl⟩
                          go_wp2_with fail
                          refine HU2.out.mono ?_
                          rintro e w' ⟨rfl, rfl⟩
                          go_wp2_with fail
                          refine HV1.out.mono ?_
                          rintro e w' ⟨rfl, rfl⟩
                          go_wp2_with fail
                          refine HV2.out.mono ?_
                          rintro e w' ⟨rfl, rfl⟩
                          go_wp2_with fail
                          go_ret
                          exact ⟨rfl, H6.out.below⟩
end Go.Proofs.Ytcocnfbhileheaa
