/- The walk of PortPrefix. -/
import Derived.Test.YtcocnfbhileheaaPprH
import Derived.Test.YtcocnfbhileheaaMgJ
namespace Go.Proofs.Ytcocnfbhileheaa
open Go.RowKit

set_option maxRecDepth 100000 in
set_option maxHeartbeats 16000000 in
theorem walkPortPrefix (W : World) (v0 v1 v2 v3 : Value) (o0 : IsInt .u8 v0) (o1 : IsInt .u8 v1) (o2 : IsBytes W v2) (o3 : IsSl r16 W v3) :
    Calls Try.prog 5 #[v0, v1, v2, v3] W fun e w' => e = .returned (.bool true) ∧ Below W.heap.size W w' := by
  obtain ⟨room, rfl, hr⟩ := int_u8' o0
  obtain ⟨window, rfl, hw⟩ := int_u8' o1
  obtain ⟨d, hd⟩ := o2
  have hz := byZ_of hd
  obtain ⟨da, dc, rfl⟩ := hz.slice
  have hmax : d.length ≤ maxLen := hz.1.cases.1
  obtain ⟨fs, hf⟩ := u16s_of o3
  obtain ⟨fa, fc, rfl, hfc, hfm⟩ := hf.shape
  have hmax2 : fs.length ≤ maxLen := Nat.le_trans hfc hfm
  have HS := Lib.hid (((Held.start0 (fun _ => False) (Old W) (fun _ f _ => f) W).addOld (T := tBy (.slice da d.length dc) d) (ByZ.mono hz fun k h => ⟨h, id⟩)).addOld (T := tRd eU16 (.slice fa fs.length fc) fs) (RdS.mono hf fun k h => ⟨h, id⟩))
  clear hz hd hf hfc hfm
  go_enter Try.func5, Try.ntmps5
  go_wp2_with fail
  refine (awake_any W).mono ?_
  rintro e w1 ⟨rfl, hb⟩
  have H1 := Lib.hid (HS.out.own hb); clear hb
  by_cases hbig : 60 < d.length
  · go_wp2_with fail
    go_ret
    exact ⟨rfl, H1.out.below⟩
  by_cases hbig2 : 60 < fs.length
  · go_wp2_with fail
    go_ret
    exact ⟨rfl, H1.out.below⟩
  go_wp2_with fail
  refine (connect_c room window hr hw H1.out).mono ?_
  rintro e w2 ⟨x, rfl, h⟩
  have H2 := Lib.hid (show Held (fun _ => False) (Old W) W [tPair x (newPr room window), tBy (.slice da d.length dc) d, tRd eU16 (.slice fa fs.length fc) fs] w2 from h)
  clear h H1 HS
  have hd60 : d.length ≤ 60 := by omega
  have hf60 : fs.length ≤ 60 := by omega
  go_wp2_with fail
  go_loopw [31] (fun i wr => ∃ (k : Nat) (P : Pr), k ≤ d.length ∧ i = .int .i64 (k : Int) ∧ Hid (P.Ok (200 + 2100 * k)) ∧ Hid P.Good ∧ Hid (Held (fun _ => False) (Old W) W [tPair x P, tBy (.slice da d.length dc) d, tRd eU16 (.slice fa fs.length fc) fs] wr)) (fun i _ => d.length - (intOf i).toNat)
  case atStart => exact ⟨0, _, Nat.zero_le _, rfl, Lib.hid (newPr_ok _ _), Lib.hid (newPr_good _ _), H2⟩
  case round =>
    clear H2
    obtain ⟨k, P, hk, rfl, HOK, HGD, HK⟩ := hrel
    by_cases hlt : k < d.length
    · obtain ⟨ev, hev⟩ : ∃ x, d[k]? = some x := ⟨_, List.getElem?_eq_getElem hlt⟩
      obtain ⟨_, _, hby⟩ := HK.out.get 1 rfl
      obtain ⟨eb, eo, rfl, hc⟩ := By.at (show By wr (.slice da d.length dc) d from hby.1) hev
      clear hby hev
      go_wp2_with fail
      refine (show Calls Try.prog 20 #[.pointer (some ⟨x, 0, none⟩), .int .u8 (U ev)] wr _ from pairAct_c HOK.out (by omega) ev.toNat ev.isLt HK.out).mono ?_
      rintro e w3 ⟨rfl, h⟩
      have H3 := Lib.hid h
      have HO3 := Lib.hid (HOK.out.act ev.toNat)
      have HG3 := Lib.hid (HGD.out.act HOK.out ev.toNat)
      clear h HK hc HOK HGD
      generalize P.act ev.toNat = P1 at H3 HO3 HG3
      by_cases hne : 0 < fs.length
      · have hk1 : k % fs.length < fs.length := Nat.mod_lt _ hne
        have hk2 : (k + 1) % fs.length < fs.length := Nat.mod_lt _ hne
        obtain ⟨lose, hlo⟩ : ∃ y, fs[k % fs.length]? = some y := ⟨_, List.getElem?_eq_getElem hk1⟩
        obtain ⟨dbl, hdb⟩ : ∃ y, fs[(k + 1) % fs.length]? = some y := ⟨_, List.getElem?_eq_getElem hk2⟩
        obtain ⟨_, _, hrd⟩ := H3.out.get 2 rfl
        obtain ⟨fb, fo, _, rfl, _, ⟨rfl, hl16⟩, q1⟩ := RdS.at (show RdS eU16 w3 _ (.slice fa fs.length fc) fs from hrd) (by decide) hlo
        obtain ⟨fb', fo', _, e2, _, ⟨rfl, hd16⟩, q2⟩ := RdS.at (show RdS eU16 w3 _ (.slice (some ⟨fb, fo, none⟩) fs.length fc) fs from hrd) (by decide) hdb
        obtain ⟨rfl, rfl⟩ : fb = fb' ∧ fo = fo' := by simpa using e2
        have q1 := q1 0 _ rfl
        have q2 := q2 0 _ rfl
        simp only [eU16, Nat.mul_one, Nat.add_zero] at q1 q2
        clear hrd hlo hdb e2
        have hwr : IntKind.i64.wrap ((k : Int) + 1) = (k : Int) + 1 := IntWalk.i64_in _ (by omega)
        generalize hm1 : k % fs.length = m1 at q1 hk1
        generalize hm2 : (k + 1) % fs.length = m2 at q2 hk2
        have hr1 : (k : Int).tmod (fs.length : Int) = (m1 : Int) := by rw [← hm1, Int.tmod_eq_emod_of_nonneg (by omega)]; rfl
        have hr2 : ((k : Int) + 1).tmod (fs.length : Int) = (m2 : Int) := by rw [← hm2, Int.tmod_eq_emod_of_nonneg (by omega)]; rfl
        clear hm1 hm2
        go_wp2_with fail
        go_quiet (fail)
        go_wp2_with fail
        refine (show Calls Try.prog 21 #[.pointer (some ⟨x, 0, none⟩), .int .u16 (lose : Int), .int .u16 (dbl : Int)] _ _ from pairTick_c HO3.out (by omega) lose dbl hl16 hd16 (H3.out.drewN _)).mono ?_
        rintro e w4 ⟨rfl, h⟩
        have H4 := Lib.hid h
        have HO4 := Lib.hid ((HO3.out.tick lose dbl).mono (show _ ≤ 200 + 2100 * (k + 1) by omega))
        have HG4 := Lib.hid (HG3.out.tick HO3.out lose dbl)
        clear h H3 HO3 HG3
        generalize P1.tick lose dbl = P2 at H4 HO4 HG4
        go_wp2_with fail
        refine (show Calls Try.prog 22 #[.pointer (some ⟨x, 0, none⟩)] w4 _ from pairPrefix_c HO4.out HG4.out.front.1 HG4.out.front.2 H4.out).mono ?_
        rintro e w5 ⟨rfl, nn, rfl⟩
        go_wp2_with fail
        go_roundw
        case rel => exact ⟨k + 1, P2, by omega, by go_num, HO4, HG4, Lib.hid (H4.out.drewN _)⟩
        case measure => simp [intOf]; omega
      · go_wp2_with fail
        refine (show Calls Try.prog 21 #[.pointer (some ⟨x, 0, none⟩), .int .u16 0, .int .u16 0] w3 _ from pairTick_c HO3.out (by omega) 0 0 (by decide) (by decide) H3.out).mono ?_
        rintro e w4 ⟨rfl, h⟩
        have H4 := Lib.hid h
        have HO4 := Lib.hid ((HO3.out.tick 0 0).mono (show _ ≤ 200 + 2100 * (k + 1) by omega))
        have HG4 := Lib.hid (HG3.out.tick HO3.out 0 0)
        clear h H3 HO3 HG3
        generalize P1.tick 0 0 = P2 at H4 HO4 HG4
        go_wp2_with fail
        refine (show Calls Try.prog 22 #[.pointer (some ⟨x, 0, none⟩)] w4 _ from pairPrefix_c HO4.out HG4.out.front.1 HG4.out.front.2 H4.out).mono ?_
        rintro e w5 ⟨rfl, nn, rfl⟩
        go_wp2_with fail
        go_roundw
        case rel => exact ⟨k + 1, P2, by omega, by go_num, HO4, HG4, Lib.hid (H4.out.drewN _)⟩
        case measure => simp [intOf]; omega
    · obtain rfl : d.length = k := by omega
      go_wp2_with fail
      go_ret
      exact ⟨rfl, HK.out.below⟩
end Go.Proofs.Ytcocnfbhileheaa
