/- The walk of LinkExact. -/
import Derived.Test.YtckdblgobmofgaaGreatDoorLsG
import Derived.Test.YtckdblgobmofgaaGreatDoorLsH
namespace Go.Proofs.YtckdblgobmofgaaGreatDoor
open Go.RowKit
set_option maxRecDepth 100000

set_option maxHeartbeats 16000000 in
theorem walkLinkExact (W : World) (v0 v1 : Value) (o0 : IsSet W v0) (o1 : IsSl (rSlice rEvt) W v1) (ht : Tabs W) :
    Calls Tryz.prog 6 #[v0, v1] W fun e w' => e = .returned (.bool true) ∧ Below W.heap.size W w' := by
  obtain ⟨s, aa, ak, ba, bk, ta, tk, ya, yk, rfl, r1, r2, r3, r4⟩ := o0
  obtain ⟨el, hel⟩ := o1
  have r5 := evtss_of hel
  obtain ⟨ea, ec, rfl, _, _⟩ := r5.shape
  have H0 := Lib.hid (((((((Held.start0 (fun _ => False) (Old W) (fun _ f _ => f) W).addOld (T := tRd (eInt .i64) (.slice aa s.a.rooms.length ak) s.a.rooms) (RdS.mono r1 fun _ h => ⟨h, id⟩)).addOld (T := tRd (eInt .i64) (.slice ba s.b.rooms.length bk) s.b.rooms) (RdS.mono r2 fun _ h => ⟨h, id⟩)).addOld (T := tRd eFlt (.slice ta s.there.length tk) s.there) (RdS.mono r3 fun _ h => ⟨h, id⟩)).addOld (T := tRd eFlt (.slice ya s.back.length yk) s.back) (RdS.mono r4 fun _ h => ⟨h, id⟩)).addOld (T := tRd (eRd eEvt) (.slice ea el.length ec) el) (RdS.mono r5 fun _ h => ⟨h, id⟩)).new (setO s aa ak ba bk ta tk ya yk))
  obtain ⟨ts, hts⟩ : ∃ ts, ts = [tRd (eInt .i64) (.slice aa s.a.rooms.length ak) s.a.rooms, tRd (eInt .i64) (.slice ba s.b.rooms.length bk) s.b.rooms, tRd eFlt (.slice ta s.there.length tk) s.there, tRd eFlt (.slice ya s.back.length yk) s.back, tRd (eRd eEvt) (.slice ea el.length ec) el, tBlk W.heap.size (setO s aa ak ba bk ta tk ya yk)] := ⟨_, rfl⟩
  have H1 := Lib.hid (show Held (fun _ => False) (Old W) W ts _ by rw [hts]; exact H0.out)
  have QS := Lib.hid (show SetAt ts 0 s aa ak ba bk ta tk ya yk by rw [hts]; exact ⟨rfl, rfl, rfl, rfl⟩)
  have QE := Lib.hid (show ts[4]? = some (tRd (eRd eEvt) (.slice ea el.length ec) el) by rw [hts]; rfl)
  have QB := Lib.hid (show ts[5]? = some (tBlk W.heap.size (setO s aa ak ba bk ta tk ya yk)) by rw [hts]; rfl)
  have HT := Lib.hid ht
  clear H0 hts r1 r2 r3 r4 r5 hel ht
  go_enter Tryz.func6, Tryz.ntmps6
  go_wp2_with fail
  refine (awake_c _ (HT.out.below H1.out.below)).mono ?_
  rintro e w1 ⟨rfl, hb⟩
  have H2 := Lib.hid (H1.out.own hb)
  obtain ⟨x0, x1, x2, x3, x4, x5, x6, x7, x8, x9, x10, x11, x12⟩ := set_cells (H2.out.blk 5 QB.out)
  clear hb H1
  go_wp2_with fail
  by_cases hs : Small s
  · refine (run_yes 0 QS.out hs H2.out).mono ?_
    rintro e w2 ⟨p, rfl, h3⟩
    have H3 := Lib.hid h3
    clear h3 H2
    go_wp2_with fail
    obtain ⟨_, _, hev⟩ := H3.out.get 5 QE.out
    refine (long_c el ea ec (show RdS (eRd eEvt) w2 _ _ el from hev)).mono ?_
    rintro e w3 ⟨rfl, hb⟩
    have H4 := Lib.hid (H3.out.own hb)
    clear hb hev H3
    cases hl : longB el with
    | true =>
      clear x0 x1 x2 x3 x4 x5 x6 x7 x8 x9 x10 x11 x12
      obtain ⟨x0, x1, x2, x3, x4, x5, x6, x7, x8, x9, x10, x11, x12⟩ := set_cells (H4.out.blk 6 QB.out)
      go_wp2_with fail
      have HQ : SetAt (tLink p s.lk :: ts) 1 s aa ak ba bk ta tk ya yk := ⟨QS.out.a, QS.out.b, QS.out.t, QS.out.y⟩
      refine (HQ.small H4.out).mono ?_
      rw [decide_eq_true hs]
      rintro e w5 ⟨rfl, hb⟩
      have H5 := Lib.hid (H4.out.own hb)
      clear hb
      go_wp2_with fail
      go_ret
      exact ⟨rfl, H5.out.below⟩
    | false =>
      have HL := Lib.hid (fits_of hl)
      have hn60 := HL.out.n
      have HF := Lib.hid hs.full
      have HV := Lib.hid hs
      clear hs
      go_wp2_with fail
      obtain ⟨_, _, hev⟩ := H4.out.get 5 QE.out
      refine (restarts_c el ea ec (show RdS (eRd eEvt) w3 _ _ el from hev)).mono ?_
      rintro e w4 ⟨rfl, hb⟩
      have H4' := Lib.hid (H4.out.own hb)
      clear hb hev H4
      have H4 := H4'
      clear H4'
      cases hrs : restB el with
      | true =>
        clear x0 x1 x2 x3 x4 x5 x6 x7 x8 x9 x10 x11 x12
        obtain ⟨x0, x1, x2, x3, x4, x5, x6, x7, x8, x9, x10, x11, x12⟩ := set_cells (H4.out.blk 6 QB.out)
        go_wp2_with fail
        have HQ : SetAt (tLink p s.lk :: ts) 1 s aa ak ba bk ta tk ya yk := ⟨QS.out.a, QS.out.b, QS.out.t, QS.out.y⟩
        refine (HQ.small H4.out).mono ?_
        rw [decide_eq_true HV.out]
        rintro e w5 ⟨rfl, hb⟩
        have H5 := Lib.hid (H4.out.own hb)
        clear hb
        go_wp2_with fail
        go_ret
        exact ⟨rfl, H5.out.below⟩
      | false =>
      have HNR := Lib.hid (no_rest hrs)
      clear hl hrs x0 x1 x2 x3 x4 x5 x6 x7 x8 x9 x10 x11 x12
      go_wp2_with fail
      go_loopw [33] (fun i wr => ∃ k : Nat, k ≤ el.length ∧ i = .int .i64 (k : Int) ∧ Hid (Held (fun _ => False) (Old W) W (tLink p (s.lk.runs (el.take k)) :: ts) wr)) (fun i _ => el.length - (intOf i).toNat)
      case atStart => exact ⟨0, by omega, by go_num, H4⟩
      case round =>
        clear H4
        obtain ⟨k, hk, rfl, HK⟩ := hrel
        by_cases hlt : k < el.length
        · obtain ⟨es, hes⟩ : ∃ es, el[k]? = some es := ⟨el[k], List.getElem?_eq_getElem hlt⟩
          have hmem := List.mem_of_getElem? hes
          have HRS := Lib.hid (s.lk.runs_take hes)
          have he6 := HL.out.e es hmem
          have HED := Lib.hid (HL.out.d es hmem)
          have hfull := runs_true (el.take k) HF.out (by omega) (fun x hx => HL.out.e x (List.mem_of_mem_take hx)) (fun x hx => HNR.out x (List.mem_of_mem_take hx))
          have htl : (el.take k).length = k := by rw [List.length_take]; omega
          rw [htl] at hfull
          have HFK := Lib.hid hfull
          have HNE := Lib.hid (HNR.out es hmem)
          have HSK := Lib.hid (runs_short (el.take k) s.lk_short HF.out (by omega))
          clear hfull htl hmem
          obtain ⟨_, _, hev⟩ := HK.out.get 5 QE.out
          obtain ⟨b, off, xa, xc, rfl, k0, hrd⟩ := evts_at (show RdS (eRd eEvt) wr _ (.slice ea el.length ec) el from hev) hes
          have H5 := Lib.hid ((HK.out.weak (T := tRd eEvt (.slice xa es.length xc) es) 5 QE.out fun G Y hon => by
            obtain ⟨b', off', xa', xc', e1', k0', hrd'⟩ := evts_at (show RdS (eRd eEvt) wr Y (.slice (some ⟨b, off, none⟩) el.length ec) el from hon) hes
            obtain ⟨rfl, rfl⟩ : b = b' ∧ off = off' := by simpa using e1'
            rw [k0] at k0'
            obtain ⟨rfl, rfl⟩ : xa = xa' ∧ xc = xc' := by simpa using k0'
            exact hrd').front.pickL (us := [tRd eEvt (.slice xa es.length xc) es, tLink p (s.lk.runs (el.take k))]) (vs := [tLink p (s.lk.runs (el.take k)), tRd eEvt (.slice xa es.length xc) es]) [1, 0] (by decide) rfl)
          clear hev hrd HK hes
          go_wp2_with fail
          refine (tickL_c (ts := tRd eEvt (.slice xa es.length xc) es :: ts) HFK.out (by omega) es (by omega) (by omega) (fun e he => Nat.le_trans (HED.out e he) (by decide)) _ 0 rfl HT.out H5.out).mono ?_
          rintro e w4 ⟨a4, c4, rfl, h4⟩
          rw [← HRS.out] at h4
          have H6 := Lib.hid (Held.pickL (us := [tSq eNat 25 (.slice a4 ((s.lk.runs (el.take k)).acts es).1.length c4) ((s.lk.runs (el.take k)).acts es).1, tLink p (s.lk.runs (el.take (k + 1))), tRd eEvt (.slice xa es.length xc) es]) (vs := [tLink p (s.lk.runs (el.take (k + 1)))]) h4 [1] (by decide) rfl)
          have HF2 := Lib.hid (show (s.lk.runs (el.take (k + 1))).Full 1000000 True from by rw [HRS.out]; exact (HFK.out.step (by omega) es).mono (by omega) fun _ => ⟨trivial, HNE.out⟩)
          have HS2 := Lib.hid (show (s.lk.runs (el.take (k + 1))).Short from by rw [HRS.out]; exact HSK.out.step HFK.out (by omega) es)
          clear h4 H5 k0
          obtain ⟨L, hLE⟩ : ∃ L, L = s.lk.runs (el.take (k + 1)) := ⟨_, rfl⟩
          have HLE := Lib.hid hLE.symm
          rw [← hLE] at H6 HF2 HS2
          clear hLE
          go_wp2_with fail
          go_loopw [40] (fun i wr => ∃ n : Nat, n ≤ 2 ∧ i = .int .i64 (n : Int) ∧ Hid (Held (fun _ => False) (Old W) W (tLink p L :: ts) wr)) (fun i _ => 2 - (intOf i).toNat)
          case atStart => exact ⟨0, by decide, rfl, H6⟩
          case round =>
            clear H6
            obtain ⟨n, hn, rfl, HO⟩ := hrel
            by_cases hn2 : n < 2
            · have hn2I : (n : Int) < 2 := by omega
              go_wp2_with fail
              go_loopw [43] (fun i wr => ∃ c : Nat, c ≤ 4 ∧ i = .int .i64 (c : Int) ∧ Hid (Held (fun _ => False) (Old W) W (tLink p L :: ts) wr)) (fun i _ => 4 - (intOf i).toNat)
              case atStart => exact ⟨0, by decide, rfl, HO⟩
              case round =>
                clear HO
                obtain ⟨c, hc, rfl, HO⟩ := hrel
                by_cases hlc : c < 4
                · have hlcI : (c : Int) < 4 := by omega
                  have hw : IntKind.i64.wrap (1 - (n : Int)) = 1 - (n : Int) := IntWalk.i64_in _ (by omega)
                  have HBG := Lib.hid (HF2.out.begins (n : Int) (by omega) (c : Int))
                  go_wp2_with fail
                  refine (offered_c HF2.out HS2.out (by decide) (1 - (n : Int)) (c : Int) HO.out).mono ?_
                  rintro e w5 ⟨a5, c5, rfl, h5⟩
                  have H5 := Lib.hid (Held.pickL (us := [tBB (.slice a5 (clsOf (L.off (1 - (n : Int))) (c : Int)).length c5) (clsOf (L.off (1 - (n : Int))) (c : Int)), tLink p L]) (vs := [tLink p L, tBB (.slice a5 (clsOf (L.off (1 - (n : Int))) (c : Int)).length c5) (clsOf (L.off (1 - (n : Int))) (c : Int))]) h5 [1, 0] (by decide) rfl)
                  clear h5 HO
                  generalize clsOf (L.off (1 - (n : Int))) (c : Int) = lo at *
                  go_wp2_with fail
                  refine (taken_c HF2.out HS2.out (by decide) (n : Int) (c : Int) H5.out).mono ?_
                  rintro e w6 ⟨a6, c6, rfl, h6⟩
                  generalize clsOf (L.tak (n : Int)) (c : Int) = lt at *
                  obtain ⟨_, _, q1⟩ := h6.get 2 rfl
                  obtain ⟨_, _, q2⟩ := h6.get 0 rfl
                  have HB := Lib.hid (begins_c _ _ _ _ (bbs_of (show Sq (eSq eU8 5) 22 w6 _ _ (.slice a5 lo.length c5) lo from q1)) (bbs_of (show Sq (eSq eU8 5) 22 w6 _ _ (.slice a6 lt.length c6) lt from q2)) HBG.out)
                  have H6 := Lib.hid (Held.pickL (us := [tBB (.slice a6 lt.length c6) lt, tLink p L, tBB (.slice a5 lo.length c5) lo]) (vs := [tLink p L]) h6 [1] (by decide) rfl)
                  clear h6 q1 q2 H5
                  go_wp2_with fail
                  refine HB.out.mono ?_
                  rintro e w7 ⟨rfl, rfl⟩
                  go_wp2_with fail
                  go_roundw
                  case rel => exact ⟨c + 1, by omega, by go_num, H6⟩
                  case measure => simp [intOf]; omega
                · obtain rfl : c = 4 := by omega
                  go_wp2_with fail
                  go_roundw
                  case rel => exact ⟨n + 1, by omega, by go_num, HO⟩
                  case measure => simp [intOf]; omega
            · obtain rfl : n = 2 := by omega
              go_wp2_with fail
              go_roundw
              case rel => exact ⟨k + 1, by omega, by go_num, by rw [HLE.out]; exact HO⟩
              case measure => simp [intOf]; omega
        · have hkl : k = el.length := by omega
          go_wp2_with fail
          go_ret
          exact ⟨rfl, HK.out.below⟩
  · refine (run_no 0 QS.out hs H2.out).mono ?_
    rintro e w2 ⟨rfl, hb⟩
    have H3 := Lib.hid (H2.out.own hb)
    clear hb H2 x0 x1 x2 x3 x4 x5 x6 x7 x8 x9 x10 x11 x12
    obtain ⟨x0, x1, x2, x3, x4, x5, x6, x7, x8, x9, x10, x11, x12⟩ := set_cells (H3.out.blk 5 QB.out)
    go_wp2_with fail
    refine (QS.out.small H3.out).mono ?_
    rw [decide_eq_false hs]
    rintro e w3 ⟨rfl, hb⟩
    have H4 := Lib.hid (H3.out.own hb)
    clear hb
    go_wp2_with fail
    go_ret
    exact ⟨rfl, H4.out.below⟩
end Go.Proofs.YtckdblgobmofgaaGreatDoor
