/- The walk of LinkRoom. -/
import Derived.Test.YtckdblgobmofgaaGreatDoorLsH
namespace Go.Proofs.YtckdblgobmofgaaGreatDoor
open Go.RowKit
set_option maxRecDepth 100000

set_option maxHeartbeats 16000000 in
theorem walkLinkRoom (W : World) (v0 v1 : Value) (o0 : IsSet W v0) (o1 : IsSl (rSlice rEvt) W v1) (ht : Tabs W) :
    Calls Tryz.prog 4 #[v0, v1] W fun e w' => e = .returned (.bool true) ∧ Below W.heap.size W w' := by
  obtain ⟨s, aa, ak, ba, bk, ta, tk, ya, yk, rfl, r1, r2, r3, r4⟩ := o0
  obtain ⟨el, hel⟩ := o1
  have r5 := evtss_of hel
  obtain ⟨ea, ec, rfl, _, _⟩ := r5.shape
  have H0 := Lib.hid (((((((Held.start0 (fun _ => False) (Old W) (fun _ f _ => f) W).addOld (T := tRd (eInt .i64) (.slice aa s.a.rooms.length ak) s.a.rooms) (RdS.mono r1 fun _ h => ⟨h, id⟩)).addOld (T := tRd (eInt .i64) (.slice ba s.b.rooms.length bk) s.b.rooms) (RdS.mono r2 fun _ h => ⟨h, id⟩)).addOld (T := tRd eFlt (.slice ta s.there.length tk) s.there) (RdS.mono r3 fun _ h => ⟨h, id⟩)).addOld (T := tRd eFlt (.slice ya s.back.length yk) s.back) (RdS.mono r4 fun _ h => ⟨h, id⟩)).addOld (T := tRd (eRd eEvt) (.slice ea el.length ec) el) (RdS.mono r5 fun _ h => ⟨h, id⟩)).new (setO s aa ak ba bk ta tk ya yk))
  obtain ⟨ts, hts⟩ : ∃ ts, ts = [tRd (eInt .i64) (.slice aa s.a.rooms.length ak) s.a.rooms, tRd (eInt .i64) (.slice ba s.b.rooms.length bk) s.b.rooms, tRd eFlt (.slice ta s.there.length tk) s.there, tRd eFlt (.slice ya s.back.length yk) s.back, tRd (eRd eEvt) (.slice ea el.length ec) el, tBlk W.heap.size (setO s aa ak ba bk ta tk ya yk)] := ⟨_, rfl⟩
  have H1 := Lib.hid (show Held (fun _ => False) (Old W) W ts _ by rw [hts]; exact H0.out)
  have QS := Lib.hid (show SetAt ts 0 s aa ak ba bk ta tk ya yk by rw [hts]; exact ⟨rfl, rfl, rfl, rfl⟩)
  have QE := Lib.hid (show ts[4]? = some (tRd (eRd eEvt) (.slice ea el.length ec) el) by rw [hts]; rfl)
  have QB := Lib.hid (show ts[5]? = some (tBlk W.heap.size (setO s aa ak ba bk ta tk ya yk)) by rw [hts]; rfl)
  have HT := Lib.hid ht
  clear H0 hts r1 r2 r3 r4 r5 hel ht
  go_enter Tryz.func4, Tryz.ntmps4
  go_wp2_with fail
  refine (awake_c _ (HT.out.below H1.out.below)).mono ?_
  rintro e w1 ⟨rfl, hb⟩
  have H2 := Lib.hid (H1.out.own hb)
  obtain ⟨x0, x1, x2, x3, x4, x5, x6, x7, x8, x9, x10, x11, x12⟩ := set_cells (H2.out.blk 5 QB.out)
  clear hb H1
  go_wp2_with fail
  by_cases hs : Small s
  · refine (run_yes 0 QS.out hs H2.out).mono ?_
    rintro e w2 ⟨p, rfl, h3⟩
    have H3 := Lib.hid h3
    clear h3 H2
    go_wp2_with fail
    obtain ⟨_, _, hev⟩ := H3.out.get 5 QE.out
    refine (long_c el ea ec (show RdS (eRd eEvt) w2 _ _ el from hev)).mono ?_
    rintro e w3 ⟨rfl, hb⟩
    have H4 := Lib.hid (H3.out.own hb)
    clear hb hev H3
    cases hl : longB el with
    | true =>
      clear x0 x1 x2 x3 x4 x5 x6 x7 x8 x9 x10 x11 x12
      obtain ⟨x0, x1, x2, x3, x4, x5, x6, x7, x8, x9, x10, x11, x12⟩ := set_cells (H4.out.blk 6 QB.out)
      go_wp2_with fail
      have HQ : SetAt (tLink p s.lk :: ts) 1 s aa ak ba bk ta tk ya yk := ⟨QS.out.a, QS.out.b, QS.out.t, QS.out.y⟩
      refine (HQ.small H4.out).mono ?_
      rw [decide_eq_true hs]
      rintro e w5 ⟨rfl, hb⟩
      have H5 := Lib.hid (H4.out.own hb)
      clear hb
      go_wp2_with fail
      go_ret
      exact ⟨rfl, H5.out.below⟩
    | false =>
      have HL := Lib.hid (fits_of hl)
      have hn60 := HL.out.n
      have HF := Lib.hid hs.full
      have HV := Lib.hid hs
      clear hl hs x0 x1 x2 x3 x4 x5 x6 x7 x8 x9 x10 x11 x12
      go_wp2_with fail
      go_loopw [34] (fun i wr => ∃ k : Nat, k ≤ el.length ∧ i = .int .i64 (k : Int) ∧ Hid (Held (fun _ => False) (Old W) W (tLink p (s.lk.runs (el.take k)) :: ts) wr)) (fun i _ => el.length - (intOf i).toNat)
      case atStart => exact ⟨0, by omega, by go_num, H4⟩
      case round =>
        clear H4
        obtain ⟨k, hk, rfl, HK⟩ := hrel
        by_cases hlt : k < el.length
        · obtain ⟨es, hes⟩ : ∃ es, el[k]? = some es := ⟨el[k], List.getElem?_eq_getElem hlt⟩
          have hmem := List.mem_of_getElem? hes
          have HRS := Lib.hid (s.lk.runs_take hes)
          have he6 := HL.out.e es hmem
          have HED := Lib.hid (HL.out.d es hmem)
          have hfull := runs_full (el.take k) HF.out (by omega) fun x hx => HL.out.e x (List.mem_of_mem_take hx)
          have htl : (el.take k).length = k := by rw [List.length_take]; omega
          rw [htl] at hfull
          have HFK := Lib.hid hfull
          have HRM := Lib.hid (runs_rooms (el.take (k + 1)) s.rms)
          clear hfull htl hmem
          obtain ⟨_, _, hev⟩ := HK.out.get 5 QE.out
          obtain ⟨b, off, xa, xc, rfl, k0, hrd⟩ := evts_at (show RdS (eRd eEvt) wr _ (.slice ea el.length ec) el from hev) hes
          have H5 := Lib.hid ((HK.out.weak (T := tRd eEvt (.slice xa es.length xc) es) 5 QE.out fun G Y hon => by
            obtain ⟨b', off', xa', xc', e1', k0', hrd'⟩ := evts_at (show RdS (eRd eEvt) wr Y (.slice (some ⟨b, off, none⟩) el.length ec) el from hon) hes
            obtain ⟨rfl, rfl⟩ : b = b' ∧ off = off' := by simpa using e1'
            rw [k0] at k0'
            obtain ⟨rfl, rfl⟩ : xa = xa' ∧ xc = xc' := by simpa using k0'
            exact hrd').front.pickL (us := [tRd eEvt (.slice xa es.length xc) es, tLink p (s.lk.runs (el.take k))]) (vs := [tLink p (s.lk.runs (el.take k)), tRd eEvt (.slice xa es.length xc) es]) [1, 0] (by decide) rfl)
          clear hev hrd HK hes
          go_wp2_with fail
          refine (tickL_c (ts := tRd eEvt (.slice xa es.length xc) es :: ts) HFK.out (by omega) es (by omega) (by omega) (fun e he => Nat.le_trans (HED.out e he) (by decide)) _ 0 rfl HT.out H5.out).mono ?_
          rintro e w4 ⟨a4, c4, rfl, h4⟩
          rw [← HRS.out] at h4
          have H6 := Lib.hid (Held.pickL (us := [tSq eNat 25 (.slice a4 ((s.lk.runs (el.take k)).acts es).1.length c4) ((s.lk.runs (el.take k)).acts es).1, tLink p (s.lk.runs (el.take (k + 1))), tRd eEvt (.slice xa es.length xc) es]) (vs := [tLink p (s.lk.runs (el.take (k + 1)))]) h4 [1] (by decide) rfl)
          have HF2 := Lib.hid (show (s.lk.runs (el.take (k + 1))).Full 1000000 False from by rw [HRS.out]; exact (HFK.out.step (by omega) es).mono (by omega) False.elim)
          clear h4 H5 k0
          obtain ⟨L, hLE⟩ : ∃ L, L = s.lk.runs (el.take (k + 1)) := ⟨_, rfl⟩
          have HLE := Lib.hid hLE.symm
          rw [← hLE] at H6 HF2 HRM
          clear hLE
          obtain ⟨x0, x1, x2, x3, x4, x5, x6, x7, x8, x9, x10, x11, x12⟩ := set_cells (H6.out.blk 6 QB.out)
          go_wp2_with fail
          have H7 := Lib.hid (((H6.out.new (.cells #[.slice aa s.a.rooms.length ak, .slice ba s.b.rooms.length bk] 28)).front).pickL (us := [tBlk w4.heap.size (.cells #[.slice aa s.a.rooms.length ak, .slice ba s.b.rooms.length bk] 28), tLink p L]) (vs := [tLink p L, tBlk w4.heap.size (.cells #[.slice aa s.a.rooms.length ak, .slice ba s.b.rooms.length bk] 28)]) [1, 0] (by decide) rfl)
          obtain ⟨cs, v, u, e1, e2, e3, h8⟩ := H7.out.link
          have E1 := Lib.hid e1
          have E2 := Lib.hid e2
          have E3 := Lib.hid e3
          have H8 := Lib.hid h8
          have QR0 : Hid ((tBlk p (lkRow cs) :: (endThs L.l v ++ (endThs L.r u ++ (tBlk w4.heap.size (.cells #[.slice aa s.a.rooms.length ak, .slice ba s.b.rooms.length bk] 28) :: ts))))[14]? = some (tRd (eInt .i64) (.slice aa s.a.rooms.length ak) s.a.rooms)) := Lib.hid QS.out.a
          have QR1 : Hid ((tBlk p (lkRow cs) :: (endThs L.l v ++ (endThs L.r u ++ (tBlk w4.heap.size (.cells #[.slice aa s.a.rooms.length ak, .slice ba s.b.rooms.length bk] 28) :: ts))))[15]? = some (tRd (eInt .i64) (.slice ba s.b.rooms.length bk) s.b.rooms)) := Lib.hid QS.out.b
          clear e1 e2 e3 h8 H7 H6 x0 x1 x2 x3 x4 x5 x6 x7 x8 x9 x10 x11 x12
          go_loopw [49] (fun i wr => ∃ n : Nat, n ≤ 2 ∧ i = .int .i64 (n : Int) ∧ Hid (Held (fun _ => False) (Old W) W (tBlk p (lkRow cs) :: (endThs L.l v ++ (endThs L.r u ++ (tBlk w4.heap.size (.cells #[.slice aa s.a.rooms.length ak, .slice ba s.b.rooms.length bk] 28) :: ts)))) wr)) (fun i _ => 2 - (intOf i).toNat)
          case atStart => exact ⟨0, by decide, rfl, H8⟩
          case round =>
            clear H8
            obtain ⟨n, hn, rfl, HO⟩ := hrel
            obtain rfl | rfl | rfl : n = 0 ∨ n = 1 ∨ n = 2 := by omega
            · have l0 := blk_cell (i := 0) (HO.out.blk 13 rfl) rfl
              have l1 := blk_cell (i := 1) (HO.out.blk 13 rfl) rfl
              go_wp2_with fail
              refine (port_o E1.out E2.out HO.out 0 (by decide)).mono ?_
              rintro e w5 ⟨rfl, rfl⟩
              go_wp2_with fail
              refine (overflows_any HO.out 1 rfl).mono ?_
              rintro e w5 ⟨rfl, rfl⟩
              rw [(show L.l.prt.overflows = 0 from (HF2.out).room.1)]
              go_wp2_with fail
              go_loopw [61] (fun i wr => ∃ k : Nat, k ≤ s.a.rooms.length ∧ i = .int .i64 (k : Int) ∧ Hid (Held (fun _ => False) (Old W) W (tBlk p (lkRow cs) :: (endThs L.l v ++ (endThs L.r u ++ (tBlk w4.heap.size (.cells #[.slice aa s.a.rooms.length ak, .slice ba s.b.rooms.length bk] 28) :: ts)))) wr)) (fun i _ => s.a.rooms.length - (intOf i).toNat)
              case atStart => exact ⟨0, by omega, by go_num, HO⟩
              case round =>
                clear HO l0 l1
                obtain ⟨c, hc, rfl, HO⟩ := hrel
                have h4 : s.a.rooms.length ≤ 4 := (HV.out.1).2.1.2.1
                by_cases hlc : c < s.a.rooms.length
                · obtain ⟨x, hx⟩ : ∃ x, s.a.rooms[c]? = some x := ⟨s.a.rooms[c], List.getElem?_eq_getElem hlc⟩
                  obtain ⟨_, _, hrd⟩ := HO.out.get 14 (QR0.out)
                  obtain ⟨rb, ro, e, hcell⟩ := nums_of (show RdS (eInt .i64) _ _ (.slice aa s.a.rooms.length ak) s.a.rooms from hrd) c x hx
                  obtain ⟨hcl, hcx⟩ := rooms_at (c := s.a) (rooms := L.l.prt.rooms) HV.out.1 HRM.out.1 hx
                  obtain ⟨g1, g2⟩ := (HF2.out).holds (c := c) hcl
                  have HOK := Lib.hid (show L.l.prt.Ok 1000000 by obtain ⟨_, i⟩ := HF2.out.fit.l; exact i.ok)
                  have HCL := Lib.hid hcl
                  have gn := getD_all (P := fun y => y ≤ 1000000) HOK.out.ren (d := 0) (Nat.zero_le _) c
                  subst e
                  clear hrd hx
                  go_wp2_with fail
                  refine (port_o E1.out E2.out HO.out 0 (by decide)).mono ?_
                  rintro e w5 ⟨rfl, rfl⟩
                  go_wp2_with fail
                  refine (counts_any HO.out 1 rfl HOK.out (by decide) c HCL.out).mono ?_
                  rintro e w6 ⟨rfl, h6⟩
                  have HO6 := Lib.hid h6
                  clear h6 HO hcell
                  generalize L.l.prt.acked.getD c 0 = q1 at *
                  generalize L.l.prt.received.getD c 0 = q2 at *
                  generalize L.l.prt.taken.getD c 0 = q3 at *
                  generalize L.l.prt.rooms.getD c 0 = q4 at *
                  have hw : IntKind.i64.wrap ((q2 : Int) - (q3 : Int)) = (q2 : Int) - (q3 : Int) := IntWalk.i64_in _ (by omega)
                  go_wp2_with fail
                  go_roundw
                  case rel => exact ⟨c + 1, by omega, by go_num, HO6⟩
                  case measure => simp [intOf]; omega
                · have hcl : c = s.a.rooms.length := by omega
                  go_wp2_with fail
                  go_roundw
                  case rel => exact ⟨1, by decide, by go_num, HO⟩
                  case measure => simp [intOf]
            · have l0 := blk_cell (i := 0) (HO.out.blk 13 rfl) rfl
              have l1 := blk_cell (i := 1) (HO.out.blk 13 rfl) rfl
              go_wp2_with fail
              refine (port_o E1.out E2.out HO.out 1 (by decide)).mono ?_
              rintro e w5 ⟨rfl, rfl⟩
              go_wp2_with fail
              refine (overflows_any HO.out 7 rfl).mono ?_
              rintro e w5 ⟨rfl, rfl⟩
              rw [(show L.r.prt.overflows = 0 from (HF2.out.swap).room.1)]
              go_wp2_with fail
              go_loopw [61] (fun i wr => ∃ k : Nat, k ≤ s.b.rooms.length ∧ i = .int .i64 (k : Int) ∧ Hid (Held (fun _ => False) (Old W) W (tBlk p (lkRow cs) :: (endThs L.l v ++ (endThs L.r u ++ (tBlk w4.heap.size (.cells #[.slice aa s.a.rooms.length ak, .slice ba s.b.rooms.length bk] 28) :: ts)))) wr)) (fun i _ => s.b.rooms.length - (intOf i).toNat)
              case atStart => exact ⟨0, by omega, by go_num, HO⟩
              case round =>
                clear HO l0 l1
                obtain ⟨c, hc, rfl, HO⟩ := hrel
                have h4 : s.b.rooms.length ≤ 4 := (HV.out.2.1).2.1.2.1
                by_cases hlc : c < s.b.rooms.length
                · obtain ⟨x, hx⟩ : ∃ x, s.b.rooms[c]? = some x := ⟨s.b.rooms[c], List.getElem?_eq_getElem hlc⟩
                  obtain ⟨_, _, hrd⟩ := HO.out.get 15 (QR1.out)
                  obtain ⟨rb, ro, e, hcell⟩ := nums_of (show RdS (eInt .i64) _ _ (.slice ba s.b.rooms.length bk) s.b.rooms from hrd) c x hx
                  obtain ⟨hcl, hcx⟩ := rooms_at (c := s.b) (rooms := L.r.prt.rooms) HV.out.2.1 HRM.out.2 hx
                  obtain ⟨g1, g2⟩ := (HF2.out.swap).holds (c := c) hcl
                  have HOK := Lib.hid (show L.r.prt.Ok 1000000 by obtain ⟨_, i⟩ := HF2.out.fit.r; exact i.ok)
                  have HCL := Lib.hid hcl
                  have gn := getD_all (P := fun y => y ≤ 1000000) HOK.out.ren (d := 0) (Nat.zero_le _) c
                  subst e
                  clear hrd hx
                  go_wp2_with fail
                  refine (port_o E1.out E2.out HO.out 1 (by decide)).mono ?_
                  rintro e w5 ⟨rfl, rfl⟩
                  go_wp2_with fail
                  refine (counts_any HO.out 7 rfl HOK.out (by decide) c HCL.out).mono ?_
                  rintro e w6 ⟨rfl, h6⟩
                  have HO6 := Lib.hid h6
                  clear h6 HO hcell
                  generalize L.r.prt.acked.getD c 0 = q1 at *
                  generalize L.r.prt.received.getD c 0 = q2 at *
                  generalize L.r.prt.taken.getD c 0 = q3 at *
                  generalize L.r.prt.rooms.getD c 0 = q4 at *
                  have hw : IntKind.i64.wrap ((q2 : Int) - (q3 : Int)) = (q2 : Int) - (q3 : Int) := IntWalk.i64_in _ (by omega)
                  go_wp2_with fail
                  go_roundw
                  case rel => exact ⟨c + 1, by omega, by go_num, HO6⟩
                  case measure => simp [intOf]; omega
                · have hcl : c = s.b.rooms.length := by omega
                  go_wp2_with fail
                  go_roundw
                  case rel => exact ⟨2, by decide, by go_num, HO⟩
                  case measure => simp [intOf]
            · go_wp2_with fail
              have H9 := Lib.hid ((HO.out.link_shut E1.out E2.out E3.out).pickL (us := [tLink p L, tBlk w4.heap.size (.cells #[.slice aa s.a.rooms.length ak, .slice ba s.b.rooms.length bk] 28)]) (vs := [tLink p L]) [0] (by decide) rfl)
              go_roundw
              case rel => exact ⟨k + 1, by omega, by go_num, by rw [HLE.out]; exact H9⟩
              case measure => simp [intOf]; omega
        · have hkl : k = el.length := by omega
          go_wp2_with fail
          go_ret
          exact ⟨rfl, HK.out.below⟩
  · refine (run_no 0 QS.out hs H2.out).mono ?_
    rintro e w2 ⟨rfl, hb⟩
    have H3 := Lib.hid (H2.out.own hb)
    clear hb H2 x0 x1 x2 x3 x4 x5 x6 x7 x8 x9 x10 x11 x12
    obtain ⟨x0, x1, x2, x3, x4, x5, x6, x7, x8, x9, x10, x11, x12⟩ := set_cells (H3.out.blk 5 QB.out)
    go_wp2_with fail
    refine (QS.out.small H3.out).mono ?_
    rw [decide_eq_false hs]
    rintro e w3 ⟨rfl, hb⟩
    have H4 := Lib.hid (H3.out.own hb)
    clear hb
    go_wp2_with fail
    go_ret
    exact ⟨rfl, H4.out.below⟩
end Go.Proofs.YtckdblgobmofgaaGreatDoor
