/- The walk of PortStale. -/
import Derived.Test.YtcocnfbhileheaaPotF
import Derived.Test.YtcocnfbhileheaaMgA
import Derived.Deep.QuietTactic
import Derived.BigQuiet
namespace Go.Proofs.Ytcocnfbhileheaa
open Go.RowKit

set_option maxRecDepth 100000 in
set_option maxHeartbeats 16000000 in
theorem walkPortStale (W : World) (v0 v1 : Value) (o0 : IsSl rPt W v0) (o1 : IsBool v1) :
    Calls Try.prog 3 #[v0, v1] W fun e w' => e = .returned (.bool true) ∧ Below W.heap.size W w' := by
  obtain ⟨l, ho⟩ := pts_of o0
  obtain ⟨up, rfl⟩ := o1
  obtain ⟨oa, oc, rfl, _, _⟩ := ho.shape
  have HS := Lib.hid ((Held.start0 (fun _ => False) (Old W) (fun _ f _ => f) W).addOld (T := tRd ePt (.slice oa l.length oc) l) (RdS.mono ho fun k h => ⟨h, id⟩))
  clear ho o0
  go_enter Try.func3, Try.ntmps3
  go_wp2_with fail
  refine (awake_any W).mono ?_
  rintro e w1 ⟨rfl, hb⟩
  have H1 := Lib.hid (HS.out.own hb); have HB1 := Lib.hid hb; clear hb
  by_cases hbig : 10 < l.length
  · go_wp2_with fail
    go_ret
    exact ⟨rfl, HB1.out⟩
  · go_wp2_with fail
    have H2 := Lib.hid ((H1.out.new (.cells #[.int .i64 2, .int .i64 2] 3)).new (.cells #[.int .i64 5, .slice (some ⟨w1.heap.size, 0, none⟩) 2 2, .int .i64 4, .int .i64 3, .int .i64 9] 26))
    rw [World.size_alloc] at H2
    refine (pnew_any (inc := 5) (wi := 4) (ti := 3) (de := 9) (rooms := [2, 2]) (rb := w1.heap.size) (ro := 0) (rc := 2) _ ⟨by decide, by decide, by decide, by decide, by decide, by decide, by decide, by decide, by decide, by decide, by decide⟩ (by decide) (by decide) (two_rooms (H2.out.blk 1 rfl))).mono ?_
    rintro e w2 ⟨p, rfl, hm⟩
    have H3 := Lib.hid (H2.out.made hm)
    clear hm H2
    have hcfg := H3.out.blk 2 rfl
    have a0 := blk_cell (i := 0) hcfg rfl
    have a1 := blk_cell (i := 1) hcfg rfl
    have a2 := blk_cell (i := 2) hcfg rfl
    have a3 := blk_cell (i := 3) hcfg rfl
    have a4 := blk_cell (i := 4) hcfg rfl
    clear hcfg
    go_wp2_with fail
    refine (pnew_any (inc := 5) (wi := 4) (ti := 3) (de := 9) (rooms := [2, 2]) (rb := w1.heap.size) (ro := 0) (rc := 2) w2 ⟨by decide, by decide, by decide, by decide, by decide, by decide, by decide, by decide, by decide, by decide, by decide⟩ (by decide) (by decide) (two_rooms (H3.out.blk 1 rfl))).mono ?_
    rintro e w3 ⟨q, rfl, hm⟩
    have h4 := (H3.out.made hm).add (Below.refl _ _) (T := tSq ePt 33 (.slice none 0 0) []) (Sq.nil _ _ _ _ _)
    have H4 := Lib.hid (h4.pick [5, 3, 4, 0] [tSq ePt 33 (.slice none 0 0) [], tPort p stl0, tPort q stl0, tRd ePt (.slice oa l.length oc) l] (by decide) rfl)
    clear hm h4 H3 a0 a1 a2 a3 a4
    go_wp2_with fail
    go_loopw [56, 10] (fun i u wr => ∃ (k : Nat) (xs : List Pt) (sa : Option Addr) (sc : Nat), k ≤ l.length ∧ i = .int .i64 (k : Int) ∧ u = .slice sa xs.length sc ∧ Hid (xs = (l.take k).filter (stale up)) ∧ xs.length ≤ 10 ∧ Hid (∀ x ∈ l.take k, x.pay.length ≤ 200) ∧ Hid (Held (fun _ => False) (Old W) W [tSq ePt 33 (.slice sa xs.length sc) xs, tPort p stl0, tPort q stl0, tRd ePt (.slice oa l.length oc) l] wr)) (fun i _ _ => l.length - (intOf i).toNat)
    case atStart => exact ⟨0, [], none, 0, Nat.zero_le _, rfl, rfl, Lib.hid rfl, by simp, Lib.hid (by simp), H4⟩
    case round =>
      clear H4
      obtain ⟨k, xs, sa, sc, hk, rfl, rfl, HXS, hx10, HSM, HK⟩ := hrel
      have hz : W.heap.size ≤ wr.heap.size := HK.out.below.size
      by_cases hlt : k < l.length
      · obtain ⟨x, hx⟩ : ∃ x, l[k]? = some x := ⟨_, List.getElem?_eq_getElem hlt⟩
        obtain ⟨_, _, hrd⟩ := HK.out.get 3 (T := tRd ePt (.slice oa l.length oc) l) rfl
        obtain ⟨b, off, pa, pc, e1, _, k0, k1, k2, k3, k4⟩ := pt_at hrd hx
        subst e1
        have HP := Lib.hid (show ∀ Y, Others [tSq ePt 33 (.slice sa xs.length sc) xs, tPort p stl0, tPort q stl0, tRd ePt (.slice (some ⟨b, off, none⟩) l.length oc) l] 0 wr Y → ByZ wr Y (.slice pa x.pay.length pc) x.pay from fun Y hoth => by
          have hr := (hoth 3 (tRd ePt (.slice (some ⟨b, off, none⟩) l.length oc) l) (by decide) rfl).choose_spec.2
          obtain ⟨b', off', pa', pc', e', hby, _, _, _, _, k4'⟩ := pt_at (show RdS ePt wr Y (.slice (some ⟨b, off, none⟩) l.length oc) l from hr) hx
          obtain ⟨rfl, rfl⟩ : b = b' ∧ off = off' := by simpa using e'
          rw [k4] at k4'
          obtain ⟨rfl, rfl⟩ : pa = pa' ∧ pc = pc' := by simpa using k4'
          exact hby)
        have HTK := Lib.hid (show l.take (k + 1) = l.take k ++ [x] by rw [List.take_add_one, hx]; rfl)
        clear hrd hx
        by_cases hpay : 200 < x.pay.length
        · go_wp2_with fail
          go_ret
          exact ⟨rfl, HK.out.below.trans ((below_alloc wr _).mono hz)⟩
        · have hpl : x.pay.length ≤ 200 := by omega
          have HSM' := Lib.hid (show ∀ y ∈ l.take (k + 1), y.pay.length ≤ 200 from fun y hy => by
            rw [HTK.out] at hy
            rcases List.mem_append.1 hy with hy | hy
            · exact HSM.out y hy
            · rw [List.mem_singleton.1 hy]; exact hpl)
          clear HSM
          by_cases hst : stale up x = true
          · have HF := Lib.hid (show xs ++ [x] = (l.take (k + 1)).filter (stale up) by rw [HTK.out, List.filter_append, List.filter_cons, if_pos hst, HXS.out]; rfl)
            have hst' := hst
            unfold stale at hst'
            simp only [Bool.and_eq_true, Bool.or_eq_true, Bool.not_eq_true', decide_eq_true_eq] at hst'
            have b1 : ((U x.kind : Int) != 1) = true := by
              rw [bne_iff_ne]; intro e; exact hst'.1 (U_inj.1 (e.trans (by rfl : (1 : Int) = U (1#8))))
            have hln : xs.length + 1 = (xs ++ [x]).length := by simp
            have hl10 : (xs ++ [x]).length ≤ 10 := by
              rw [HF.out]
              refine Nat.le_trans (List.length_filter_le _ _) (Nat.le_trans (List.length_take_le ..) ?_)
              omega
            have HFF := Lib.hid (And.intro hln hl10)
            obtain ⟨_, h2⟩ := hst'
            clear hst hln hl10
            cases up with
            | false =>
              clear h2
              go_wp2_with (at_builtin; refine wpList_app_pt (xs := xs) (x := x) (pa := pa) (pn := x.pay.length) (pc := pc) rfl _ _ rfl HK.out 0 rfl HP.out (by (repeat (first | (with_reducible exact Below.refl _ _) | (with_reducible refine Bw.alloc ?_ _) | (with_reducible refine Bw.drewN ?_ _) | (with_reducible refine Bw.drew ?_)))) (by omega) rfl (wr.heap.size + 1) rfl (alloc_second _ _ _) ?_; intro va vc w5 h5; have H5 := Lib.hid h5; clear h5)
              go_roundw
              case rel => exact ⟨k + 1, xs ++ [x], va, vc, by omega, by go_num, by rw [HFF.out.1], HF, HFF.out.2, HSM', H5⟩
              case measure => simp [intOf]; omega
            | true =>
              have b2 : ((x.value : Int) != 9) = true := by
                rw [bne_iff_ne]; exact h2.resolve_left (by simp)
              clear h2
              go_wp2_with (at_builtin; refine wpList_app_pt (xs := xs) (x := x) (pa := pa) (pn := x.pay.length) (pc := pc) rfl _ _ rfl HK.out 0 rfl HP.out (by (repeat (first | (with_reducible exact Below.refl _ _) | (with_reducible refine Bw.alloc ?_ _) | (with_reducible refine Bw.drewN ?_ _) | (with_reducible refine Bw.drew ?_)))) (by omega) rfl (wr.heap.size + 1) rfl (alloc_second _ _ _) ?_; intro va vc w5 h5; have H5 := Lib.hid h5; clear h5)
              go_roundw
              case rel => exact ⟨k + 1, xs ++ [x], va, vc, by omega, by go_num, by rw [HFF.out.1], HF, HFF.out.2, HSM', H5⟩
              case measure => simp [intOf]; omega
          · have HF := Lib.hid (show xs = (l.take (k + 1)).filter (stale up) by rw [HTK.out, List.filter_append, List.filter_cons, if_neg hst, HXS.out]; simp)
            by_cases hk1 : x.kind = 1#8
            · have b1 : ((U x.kind : Int) != 1) = false := by rw [hk1]; rfl
              clear hst
              go_wp2_with fail
              go_roundw
              case rel => exact ⟨k + 1, xs, sa, sc, by omega, by go_num, rfl, HF, hx10, HSM', Lib.hid (HK.out.alloc _)⟩
              case measure => simp [intOf]; omega
            · have b1 : ((U x.kind : Int) != 1) = true := by
                rw [bne_iff_ne]; intro e; exact hk1 (U_inj.1 (e.trans (by rfl : (1 : Int) = U (1#8))))
              unfold stale at hst
              obtain ⟨rfl, h9⟩ : up = true ∧ x.value = 9 := by
                cases up
                · exact absurd (by simp [hk1]) hst
                · exact ⟨rfl, Decidable.byContradiction fun h => hst (by simp [hk1, h])⟩
              have b2 : ((x.value : Int) != 9) = false := by rw [h9]; rfl
              clear hst
              go_wp2_with fail
              go_roundw
              case rel => exact ⟨k + 1, xs, sa, sc, by omega, by go_num, rfl, HF, hx10, HSM', Lib.hid (HK.out.alloc _)⟩
              case measure => simp [intOf]; omega
      · obtain rfl : l.length = k := by omega
        rw [List.take_length] at HXS HSM
        go_upto_if 83 with fail
        go_cut [] from 84 to 87 (fun wc => Hid (Held (fun _ => False) (Old W) W [tSq ePt 33 (.slice (some ⟨wr.heap.size, 0, none⟩) 1 1) [stlG up], tSq ePt 33 (.slice sa xs.length sc) xs, tPort p stl0, tPort q stl0, tRd ePt (.slice oa l.length oc) l] wc))
        case first =>
          have HG := Lib.hid (fun v : Nat => HK.out.lit_pt (x := (⟨1#8, 0, 9, (v : Int), []⟩ : Pt)) (v := .slice none 0 0) fun Y => ByZ.nil _ Y)
          cases up with
          | false =>
            go_wp2_with fail
            go_meet
            exact Lib.hid (HG.out 4)
          | true =>
            go_wp2_with fail
            go_meet
            exact Lib.hid (HG.out 5)
        case rest =>
          obtain ⟨lb, hlb⟩ : ∃ lb, lb = wc.heap.size := ⟨_, rfl⟩
          have HK2 := Lib.hid ((hcut.out.freeze 0 rfl ePt_rd).new (.cells #[.pointer (some ⟨p, 0, none⟩), .pointer (some ⟨q, 0, none⟩)] 27))
          obtain ⟨gb, hgb⟩ : ∃ gb, gb = wr.heap.size := ⟨_, rfl⟩
          rw [← hlb, ← hgb] at HK2
          have HLB := Lib.hid hlb
          clear hcut HK
          rw [← hgb]
          clear hgb
          go_wp2_with fail
          go_loopw [91, 15] (fun i _ wr => ∃ (k : Nat), k ≤ 2 ∧ i = .int .i64 (k : Int) ∧ Hid (Held (fun _ => False) (Old W) W [tRd ePt (.slice (some ⟨gb, 0, none⟩) 1 1) [stlG up], tSq ePt 33 (.slice sa xs.length sc) xs, tPort p (if 0 < k then stl2 up else stl0), tPort q (if 1 < k then stl2 up else stl0), tRd ePt (.slice oa l.length oc) l, tBlk lb (.cells #[.pointer (some ⟨p, 0, none⟩), .pointer (some ⟨q, 0, none⟩)] 27)] wr)) (fun i _ _ => 2 - (intOf i).toNat)
          case atStart => exact ⟨0, by omega, rfl, HK2⟩
          case round =>
            clear HK2
            obtain ⟨k, hk, rfl, HQ⟩ := hrel
            have hrow := HQ.out.blk 5 rfl
            have l0 : wr.cell? ⟨lb, 0, none⟩ = some (.pointer (some ⟨p, 0, none⟩)) := blk_cell (i := 0) hrow rfl
            have l1 : wr.cell? ⟨lb, 1, none⟩ = some (.pointer (some ⟨q, 0, none⟩)) := blk_cell (i := 1) hrow rfl
            rw [HLB.out] at l0 l1
            clear hrow
            obtain rfl | rfl | rfl : k = 0 ∨ k = 1 ∨ k = 2 := by omega
            · have H0 := Lib.hid (show Held (fun _ => False) (Old W) W [tRd ePt (.slice (some ⟨gb, 0, none⟩) 1 1) [stlG up], tSq ePt 33 (.slice sa xs.length sc) xs, tPort p stl0, tPort q stl0, tRd ePt (.slice oa l.length oc) l, tBlk lb (.cells #[.pointer (some ⟨p, 0, none⟩), .pointer (some ⟨q, 0, none⟩)] 27)] wr from HQ.out)
              clear HQ
              go_wp2_with fail
              refine (show Calls Try.prog 14 #[.pointer (some ⟨p, 0, none⟩), .int .i64 0, .slice (some ⟨wr.heap.size, 0, none⟩) 1 1] (wr.alloc (.cells #[.int .u8 1] 5)) _ from poffer_yes (H0.out.lit_by 1#8 5) 2 6 rfl stl0_ok (by decide) 0 (by decide) (.slice (some ⟨wr.heap.size, 0, none⟩) 1 1) [1#8] rfl (by decide) (by decide) (by decide)).mono ?_
              rintro e w5 ⟨rfl, h⟩
              rw [stl1_eq] at h
              have H5 := Lib.hid (h.pick [2, 0, 1, 3, 4, 5] [tPort p stl1, tRd ePt (.slice (some ⟨gb, 0, none⟩) 1 1) [stlG up], tSq ePt 33 (.slice sa xs.length sc) xs, tPort q stl0, tRd ePt (.slice oa l.length oc) l, tBlk lb (.cells #[.pointer (some ⟨p, 0, none⟩), .pointer (some ⟨q, 0, none⟩)] 27)] (by decide) rfl)
              clear h H0
              go_wp2_with fail
              refine (tick_c [stlG up] (.slice (some ⟨gb, 0, none⟩) 1 1) stl1_ok rfl (by rw [List.length_singleton]; decide) (by simp) H5.out 0 rfl).mono ?_
              rintro e w6 ⟨ta, tc, rfl, h⟩
              have H6 := Lib.hid (h.pick [2, 3, 1, 4, 5, 6] [tRd ePt (.slice (some ⟨gb, 0, none⟩) 1 1) [stlG up], tSq ePt 33 (.slice sa xs.length sc) xs, tPort p (stl2 up), tPort q stl0, tRd ePt (.slice oa l.length oc) l, tBlk lb (.cells #[.pointer (some ⟨p, 0, none⟩), .pointer (some ⟨q, 0, none⟩)] 27)] (by decide) rfl)
              clear h H5
              go_wp2_with fail
              go_roundw
              case rel => exact ⟨1, by omega, by go_num, H6⟩
              case measure => simp [intOf]
            · have H0 := Lib.hid (show Held (fun _ => False) (Old W) W [tRd ePt (.slice (some ⟨gb, 0, none⟩) 1 1) [stlG up], tSq ePt 33 (.slice sa xs.length sc) xs, tPort p (stl2 up), tPort q stl0, tRd ePt (.slice oa l.length oc) l, tBlk lb (.cells #[.pointer (some ⟨p, 0, none⟩), .pointer (some ⟨q, 0, none⟩)] 27)] wr from HQ.out)
              clear HQ
              go_wp2_with fail
              refine (show Calls Try.prog 14 #[.pointer (some ⟨q, 0, none⟩), .int .i64 0, .slice (some ⟨wr.heap.size, 0, none⟩) 1 1] (wr.alloc (.cells #[.int .u8 1] 5)) _ from poffer_yes (H0.out.lit_by 1#8 5) 3 6 rfl stl0_ok (by decide) 0 (by decide) (.slice (some ⟨wr.heap.size, 0, none⟩) 1 1) [1#8] rfl (by decide) (by decide) (by decide)).mono ?_
              rintro e w5 ⟨rfl, h⟩
              rw [stl1_eq] at h
              have H5 := Lib.hid (h.pick [3, 0, 1, 2, 4, 5] [tPort q stl1, tRd ePt (.slice (some ⟨gb, 0, none⟩) 1 1) [stlG up], tSq ePt 33 (.slice sa xs.length sc) xs, tPort p (stl2 up), tRd ePt (.slice oa l.length oc) l, tBlk lb (.cells #[.pointer (some ⟨p, 0, none⟩), .pointer (some ⟨q, 0, none⟩)] 27)] (by decide) rfl)
              clear h H0
              go_wp2_with fail
              refine (tick_c [stlG up] (.slice (some ⟨gb, 0, none⟩) 1 1) stl1_ok rfl (by rw [List.length_singleton]; decide) (by simp) H5.out 0 rfl).mono ?_
              rintro e w6 ⟨ta, tc, rfl, h⟩
              have H6 := Lib.hid (h.pick [2, 3, 4, 1, 5, 6] [tRd ePt (.slice (some ⟨gb, 0, none⟩) 1 1) [stlG up], tSq ePt 33 (.slice sa xs.length sc) xs, tPort p (stl2 up), tPort q (stl2 up), tRd ePt (.slice oa l.length oc) l, tBlk lb (.cells #[.pointer (some ⟨p, 0, none⟩), .pointer (some ⟨q, 0, none⟩)] 27)] (by decide) rfl)
              clear h H5
              go_wp2_with fail
              go_roundw
              case rel => exact ⟨2, by omega, by go_num, H6⟩
              case measure => simp [intOf]
            · have H7 := Lib.hid (show Held (fun _ => False) (Old W) W [tRd ePt (.slice (some ⟨gb, 0, none⟩) 1 1) [stlG up], tSq ePt 33 (.slice sa xs.length sc) xs, tPort p (stl2 up), tPort q (stl2 up), tRd ePt (.slice oa l.length oc) l, tBlk lb (.cells #[.pointer (some ⟨p, 0, none⟩), .pointer (some ⟨q, 0, none⟩)] 27)] wr from HQ.out)
              clear HQ l0 l1
              have hy := ((H7.out.freeze 1 rfl ePt_rd).lit0_pt)
              have HY := Lib.hid hy
              clear hy
              go_wp2_with (first
                | (at_builtin; refine wpList_app_pt (xs := xs) (x := stlC) (pa := none) (pn := 0) (pc := 0) rfl _ _ rfl H8.out 0 rfl (fun Y _ => ByZ.nil _ Y) (below_alloc _ _) (by omega) rfl w5.heap.size rfl (heap_alloc_new w5 _) ?_; intro ta tc w6 h6; have H9 := Lib.hid h6; clear h6)
                | (at_builtin; refine wpList_app_pts (xs := []) (ys := xs) (yv := .slice sa xs.length sc) rfl _ _ rfl HY.out 0 rfl 2 rfl (by decide) (by simp; omega) rfl rfl ?_; intro va vc w5 h5; rw [List.nil_append] at h5; rw [show ([] : List Pt).length + xs.length = xs.length from Nat.zero_add _]; have H8 := Lib.hid h5; clear h5))
              clear HY H7
              have HIN := Lib.hid (show ∀ y ∈ xs ++ [stlC], y.pay.length ≤ 1000 from fun y hy => by
                rcases List.mem_append.1 hy with hy | hy
                · rw [HXS.out] at hy
                  exact Nat.le_trans (HSM.out y (List.mem_filter.1 hy).1) (by decide)
                · rw [List.mem_singleton.1 hy]; exact Nat.zero_le _)
              have H10 := Lib.hid (((show Held (fun _ => False) (Old W) W (tSq ePt 33 (.slice ta (xs ++ [stlC]).length tc) (xs ++ [stlC]) :: [tRd ePt (.slice (some ⟨gb, 0, none⟩) 1 1) [stlG up], tRd ePt (.slice sa xs.length sc) xs, tPort p (stl2 up), tPort q (stl2 up), tRd ePt (.slice oa l.length oc) l, tBlk lb (.cells #[.pointer (some ⟨p, 0, none⟩), .pointer (some ⟨q, 0, none⟩)] 27)]) w6 from H9.out).freeze 0 rfl ePt_rd).pick [3, 0, 4] [tPort p (stl2 up), tRd ePt (.slice ta (xs ++ [stlC]).length tc) (xs ++ [stlC]), tPort q (stl2 up)] (by decide) rfl)
              clear H8 H9
              rw [show xs.length + 1 = (xs ++ [stlC]).length by simp]
              refine (tick_c (xs ++ [stlC]) (.slice ta (xs ++ [stlC]).length tc) (stl2_ok up) (by cases up <;> rfl) (by rw [List.length_append, List.length_singleton]; omega) HIN.out H10.out 0 rfl).mono ?_
              rintro e w7 ⟨pa, pc, rfl, h⟩
              rw [HXS.out, stale_tick] at h ⊢
              have H11 := Lib.hid (h.pick [3, 0, 1] [tPort q (stl2 up), tSq ePt 33 (.slice pa ((stl2 up).tick [stlC]).1.length pc) ((stl2 up).tick [stlC]).1, tPort p (stl3 up)] (by decide) rfl)
              clear h H10 HIN
              obtain ⟨ys, hys⟩ : ∃ ys, ys = ((stl2 up).tick [stlC]).1 := ⟨_, rfl⟩
              have hyl : ys.length ≤ 5 := by rw [hys]; cases up <;> decide
              have HYS := Lib.hid hys
              rw [← hys] at H11 ⊢
              clear hys
              go_wp2_with fail
              have HG2 := Lib.hid ((show Held (fun _ => False) (Old W) W (tSq ePt 33 (.slice (some ⟨w7.heap.size, 0, none⟩) 1 1) [stlC] :: [tPort q (stl2 up), tSq ePt 33 (.slice pa ys.length pc) ys, tPort p (stl3 up)]) (w7.alloc (ptCells stlC (.slice none 0 0))) from H11.out.lit_pt (x := stlC) (v := .slice none 0 0) fun Y => ByZ.nil _ Y).freeze 0 rfl ePt_rd |>.pick [1, 0, 2, 3] [tPort q (stl2 up), tRd ePt (.slice (some ⟨w7.heap.size, 0, none⟩) 1 1) [stlC], tSq ePt 33 (.slice pa ys.length pc) ys, tPort p (stl3 up)] (by decide) rfl)
              clear H11
              refine (show Calls Try.prog 15 #[.pointer (some ⟨q, 0, none⟩), .slice (some ⟨w7.heap.size, 0, none⟩) 1 1] (w7.alloc (.cells #[.int .u8 4, .int .i64 0, .int .i64 1, .int .i64 9, .slice none 0 0] 33)) _ from tick_c [stlC] (.slice (some ⟨w7.heap.size, 0, none⟩) 1 1) (stl2_ok up) (by cases up <;> rfl) (by rw [List.length_singleton]; decide) (by simp) HG2.out 0 rfl).mono ?_
              rintro e w8 ⟨qa, qc, rfl, h⟩
              rw [← HYS.out] at h ⊢
              have H12 := Lib.hid (((show Held (fun _ => False) (Old W) W (tSq ePt 33 (.slice qa ys.length qc) ys :: tPort q (stl3 up) :: [tRd ePt (.slice (some ⟨w7.heap.size, 0, none⟩) 1 1) [stlC], tSq ePt 33 (.slice pa ys.length pc) ys, tPort p (stl3 up)]) w8 from h).freeze 0 rfl ePt_rd |>.freeze 3 rfl ePt_rd).pick [4, 1, 3, 0] [tPort p (stl3 up), tPort q (stl3 up), tRd ePt (.slice pa ys.length pc) ys, tRd ePt (.slice qa ys.length qc) ys] (by decide) rfl)
              clear h HG2
              have HUP := Lib.hid (show decide ((stl3 up).side.state = 2) = up by rw [stl3_state]; cases up <;> rfl)
              have HU0 := Lib.hid (show Calls Try.prog 16 #[.pointer (some ⟨p, 0, none⟩)] w8 fun e w' => e = .returned (.bool up) ∧ w8 = w' by have := up_any H12.out 0 rfl; rwa [HUP.out] at this)
              have HU1 := Lib.hid (show Calls Try.prog 16 #[.pointer (some ⟨q, 0, none⟩)] w8 fun e w' => e = .returned (.bool up) ∧ w8 = w' by have := up_any H12.out 1 rfl; rwa [HUP.out] at this)
              have b1 : ((ys.length : Int) != (ys.length : Int)) = false := by simp
              have b2 : (up != up) = false := by simp
              go_wp2_with fail
              refine HU0.out.mono ?_
              rintro e w' ⟨rfl, rfl⟩
              go_wp2_with fail
              refine HU1.out.mono ?_
              rintro e w' ⟨rfl, rfl⟩
              go_wp2_with fail
              go_loopw [133, 18] (fun i _ wr => ∃ (k : Nat), k ≤ ys.length ∧ i = .int .i64 (k : Int) ∧ Hid (Held (fun _ => False) (Old W) W [tPort p (stl3 up), tPort q (stl3 up), tRd ePt (.slice pa ys.length pc) ys, tRd ePt (.slice qa ys.length qc) ys] wr)) (fun i _ _ => ys.length - (intOf i).toNat)
              case atStart => exact ⟨0, Nat.zero_le _, rfl, H12⟩
              case round =>
                clear H12 HU0 HU1
                obtain ⟨k, hk, rfl, HK⟩ := hrel
                by_cases hlt : k < ys.length
                · obtain ⟨y, hy⟩ : ∃ y, ys[k]? = some y := ⟨_, List.getElem?_eq_getElem hlt⟩
                  obtain ⟨_, _, hra⟩ := HK.out.get 2 rfl
                  obtain ⟨_, _, hrb⟩ := HK.out.get 3 rfl
                  obtain ⟨b, off, ea, ec, e1, hy1, k0, k1, k2, k3, k4⟩ := pt_at (show RdS ePt wr _ (.slice pa ys.length pc) ys from hra) hy
                  obtain ⟨b', off', fa, fc, e2, hy2, m0, m1, m2, m3, m4⟩ := pt_at (show RdS ePt wr _ (.slice qa ys.length qc) ys from hrb) hy
                  subst e1 e2
                  have HSM2 := Lib.hid (sameP_refl y ea fa ec fc wr.drew (hy1.1.below (below_drew wr 1)) (hy2.1.below (below_drew wr 1)))
                  clear hra hrb hy hy1 hy2
                  go_wp2_with fail
                  refine wp_region_still_tail 8 (by kernel_rfl) (by kernel_rfl) ?_
                  simp only [List.take_succ_cons, List.take_zero, List.drop_succ_cons, List.drop_zero]
                  change wpStill _ _ (World.drew _) (fun a' => wpList _ _ _ _ a' (World.drew _)) _ _
                  repeat still_step
                  refine wpStill_nil ?_
                  go_wp2_with fail
                  refine HSM2.out.mono ?_
                  rintro e w9 ⟨rfl, hb⟩
                  have HK2 := Lib.hid (HK.out.drew.own hb)
                  clear hb HSM2 HK k0 k1 k2 k3 k4 m0 m1 m2 m3 m4
                  go_wp2_with fail
                  go_roundw
                  case rel => exact ⟨k + 1, by omega, by go_num, HK2⟩
                  case measure => simp [intOf]; omega
                · obtain rfl : ys.length = k := by omega
                  go_wp2_with fail
                  go_loopw [147, 19, 20, 21, 22] (fun i _ _ _ _ wr => ∃ (k : Nat), k ≤ 2 ∧ i = .int .i64 (k : Int) ∧ Hid (Held (fun _ => False) (Old W) W [tPort p (stl3 up), tPort q (stl3 up), tRd ePt (.slice pa ys.length pc) ys, tRd ePt (.slice qa ys.length qc) ys] wr)) (fun i _ _ _ _ _ => 2 - (intOf i).toNat)
                  case atStart => exact ⟨0, by omega, rfl, HK⟩
                  case round =>
                    clear HK
                    obtain ⟨k, hk, rfl, HK⟩ := hrel
                    by_cases hlt : k < 2
                    · have hc := counts_any HK.out 0 rfl (stl3_ok up) (by decide) k (by rw [show (stl3 up).rooms.length = 2 by cases up <;> rfl]; exact hlt)
                      have hg : ([0, 0] : List Nat).getD k 0 = 0 := by
                        obtain h | h : k = 0 ∨ k = 1 := by omega
                        · subst h; rfl
                        · subst h; rfl
                      rw [stl3_acked, stl3_received, stl3_taken, hg] at hc
                      have HC := Lib.hid hc
                      clear hc hg HK
                      go_wp2_with fail
                      refine HC.out.mono ?_
                      rintro e w9 ⟨rfl, h⟩
                      have HK := Lib.hid h
                      clear h HC
                      go_wp2_with fail
                      go_roundw
                      case rel => exact ⟨k + 1, by omega, by go_num, HK⟩
                      case measure => simp [intOf]; omega
                    · obtain rfl : k = 2 := by omega
                      go_wp2_with fail
                      go_ret
                      exact ⟨rfl, HK.out.below⟩
end Go.Proofs.Ytcocnfbhileheaa
