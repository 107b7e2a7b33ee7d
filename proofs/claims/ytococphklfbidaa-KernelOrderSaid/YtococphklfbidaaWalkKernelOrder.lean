/- The walk of KernelOrder. -/
import Derived.Test.YtococphklfbidaaKerO
namespace Go.Proofs.Ytococphklfbidaa
open Go.RowKit Go.Maps

set_option maxRecDepth 100000 in
set_option maxHeartbeats 32000000 in
theorem walkKernelOrder (W : World) (v0 : Value) (o0 : IsSl rAc W v0) :
    Calls Try.prog 5 #[v0] W fun e w' => e = .returned (.bool true) ∧ Below W.heap.size W w' := by
  obtain ⟨l, hl⟩ := o0
  have ho := acts_of hl
  obtain ⟨oa, oc, rfl, _, _⟩ := ho.shape
  have HS := Lib.hid ((Held.start0 (fun _ => False) (Old W) (fun _ f _ => f) W).addOld (T := tRd eAc (.slice oa l.length oc) l) (RdS.mono ho fun k h => ⟨h, id⟩))
  have HO := Lib.hid ho
  have HWF := Lib.hid (wfL_of ho)
  clear ho hl
  have hG := eqGuardEv
  have hmm := @run_makeMap Try.prog
  go_enter Try.func5, Try.ntmps5
  go_wp2_with fail
  refine (awake_any W).mono ?_
  rintro e w1 ⟨rfl, hb⟩
  have H1 := Lib.hid (HS.out.own hb); have HB1 := Lib.hid hb; clear hb
  by_cases hbig : 60 < l.length
  · go_wp2_with fail
    go_ret
    exact ⟨rfl, HB1.out⟩
  · go_wp2_with fail
    refine (new_h H1.out).mono ?_
    rintro e w2 ⟨p, rfl, h⟩
    have H2 := Lib.hid (show Held (fun _ => False) (Old W) W [tQu p Qu.new, tRd eAc (.slice oa l.length oc) l, tSq eEv 32 (.slice none ([] : List Ev).length 0) []] w2 from (h.add (T := tSq eEv 32 (.slice none 0 0) []) (Below.refl _ _) (Sq.nil _ _ _ _ _)).pick [1, 0, 2] [tQu p Qu.new, tRd eAc (.slice oa l.length oc) l, tSq eEv 32 (.slice none 0 0) []] (by simp) rfl); clear h
    go_wp2_with fail
    go_loopw [24, 4] (fun u u4 wr => ∃ (j : Nat) (q : Qu) (xs : List Ev) (xa : Option Addr) (xc : Nat), j ≤ l.length ∧ u = .int .i64 (j : Int) ∧ u4 = .slice xa xs.length xc ∧ Hid (Few j q) ∧ Hid (Ordl q xs) ∧ Hid (Held (fun _ => False) (Old W) W [tQu p q, tRd eAc (.slice oa l.length oc) l, tSq eEv 32 (.slice xa xs.length xc) xs] wr)) (fun u _ _ => l.length - (intOf u).toNat)
    case atStart => exact ⟨0, Qu.new, [], none, 0, by omega, by go_num, rfl, Lib.hid Few.new, Lib.hid ⟨Qu.new_ok, ⟨rfl, fun k h1 h2 => by have : k ≤ 0 := h2; omega, rfl⟩, rfl, fun i e h => by simp at h⟩, H2⟩
    case round =>
      clear H2
      obtain ⟨j, q, xs, xa, xc, hj, rfl, rfl, HQ, HX, HH⟩ := hrel
      have hxl : xs.length ≤ j := by have := HQ.out.last; have := HX.out.len; omega
      have hlq : q.last < 1000000000 := by have := HQ.out.last; omega
      by_cases hlt : j < l.length
      · obtain ⟨f, hf⟩ : ∃ f, l[j]? = some f := ⟨l[j], List.getElem?_eq_getElem hlt⟩
        have hwf := HWF.out f (List.mem_of_getElem? hf)
        obtain ⟨b, off, rfl, k0, k1, k2, k3, k4, _, _⟩ := act_at (HO.out.below HH.out.below) hf
        have HHB := Lib.hid (show Held (fun _ => False) (Old W) W [tQu p q, tRd eAc (.slice (some ⟨b, off, none⟩) l.length oc) l, tSq eEv 32 (.slice xa xs.length xc) xs, tBlk wr.heap.size (.cells #[.int .i64 f.kind, .int .i64 f.at', .int .i64 f.sort, .int .i64 f.node, .int .i64 f.arg] 25)] (wr.alloc (.cells #[.int .i64 f.kind, .int .i64 f.at', .int .i64 f.sort, .int .i64 f.node, .int .i64 f.arg] 25)) from HH.out.new _)
        have HQ' := Lib.hid (HQ.out.push f.at' f.sort f.node hwf)
        have herr := HQ.out.errno (by omega) f.at' f.sort f.node f.arg
        have hql : q.evs.length < 10000 := by have := HQ.out.len; omega
        have HFW := Lib.hid hwf
        clear hf hwf
        rcases herr with ⟨hok, he, _⟩ | ⟨hok, he, hs⟩
        · have HX' := Lib.hid (HX.out.push f HFW.out hql hok)
          have HE : Hid ((q.push f.at' f.sort f.node f.arg).2 = ((xs.length : Int) + 1, 0)) := Lib.hid (by rw [he, HX.out.len]; rfl)
          clear hok he
          go_wp2_with (first
            | (go_at_call 13; refine (push_h HHB.out 0 rfl HQ.out.ok hlq _ _ _ _).mono ?_; rintro e w4 ⟨rfl, h⟩; rw [HE.out]; have H3 := Lib.hid (show Held (fun _ => False) (Old W) W [tQu p (q.pushA f), tRd eAc (.slice (some ⟨b, off, none⟩) l.length oc) l, tSq eEv 32 (.slice xa xs.length xc) xs, tBlk wr.heap.size (.cells #[.int .i64 f.kind, .int .i64 f.at', .int .i64 f.sort, .int .i64 f.node, .int .i64 f.arg] 25)] w4 from h); clear h; have bb := H3.out.blk 3 rfl; have m1 := blk_cell (i := 1) bb rfl; have m2 := blk_cell (i := 2) bb rfl; have m3 := blk_cell (i := 3) bb rfl; have m4 := blk_cell (i := 4) bb rfl; clear bb; have H4 := Lib.hid (H3.out.pick [0, 1, 2] [tQu p (q.pushA f), tRd eAc (.slice (some ⟨b, off, none⟩) l.length oc) l, tSq eEv 32 (.slice xa xs.length xc) xs] (by simp) rfl))
            | (at_builtin; refine wpList_app_ev (e := ⟨f.at', f.sort, f.node, (xs.length : Int) + 1, f.arg⟩) rfl _ _ rfl H4.out 2 rfl (by (repeat (first | (with_reducible exact Below.refl _ _) | (with_reducible refine Bw.alloc ?_ _) | (with_reducible refine Bw.drewN ?_ _) | (with_reducible refine Bw.drew ?_)))) (by omega) rfl w4.heap.size rfl (by exact heap_alloc_new _ _) ?_; intro a' c' w5 h; have H5 := Lib.hid h; clear h))
          go_roundw
          case rel => exact ⟨j + 1, _, _, a', c', by omega, by go_num, by rw [List.length_append]; rfl, HQ', HX', H5⟩
          case measure => simp [intOf]; omega
        · have HE := Lib.hid he
          have HS := Lib.hid hs
          clear hok he hs
          go_wp2_with (go_at_call 13; refine (push_h HHB.out 0 rfl HQ.out.ok hlq _ _ _ _).mono ?_; rintro e w4 ⟨rfl, h⟩; rw [HE.out]; rw [HS.out] at h; have H4 := Lib.hid (h.pick [0, 1, 2] [tQu p q, tRd eAc (.slice (some ⟨b, off, none⟩) l.length oc) l, tSq eEv 32 (.slice xa xs.length xc) xs] (by simp) rfl); clear h)
          go_roundw
          case rel => exact ⟨j + 1, q, xs, xa, xc, by omega, by go_num, rfl, Lib.hid HQ.out.up, HX, H4⟩
          case measure => simp [intOf]; omega
      · have hlen : q.evs.length = xs.length := by rw [HX.out.whole.len, HX.out.len]
        have HL := Lib.hid hlen
        clear hlen
        go_wp2_with fail
        refine (len_h HH.out 0 rfl).mono ?_
        rintro e w4 ⟨rfl, rfl⟩
        rw [HL.out]
        go_wp2_with fail
        have H5 := Lib.hid ((((HH.out.add (T := tSeen wr.heap.size 0 []) (below_alloc wr (.map #[] 0)) (seen_new wr)).new (.cells #[.int .i64 0, .int .i64 0, .int .i64 0, .int .i64 0, .int .i64 0] 32))).pick [0, 1, 2, 4, 3] [tQu p q, tRd eAc (.slice oa l.length oc) l, tSq eEv 32 (.slice xa xs.length xc) xs, tBlk (wr.heap.size + 1) (.cells #[.int .i64 0, .int .i64 0, .int .i64 0, .int .i64 0, .int .i64 0] 32), tSeen wr.heap.size 0 []] (by simp) (by simp))
        obtain ⟨w5, hw5⟩ : ∃ w5, w5 = (wr.alloc (.map #[] 0)).alloc (.cells #[.int .i64 0, .int .i64 0, .int .i64 0, .int .i64 0, .int .i64 0] 32) := ⟨_, rfl⟩
        rw [← hw5] at H5 ⊢
        clear hw5 HH
        obtain ⟨b, hb⟩ : ∃ b, b = wr.heap.size := ⟨_, rfl⟩
        rw [← hb] at H5 ⊢
        clear hb
        go_loopw [70] (fun u wr => ∃ (i : Nat) (ni : Int) (a : Ev), i ≤ xs.length ∧ u = .int .i64 (i : Int) ∧ Hid ((Qu.mk ni q.last (q.evs.drop i)).Ok ∧ (0 < i → q.evs[i - 1]? = some a)) ∧ Hid (Held (fun _ => False) (Old W) W [tQu p ⟨ni, q.last, q.evs.drop i⟩, tRd eAc (.slice oa l.length oc) l, tSq eEv 32 (.slice xa xs.length xc) xs, tBlk (b + 1) (.cells #[.int .i64 a.at', .int .i64 a.kind, .int .i64 a.node, .int .i64 a.number, .int .i64 a.arg] 32), tSeen b i ((q.evs.take i).map (·.number))] wr)) (fun u _ => xs.length - (intOf u).toNat)
        case atStart => exact ⟨0, q.now, Ev.zero, by omega, by go_num, Lib.hid ⟨HX.out.ok, fun h => by omega⟩, H5⟩
        case round =>
          clear H5
          obtain ⟨i, ni, a, hi, rfl, HI, HH⟩ := hrel
          by_cases hil : i < xs.length
          · have hile : i < q.evs.length := by rw [HL.out]; exact hil
            obtain ⟨e, he⟩ : ∃ e, q.evs[i]? = some e := ⟨q.evs[i], List.getElem?_eq_getElem hile⟩
            have hdr : q.evs.drop i = e :: q.evs.drop (i + 1) := by
              rw [List.drop_eq_getElem_cons hile]
              rw [List.getElem?_eq_getElem hile] at he
              rw [Option.some.inj he]
            obtain ⟨m, hml, hnum, hm⟩ := HX.out.at (List.mem_of_getElem? he)
            have hS : (((q.evs.take i).map (·.number)).any fun x => x == e.number) = false := by
              rw [List.any_eq_false]
              intro x hx
              simp only [beq_iff_eq]
              intro hxe
              obtain ⟨y, hy, hyn⟩ := List.mem_map.1 hx
              obtain ⟨k, hk⟩ := List.getElem?_of_mem hy
              rw [List.getElem?_take] at hk
              split at hk
              · rename_i hki
                have hye : y = e := nodup_eq HX.out.ok.num (List.mem_of_getElem? hk) (List.mem_of_getElem? he) (hyn.trans hxe)
                have := HX.out.ok.srt.get hki hk he
                rw [hye] at this
                exact Lt.irrefl e this
              · cases hk
            have hlt : 0 < i → ltB a e = true := fun h0 => ltB_iff.2 (HX.out.ok.srt.get (by omega) (HI.out.2 h0) he)
            have hw : (Lit.int .i64 e.number).wf = true := wf_i64 (by omega) (by omega)
            have HI1 : Hid ((Qu.mk e.at' q.last (q.evs.drop (i + 1))).Ok ∧ (0 < i + 1 → q.evs[i + 1 - 1]? = some e)) := Lib.hid ⟨Qu.tail_ok (by have := HI.out.1; rw [hdr] at this; exact this), fun _ => he⟩
            have HTK : Hid ((q.evs.take (i + 1)).map (·.number) = (q.evs.take i).map (·.number) ++ [e.number]) := Lib.hid (by
              rw [List.take_succ_eq_append_getElem hile, List.map_append]
              rw [List.getElem?_eq_getElem hile] at he
              rw [Option.some.inj he]; rfl)
            have HH1 := Lib.hid (show Held (fun _ => False) (Old W) W [tQu p ⟨ni, q.last, e :: q.evs.drop (i + 1)⟩, tRd eAc (.slice oa l.length oc) l, tSq eEv 32 (.slice xa xs.length xc) xs, tBlk (b + 1) (.cells #[.int .i64 a.at', .int .i64 a.kind, .int .i64 a.node, .int .i64 a.number, .int .i64 a.arg] 32), tSeen b i ((q.evs.take i).map (·.number))] wr by have := HH.out; rw [hdr] at this; exact this)
            have HOK1 : Hid ((Qu.mk ni q.last (e :: q.evs.drop (i + 1))).Ok) := Lib.hid (by have := HI.out.1; rw [hdr] at this; exact this)
            have hn1 : 1 ≤ e.number := by omega
            have hn2 : e.number ≤ (xs.length : Int) := by omega
            have HNUM := Lib.hid hnum; have HM := Lib.hid hm; have HSN := Lib.hid hS; have HW := Lib.hid hw
            have HN : Hid (∀ w, (binOp .neq 32 (.agg #[.int .i64 e.at', .int .i64 e.kind, .int .i64 e.node, .int .i64 e.number, .int .i64 e.arg]) (.agg #[.int .i64 e.at', .int .i64 e.kind, .int .i64 e.node, .int .i64 e.number, .int .i64 e.arg])).run Try.prog w = .ok (.bool false) w) := Lib.hid fun w => (run_neqEv e e w).trans (by rw [eqB_self]; rfl)
            obtain ⟨G, Y, hsq⟩ := HH1.out.get 2 rfl
            obtain ⟨gb, goff, rfl, _⟩ := ev_at (Sq.evR (show Sq eEv 32 wr G Y (.slice xa xs.length xc) xs from hsq)) hm
            have HLT : Hid (0 < i → ltB a e = true) := Lib.hid hlt
            clear hsq hnum hm hS hw hdr he HH HI hile hlt
            go_wp2_with fail
            refine (pop_h HH1.out 0 rfl HOK1.out hlq).mono ?_
            rintro ee w6 ⟨rfl, h⟩
            simp only [Qu.pop]
            have H7 := Lib.hid (show Held (fun _ => False) (Old W) W [tQu p ⟨e.at', q.last, q.evs.drop (i + 1)⟩, tRd eAc (.slice oa l.length oc) l, tSq eEv 32 (.slice (some ⟨gb, goff, none⟩) xs.length xc) xs, tBlk (b + 1) (.cells #[.int .i64 a.at', .int .i64 a.kind, .int .i64 a.node, .int .i64 a.number, .int .i64 a.arg] 32), tSeen b i ((q.evs.take i).map (·.number)), tBlk w6.heap.size (.cells #[.int .i64 e.at', .int .i64 e.kind, .int .i64 e.node, .int .i64 e.number, .int .i64 e.arg] 32)] (w6.alloc (.cells #[.int .i64 e.at', .int .i64 e.kind, .int .i64 e.node, .int .i64 e.number, .int .i64 e.arg] 32)) from Held.new (ts := [_, _, _, _, _]) h _); clear h
            go_wp2_with fail
            obtain ⟨w7, hw7⟩ : ∃ w7, w7 = w6.alloc (.cells #[.int .i64 e.at', .int .i64 e.kind, .int .i64 e.node, .int .i64 e.number, .int .i64 e.arg] 32) := ⟨_, rfl⟩
            rw [← hw7] at H7 ⊢
            clear hw7
            obtain ⟨eb, heb⟩ : ∃ eb, eb = w6.heap.size := ⟨_, rfl⟩
            rw [← heb] at H7 ⊢
            clear heb
            obtain ⟨lb, hlb⟩ : ∃ lb, lb = b + 1 := ⟨_, rfl⟩
            have HLB := Lib.hid hlb
            rw [← hlb] at H7 ⊢
            clear hlb
            have HBX := H7
            obtain ⟨z0, z1, z2, z3, z4, z5, z6, z7, z8, z9, d0, d1, d2, d3, d4, hlook⟩ := ord_s H7.out HM.out HSN.out HW.out
            have f0 : IntKind.i64.wrap (e.number - 1) = e.number - 1 := IntWalk.i64_in _ (by omega)
            have f1 : (0 : Int) ≤ e.number - 1 ∧ e.number - 1 < (xs.length : Int) := by omega
            have f2 : (1 : Int) ≤ e.number ∧ e.number - 1 < (xs.length : Int) := by omega
            have f3 : (e.number - 1).toNat = m := by have := HNUM.out; omega
            have f4 : decide (e.number < 1) = false := by simp; omega
            have f5 : decide ((xs.length : Int) < e.number) = false := by simp; omega
            have hn := HN.out
            have hcase : i = 0 ∨ 0 < i := by omega
            rcases hcase with hi0 | hi0
            · subst hi0
              have hlookN : ∀ n, (Instr.lookup 39 (.map (some b)) (.int .i64 e.number) false).run Try.prog (w7.drewN n) = .ok (.bool false) (w7.drewN n) := fun n => (ord_s (H7.out.drewN n) HM.out HSN.out HW.out).2.2.2.2.2.2.2.2.2.2.2.2.2.2.2
              clear hlook
              go_quiet (exact Calls.quiet_of_same ((now_h (q := ⟨e.at', q.last, q.evs.drop (0 + 1)⟩) (H7.out.drewN _) 0 rfl).mono fun e' w' h => ⟨show e' = .returned (.int .i64 e.at') from h.1, h.2.symm⟩))
              have HBX := Lib.hid (H7.out.drewN nq)
              clear z0 z1 z2 z3 z4 z5 z6 z7 z8 z9 d0 d1 d2 d3 d4 f0 f1 f2 f3 f4 f5 hlookN hn
              obtain ⟨D, hown, hback⟩ := HBX.out.seen 4 rfl
              have HOWN := Lib.hid hown; have HBACK := Lib.hid hback
              have hkey := Lib.hid (keyOf_int_mk Try.underlying3 HW.out)
              have heb := blk_cell (i := 3) (HBX.out.blk 5 rfl) rfl
              clear hback hown
              go_wp2_with (at_mapUpdate; refine wpList_mapUpdate_own _ rfl _ _ _ 39 rfl 3 4 keyed Try.underlying39 (plainElem Try.prog 4) b 0 D rfl HOWN.out (by unfold maxLen; omega) _ _ (.int .i64 e.number) rfl rfl hkey.out (.lit (.bool true)) [] (plainElem_bool Try.underlying4 true) ?_; intro w9 hown9 hg9; have H9 := Lib.hid (show Held (fun _ => False) (Old W) W [tQu p ⟨e.at', q.last, q.evs.drop (0 + 1)⟩, tRd eAc (.slice oa l.length oc) l, tSq eEv 32 (.slice (some ⟨gb, goff, none⟩) xs.length xc) xs, tBlk lb (.cells #[.int .i64 a.at', .int .i64 a.kind, .int .i64 a.node, .int .i64 a.number, .int .i64 a.arg] 32), tSeen b (0 + 1) ((q.evs.take 0).map (·.number) ++ [e.number]), tBlk eb (.cells #[.int .i64 e.at', .int .i64 e.kind, .int .i64 e.node, .int .i64 e.number, .int .i64 e.arg] 32)] w9 from HBACK.out w9 e.number hown9 hg9); clear hown9 hg9; have bl := H9.out.blk 3 rfl; have be := H9.out.blk 5 rfl; have z0 := blk_cell (i := 0) bl rfl; have z1 := blk_cell (i := 1) bl rfl; have z2 := blk_cell (i := 2) bl rfl; have z3 := blk_cell (i := 3) bl rfl; have z4 := blk_cell (i := 4) bl rfl; have zf := fun i => blk_free bl i; have n0 := blk_cell (i := 0) be rfl; have n1 := blk_cell (i := 1) be rfl; have n2 := blk_cell (i := 2) be rfl; have n3 := blk_cell (i := 3) be rfl; have n4 := blk_cell (i := 4) be rfl; clear bl be)
              have hr10 : (((((w9.setCell ⟨lb, 0, none⟩ (.int .i64 e.at')).setCell ⟨lb, 1, none⟩ (.int .i64 e.kind)).setCell ⟨lb, 2, none⟩ (.int .i64 e.node)).setCell ⟨lb, 3, none⟩ (.int .i64 e.number)).setCell ⟨lb, 4, none⟩ (.int .i64 e.arg)).heap[lb]? = some (.cells #[.int .i64 e.at', .int .i64 e.kind, .int .i64 e.node, .int .i64 e.number, .int .i64 e.arg] 32) := by
                have hb5 := H9.out.blk 3 rfl
                (apply row_trans; focus (repeat (first | (with_reducible exact hb5) | (with_reducible apply row_set) | (with_reducible apply row_drewN) | (with_reducible apply row_drew)))); rfl
              have hf10 : Fr (fun k => k = lb) w9 (((((w9.setCell ⟨lb, 0, none⟩ (.int .i64 e.at')).setCell ⟨lb, 1, none⟩ (.int .i64 e.kind)).setCell ⟨lb, 2, none⟩ (.int .i64 e.node)).setCell ⟨lb, 3, none⟩ (.int .i64 e.number)).setCell ⟨lb, 4, none⟩ (.int .i64 e.arg)) := Fr.setCell (Fr.setCell (Fr.setCell (Fr.setCell (Fr.setCell (Fr.refl (fun k => k = lb) w9) (Or.inl rfl) _) (Or.inl rfl) _) (Or.inl rfl) _) (Or.inl rfl) _) (Or.inl rfl) _
              have H10 := Lib.hid ((H9.out.set 3 rfl _ hf10 hr10).pick [0, 1, 2, 3, 4] [tQu p ⟨e.at', q.last, q.evs.drop (0 + 1)⟩, tRd eAc (.slice oa l.length oc) l, tSq eEv 32 (.slice (some ⟨gb, goff, none⟩) xs.length xc) xs, tBlk lb (.cells #[.int .i64 e.at', .int .i64 e.kind, .int .i64 e.node, .int .i64 e.number, .int .i64 e.arg] 32), tSeen b (0 + 1) ((q.evs.take 0).map (·.number) ++ [e.number])] (by simp) rfl)
              rw [← HTK.out] at H10
              clear hr10 hf10
              have hlb := HLB.out
              subst hlb
              go_roundw
              case rel => exact ⟨0 + 1, e.at', e, by omega, by go_num, HI1, H10⟩
              case measure => simp [intOf]; omega
            · have hlt := HLT.out hi0
              go_region_held3 (fun w' => w'.cell? ⟨eb, 0, none⟩ = some (.int .i64 e.at') ∧ w'.cell? ⟨eb, 1, none⟩ = some (.int .i64 e.kind) ∧ w'.cell? ⟨eb, 2, none⟩ = some (.int .i64 e.node) ∧ w'.cell? ⟨eb, 3, none⟩ = some (.int .i64 e.number) ∧ w'.cell? ⟨eb, 4, none⟩ = some (.int .i64 e.arg) ∧ w'.cell? ⟨lb, 0, none⟩ = some (.int .i64 a.at') ∧ w'.cell? ⟨lb, 1, none⟩ = some (.int .i64 a.kind) ∧ w'.cell? ⟨lb, 2, none⟩ = some (.int .i64 a.node) ∧ w'.cell? ⟨lb, 3, none⟩ = some (.int .i64 a.number) ∧ w'.cell? ⟨lb, 4, none⟩ = some (.int .i64 a.arg) ∧ w'.cell? ⟨gb, goff + m * 5, none⟩ = some (.int .i64 e.at') ∧ w'.cell? ⟨gb, goff + m * 5 + 1, none⟩ = some (.int .i64 e.kind) ∧ w'.cell? ⟨gb, goff + m * 5 + 2, none⟩ = some (.int .i64 e.node) ∧ w'.cell? ⟨gb, goff + m * 5 + 3, none⟩ = some (.int .i64 e.number) ∧ w'.cell? ⟨gb, goff + m * 5 + 4, none⟩ = some (.int .i64 e.arg) ∧ (Instr.lookup 39 (.map (some b)) (.int .i64 e.number) false).run Try.prog w' = .ok (.bool false) w') (first | exact ord_s HBX.out HM.out HSN.out HW.out | exact ord_s HBX.out.drew HM.out HSN.out HW.out)
                (first
                | (go_at_call 16; refine (before_any _ _ _).mono ?_; rintro ee w8 ⟨rfl, hb⟩; have HBX := Lib.hid (Held.own (by first | exact HBX.out | exact HBX.out.drew) hb); clear hb)
                | (go_at_call 17; refine (now_h (q := ⟨e.at', q.last, q.evs.drop (i + 1)⟩) (by first | exact HBX.out | exact HBX.out.drew) 0 rfl).mono ?_; rintro ee w8 ⟨rfl, rfl⟩))
              clear z0 z1 z2 z3 z4 z5 z6 z7 z8 z9 d0 d1 d2 d3 d4 f0 f1 f2 f3 f4 f5 hlook hn hlt
              obtain ⟨D, hown, hback⟩ := HBX.out.seen 4 rfl
              have HOWN := Lib.hid hown; have HBACK := Lib.hid hback
              have hkey := Lib.hid (keyOf_int_mk Try.underlying3 HW.out)
              have heb := blk_cell (i := 3) (HBX.out.blk 5 rfl) rfl
              clear hback hown
              go_wp2_with (at_mapUpdate; refine wpList_mapUpdate_own _ rfl _ _ _ 39 rfl 3 4 keyed Try.underlying39 (plainElem Try.prog 4) b i D rfl HOWN.out (by unfold maxLen; omega) _ _ (.int .i64 e.number) rfl rfl hkey.out (.lit (.bool true)) [] (plainElem_bool Try.underlying4 true) ?_; intro w9 hown9 hg9; have H9 := Lib.hid (show Held (fun _ => False) (Old W) W [tQu p ⟨e.at', q.last, q.evs.drop (i + 1)⟩, tRd eAc (.slice oa l.length oc) l, tSq eEv 32 (.slice (some ⟨gb, goff, none⟩) xs.length xc) xs, tBlk lb (.cells #[.int .i64 a.at', .int .i64 a.kind, .int .i64 a.node, .int .i64 a.number, .int .i64 a.arg] 32), tSeen b (i + 1) ((q.evs.take i).map (·.number) ++ [e.number]), tBlk eb (.cells #[.int .i64 e.at', .int .i64 e.kind, .int .i64 e.node, .int .i64 e.number, .int .i64 e.arg] 32)] w9 from HBACK.out w9 e.number hown9 hg9); clear hown9 hg9; have bl := H9.out.blk 3 rfl; have be := H9.out.blk 5 rfl; have z0 := blk_cell (i := 0) bl rfl; have z1 := blk_cell (i := 1) bl rfl; have z2 := blk_cell (i := 2) bl rfl; have z3 := blk_cell (i := 3) bl rfl; have z4 := blk_cell (i := 4) bl rfl; have zf := fun i => blk_free bl i; have n0 := blk_cell (i := 0) be rfl; have n1 := blk_cell (i := 1) be rfl; have n2 := blk_cell (i := 2) be rfl; have n3 := blk_cell (i := 3) be rfl; have n4 := blk_cell (i := 4) be rfl; clear bl be)
              have hr10 : (((((w9.setCell ⟨lb, 0, none⟩ (.int .i64 e.at')).setCell ⟨lb, 1, none⟩ (.int .i64 e.kind)).setCell ⟨lb, 2, none⟩ (.int .i64 e.node)).setCell ⟨lb, 3, none⟩ (.int .i64 e.number)).setCell ⟨lb, 4, none⟩ (.int .i64 e.arg)).heap[lb]? = some (.cells #[.int .i64 e.at', .int .i64 e.kind, .int .i64 e.node, .int .i64 e.number, .int .i64 e.arg] 32) := by
                have hb5 := H9.out.blk 3 rfl
                (apply row_trans; focus (repeat (first | (with_reducible exact hb5) | (with_reducible apply row_set) | (with_reducible apply row_drewN) | (with_reducible apply row_drew)))); rfl
              have hf10 : Fr (fun k => k = lb) w9 (((((w9.setCell ⟨lb, 0, none⟩ (.int .i64 e.at')).setCell ⟨lb, 1, none⟩ (.int .i64 e.kind)).setCell ⟨lb, 2, none⟩ (.int .i64 e.node)).setCell ⟨lb, 3, none⟩ (.int .i64 e.number)).setCell ⟨lb, 4, none⟩ (.int .i64 e.arg)) := Fr.setCell (Fr.setCell (Fr.setCell (Fr.setCell (Fr.setCell (Fr.refl (fun k => k = lb) w9) (Or.inl rfl) _) (Or.inl rfl) _) (Or.inl rfl) _) (Or.inl rfl) _) (Or.inl rfl) _
              have H10 := Lib.hid ((H9.out.set 3 rfl _ hf10 hr10).pick [0, 1, 2, 3, 4] [tQu p ⟨e.at', q.last, q.evs.drop (i + 1)⟩, tRd eAc (.slice oa l.length oc) l, tSq eEv 32 (.slice (some ⟨gb, goff, none⟩) xs.length xc) xs, tBlk lb (.cells #[.int .i64 e.at', .int .i64 e.kind, .int .i64 e.node, .int .i64 e.number, .int .i64 e.arg] 32), tSeen b (i + 1) ((q.evs.take i).map (·.number) ++ [e.number])] (by simp) rfl)
              rw [← HTK.out] at H10
              clear hr10 hf10
              have hlb := HLB.out
              subst hlb
              go_roundw
              case rel => exact ⟨i + 1, e.at', e, by omega, by go_num, HI1, H10⟩
              case measure => simp [intOf]; omega
          · have he : q.evs.drop i = [] := List.drop_eq_nil_of_le (by rw [HL.out]; omega)
            have HH1 := Lib.hid (show Held (fun _ => False) (Old W) W [tQu p ⟨ni, q.last, []⟩, tRd eAc (.slice oa l.length oc) l, tSq eEv 32 (.slice xa xs.length xc) xs, tBlk (b + 1) (.cells #[.int .i64 a.at', .int .i64 a.kind, .int .i64 a.node, .int .i64 a.number, .int .i64 a.arg] 32), tSeen b i ((q.evs.take i).map (·.number))] wr by have := HH.out; rw [he] at this; exact this)
            have HOK1 : Hid ((Qu.mk ni q.last []).Ok) := Lib.hid (by have := HI.out.1; rw [he] at this; exact this)
            clear he HH HI
            go_wp2_with fail
            refine (pop_h HH1.out 0 rfl HOK1.out hlq).mono ?_
            rintro ee w6 ⟨rfl, h⟩
            simp only [Qu.pop]
            have H7 := Lib.hid (show Held (fun _ => False) (Old W) W [tQu p ⟨ni, q.last, []⟩, tRd eAc (.slice oa l.length oc) l, tSq eEv 32 (.slice xa xs.length xc) xs, tBlk (b + 1) (.cells #[.int .i64 a.at', .int .i64 a.kind, .int .i64 a.node, .int .i64 a.number, .int .i64 a.arg] 32), tSeen b i ((q.evs.take i).map (·.number))] _ from Held.alloc (ts := [_, _, _, _, _]) h (.cells #[.int .i64 Ev.zero.at', .int .i64 Ev.zero.kind, .int .i64 Ev.zero.node, .int .i64 Ev.zero.number, .int .i64 Ev.zero.arg] 32)); clear h
            go_wp2_with (go_at_call 15; refine (len_h H7.out 0 rfl).mono ?_; rintro e w8 ⟨rfl, rfl⟩; rw [show (Qu.mk ni q.last []).evs.length = 0 from rfl])
            go_ret
            exact ⟨rfl, H7.out.below⟩
end Go.Proofs.Ytococphklfbidaa
