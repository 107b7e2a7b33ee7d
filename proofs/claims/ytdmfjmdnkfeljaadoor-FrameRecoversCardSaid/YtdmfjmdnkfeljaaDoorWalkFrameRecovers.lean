/- The walk of FrameRecovers. -/
import Derived.Test.YtdmfjmdnkfeljaaDoorFrnJ
import Derived.Test.YtdmfjmdnkfeljaaDoorFrmX
namespace Go.Proofs.YtdmfjmdnkfeljaaDoor
open Go.RowKit

set_option maxRecDepth 100000 in
set_option maxHeartbeats 8000000 in
theorem walkFrameRecovers (W : World) (v0 v1 : Value) (o0 : IsBytes W v0) (o1 : IsPk W v1) (ht : Tabs W) :
    Calls Tryd.prog 12 #[v0, v1] W fun e w' => e = .returned (.bool true) ∧ Below W.heap.size W w' := by
  obtain ⟨bs, hbs⟩ := o0
  obtain ⟨p, a, c, rfl, hby⟩ := o1
  obtain ⟨ba, bc, rfl⟩ := hbs.slice
  have HT := Lib.hid ht; have HBY := Lib.hid hby; have HBS := Lib.hid hbs
  clear ht hby hbs
  go_enter Tryd.func12, Tryd.ntmps12
  go_wp2_with fail
  obtain ⟨w0, hw0⟩ : ∃ w0, w0 = W.alloc (.cells #[.int .u8 (U p.kind), .int .i64 p.cls, .int .i64 p.number, .int .i64 p.value, .slice a p.pay.length c] 24) := ⟨_, rfl⟩
  rw [← hw0]
  have HR0 := Lib.hid (show w0.heap[W.heap.size]? = some (.cells #[.int .u8 (U p.kind), .int .i64 p.cls, .int .i64 p.number, .int .i64 p.value, .slice a p.pay.length c] 24) by rw [hw0]; exact heap_alloc_new W _)
  have HB0 := Lib.hid (show Below W.heap.size W w0 by rw [hw0]; exact below_alloc W _)
  have HH0 := Lib.hid (show Held (fun _ => False) (Old W) W [tBlk W.heap.size (.cells #[.int .u8 (U p.kind), .int .i64 p.cls, .int .i64 p.number, .int .i64 p.value, .slice a p.pay.length c] 24)] w0 by rw [hw0]; exact (Held.start0 (fun _ => False) (Old W) (fun _ f => f.elim) W).new _)
  clear hw0
  refine (awake_any w0 (HT.out.below HB0.out)).mono ?_
  rintro e w1 ⟨rfl, hb⟩
  have HR1 := Lib.hid ((hb.block _ (lt_of_block HR0.out)).trans HR0.out)
  have HB1 := Lib.hid (HB0.out.trans (hb.mono HB0.out.size))
  have HH1 := Lib.hid (HH0.out.own hb)
  clear hb
  obtain ⟨b0, b1, b2, b3, b4⟩ := pk_cells HR1.out
  by_cases hg : Good p
  · have HG := Lib.hid hg
    clear hg
    go_wp2_with fail
    refine (symF_good p a c w1 (HBY.out.below HB1.out) (HT.out.below HB1.out) HG.out).mono ?_
    rintro e w2 ⟨v2, rfl, hn2, hb⟩
    have HR2 := Lib.hid ((hb.block _ (lt_of_block HR1.out)).trans HR1.out)
    have HB2 := Lib.hid (HB1.out.trans (hb.mono HB1.out.size))
    have HH2 := Lib.hid (HH1.out.own hb)
    have HN2 := Lib.hid hn2.by
    obtain ⟨sa, sc, rfl⟩ := hn2.slice
    clear hb hn2 b0 b1 b2 b3 b4
    have hpl := HG.out.pay
    have hls : (symP p).length ≤ 164 := by rw [symP_length]; omega
    by_cases hbig : 400 < bs.length
    · generalize (symP p).length = L at *
      go_wp2_with fail
      go_ret
      exact ⟨rfl, HB2.out⟩
    · have hbig2 : bs.length ≤ 400 := by omega
      obtain ⟨hl1, hl2⟩ := scan_found HG.out bs
      have hfd := scan_found_le Sc.new bs
      have hnbm : (Sc.new.scan bs).1.bad ≤ 0 + bs.length := scan_bad Sc.new bs
      generalize hss : symP p = ss at *
      have HSS := Lib.hid hss
      clear hss
      go_wp2_with fail
      refine (scan_any _ bs w2 (HBS.out.below HB2.out) (HT.out.below HB2.out) (by omega)).mono ?_
      rintro e w3 ⟨fa, fc, rfl, hrd, hb⟩
      have HR3 := Lib.hid ((hb.block _ (lt_of_block HR2.out)).trans HR2.out)
      have HB3 := Lib.hid (HB2.out.trans (hb.mono HB2.out.size))
      have HN3 := Lib.hid (HN2.out.below hb)
      have h3 := (HH2.out).addZ (T := tRd ePk (.slice fa (Sc.new.scan bs).2.length fc) (Sc.new.scan bs).2) hb hrd
      have HL1 := Lib.hid hl1; have HL2 := Lib.hid hl2
      clear hb hrd hl1 hl2
      obtain ⟨fl, hfl⟩ : ∃ fl, fl = (Sc.new.scan bs).2 := ⟨_, rfl⟩
      obtain ⟨nb, hnb⟩ : ∃ nb, nb = (Sc.new.scan bs).1.bad := ⟨_, rfl⟩
      rw [← hfl] at h3 HL1 hfd ⊢
      rw [← hnb] at HL2 hnbm ⊢
      clear hfl hnb
      have H3 := Lib.hid h3
      clear h3
      go_wp2_with fail
      refine (concat2 (.slice ba bs.length bc) (.slice sa ss.length sc) bs ss _ _ (heap_alloc_new w3 _) ((HBS.out.below HB3.out).below (by (repeat (first | (with_reducible exact Below.refl _ _) | (with_reducible refine Bw.alloc ?_ _) | (with_reducible refine Bw.drewN ?_ _) | (with_reducible refine Bw.drew ?_))))) (HN3.out.below (by (repeat (first | (with_reducible exact Below.refl _ _) | (with_reducible refine Bw.alloc ?_ _) | (with_reducible refine Bw.drewN ?_ _) | (with_reducible refine Bw.drew ?_))))) (by omega) (by omega)).mono ?_
      rintro e w4 ⟨v4, rfl, hn4, hb⟩
      have hb' := (below_alloc w3 (.cells #[.slice ba bs.length bc, .slice sa ss.length sc] 22)).trans (hb.mono (by simp))
      have HR4 := Lib.hid ((hb'.block _ (lt_of_block HR3.out)).trans HR3.out)
      have HB4 := Lib.hid (HB3.out.trans (hb'.mono HB3.out.size))
      have H4 := Lib.hid (H3.out.own hb')
      have HN4 := Lib.hid hn4.by
      clear hb hb' hn4
      go_wp2_with fail
      refine (scan_any _ (bs ++ ss) w4 HN4.out (HT.out.below HB4.out) (by rw [List.length_append]; omega)).mono ?_
      rintro e w5 ⟨ga, gc, rfl, hrd, hb⟩
      rw [HL1.out] at hrd ⊢
      have HR5 := Lib.hid ((hb.block _ (lt_of_block HR4.out)).trans HR4.out)
      have HB5 := Lib.hid (HB4.out.trans (hb.mono HB4.out.size))
      have h5 := H4.out.addZ (T := tRd ePk (.slice ga (fl ++ [p]).length gc) (fl ++ [p])) hb hrd
      have H5 := Lib.hid (h5.addOld (T := tBy (.slice a p.pay.length c) p.pay) (ByZ.mono (byZ_of HBY.out) fun k hk => ⟨hk, id⟩))
      clear hb hrd h5
      obtain ⟨mb, hmb⟩ : ∃ mb, mb = (Sc.new.scan (bs ++ ss)).1.bad := ⟨_, rfl⟩
      rw [← hmb] at HL2 ⊢
      clear hmb
      have hcase : ((mb : Int) == (nb : Int)) = true ∨ (((mb : Int) == (nb : Int)) = false ∧ ((mb : Int) == (nb : Int) + 1) = true) := by
        rcases HL2.out with h | h
        · left; simp [h]
        · right; constructor
          · simp; omega
          · simp [h]
      have hwn : IntKind.i64.wrap ((nb : Int) + 1) = (nb : Int) + 1 := IntWalk.i64_in _ (by omega)
      rcases hcase with hc1 | ⟨hc1, hc2⟩
      all_goals
        go_wp2_with fail
        have hrow := H5.out.blk 0 rfl
        refine wp_region_held_drew (S := fun w' => w'.heap[W.heap.size]? = some (.cells #[.int .u8 (U p.kind), .int .i64 p.cls, .int .i64 p.number, .int .i64 p.value, .slice a p.pay.length c] 24)) (by kernel_rfl) hrow (fun hS0 => ?_)
        change wpAnyH _ _ _ _ _ (17 + 2) _ _ _
        refine wpAnyH_take_n 0 2 (by kernel_rfl) hS0 (fun _ _ _ _ _ h => h) ?_
        simp only [List.drop_zero, List.take_succ_cons, List.take_zero]
        iterate 2 (refine wpFirst_val (v := ?_) (by rfl) ?_ ?_; rotate_left 1; (focus ((intro w' hS'; go_simp); try with_reducible rfl)); simp only [Act.put, List.setIfInBounds_toArray, List.set_cons_zero, List.set_cons_succ])
        refine wpFirst_nil ?_
        change wpAnyH _ _ _ _ _ (16 + 1) _ _ _
        refine wpAnyH_take_n 3 1 (by kernel_rfl) hS0 (fun _ _ _ _ _ h => h) ?_
        simp only [List.drop_succ_cons, List.drop_zero, List.take_succ_cons, List.take_zero]
        (refine wpFirst_val (v := ?_) (by rfl) ?_ ?_; rotate_left 1; (focus ((intro w' hS'; obtain ⟨k0, k1, k2, k3, k4⟩ := pk_cells hS'; go_simp); try with_reducible rfl)); simp only [Act.put, List.setIfInBounds_toArray, List.set_cons_zero, List.set_cons_succ])
        refine wpFirst_nil ?_
        refine wpAnyH_two 2 4 (by kernel_rfl) rfl rfl (fun K hK => ?_) (fun K hK => ?_)
        · refine step_call (f := ?_) (args := ?_) (by rfl) ?_ ?_
          rotate_left 2
          focus (go_simp; first | (with_reducible rfl) | (refine ⟨?_, ?_⟩ <;> with_reducible rfl))
          refine (clonePk_h H5.out.drew 1 rfl (by omega)).mono ?_
          rintro e' w6 ⟨ca, cc, rfl, h6⟩
          refine ⟨_, rfl, ?_⟩
          simp only [Act.put, List.setIfInBounds_toArray, List.set_cons_zero, List.set_cons_succ]
          have hSa := h6.blk 0 rfl
          refine hK.out _ _ hSa ?_
          clear hK K
          refine wpAnyH_one 4 (by kernel_rfl) rfl (fun K hK => ?_)
          go_simp
          refine hK.out _ _ (show (w6.alloc _).heap[W.heap.size]? = _ from (Below.heap_alloc _ _ _ (lt_of_block hSa)).trans hSa) ?_
          clear hK K
          refine wpAnyH_one 5 (by kernel_rfl) rfl (fun K hK => ?_)
          refine step_app_pk (by rfl) _ _ (by rfl) h6 4 rfl 3 (by decide) rfl (below_alloc w6 _) (by omega) (by rfl) w6.heap.size (by rfl) (heap_alloc_new w6 _) ?_
          intro xa xc w7 h7
          simp only [Act.put, List.setIfInBounds_toArray, List.set_cons_zero, List.set_cons_succ]
          have hSy := h7.blk 0 rfl
          refine hK.out _ _ hSy ?_
          clear hK K
          have HZ := Lib.hid h7
          obtain ⟨_, _, hga⟩ := h7.get 2 rfl
          obtain ⟨_, _, hxa⟩ := h7.get 4 rfl
          have HGA := Lib.hid hga
          have HXA := Lib.hid (Sq.rd hxa ePk_rd)
          clear hga hxa h6 h7 hSa hS0 hrow
          refine wpAnyH_one 6 (by kernel_rfl) rfl (fun K hK => ?_); have hsr := same_refl (.slice ga (fl ++ [p]).length gc) (.slice xa (fl ++ [p]).length xc) (fl ++ [p]) _ _ _ HGA.out HXA.out (by rw [List.length_append]; show fl.length + 1 ≤ _; omega); simp only [List.length_append, List.length_cons, List.length_nil, Nat.zero_add] at hsr; (refine step_call (f := ?_) (args := ?_) (by rfl) ?_ ?_; rotate_left 2; (focus (go_simp; first | (with_reducible rfl) | (refine ⟨?_, ?_⟩ <;> with_reducible rfl))); (refine (hsr).mono ?_); rintro e' w'' ⟨rfl, hbs⟩); clear hsr; refine ⟨_, rfl, ?_⟩; simp only [Act.put, List.setIfInBounds_toArray, List.set_cons_zero, List.set_cons_succ]; have hSz := (hbs.block _ (lt_of_block hSy)).trans hSy; refine hK.out _ _ hSz ?_; clear hK K; have HFI := Lib.hid (HZ.out.own hbs); clear hbs hSy; change wpAnyH _ _ _ _ _ (0 + 12) _ _ _; refine wpAnyH_take_n 7 12 (by kernel_rfl) hSz (fun _ _ _ _ _ h => h) ?_; simp only [List.drop_succ_cons, List.drop_zero, List.take_succ_cons, List.take_zero]; (iterate 12 (first | (refine wpFirst_val (v := ?_) (by rfl) ?_ ?_; rotate_left 1; (focus ((intro w' hS'; go_simp); try with_reducible rfl)); simp only [Act.put, List.setIfInBounds_toArray, List.set_cons_zero, List.set_cons_succ]) | (refine wpFirst_un (by rfl) ?_; simp only [Act.put, List.setIfInBounds_toArray, List.set_cons_zero, List.set_cons_succ]))); refine wpFirst_nil ?_; refine wpAnyH_done (by kernel_rfl) ?_ _; clear hSz; go_wp2_with fail; go_ret; exact ⟨rfl, HFI.out.below⟩
        · go_simp
          refine hK.out _ _ (show (w5.alloc _).heap[W.heap.size]? = _ from (Below.heap_alloc _ _ _ (lt_of_block hS0)).trans hS0) ?_
          clear hK K
          refine wpAnyH_one 2 (by kernel_rfl) rfl (fun K hK => ?_)
          refine step_call (f := ?_) (args := ?_) (by rfl) ?_ ?_
          rotate_left 2
          focus (go_simp; first | (with_reducible rfl) | (refine ⟨?_, ?_⟩ <;> with_reducible rfl))
          refine (clonePk_h (H5.out.new (.cells #[.int .u8 (U p.kind), .int .i64 p.cls, .int .i64 p.number, .int .i64 p.value, .slice a p.pay.length c] 24)).drew 1 rfl (by omega)).mono ?_
          rintro e' w6 ⟨ca, cc, rfl, h6⟩
          refine ⟨_, rfl, ?_⟩
          simp only [Act.put, List.setIfInBounds_toArray, List.set_cons_zero, List.set_cons_succ]
          have hSa := h6.blk 0 rfl
          refine hK.out _ _ hSa ?_
          clear hK K
          refine wpAnyH_one 5 (by kernel_rfl) rfl (fun K hK => ?_)
          refine step_app_pk (by rfl) _ _ (by rfl) h6 5 rfl 3 (by decide) rfl (Below.refl _ _) (by omega) (by rfl) w5.heap.size (by rfl) (h6.blk 4 rfl) ?_
          intro xa xc w7 h7
          simp only [Act.put, List.setIfInBounds_toArray, List.set_cons_zero, List.set_cons_succ]
          have hSy := h7.blk 0 rfl
          refine hK.out _ _ hSy ?_
          clear hK K
          have HZ := Lib.hid h7
          obtain ⟨_, _, hga⟩ := h7.get 2 rfl
          obtain ⟨_, _, hxa⟩ := h7.get 5 rfl
          have HGA := Lib.hid hga
          have HXA := Lib.hid (Sq.rd hxa ePk_rd)
          clear hga hxa h6 h7 hSa hS0 hrow
          refine wpAnyH_one 6 (by kernel_rfl) rfl (fun K hK => ?_); have hsr := same_refl (.slice ga (fl ++ [p]).length gc) (.slice xa (fl ++ [p]).length xc) (fl ++ [p]) _ _ _ HGA.out HXA.out (by rw [List.length_append]; show fl.length + 1 ≤ _; omega); simp only [List.length_append, List.length_cons, List.length_nil, Nat.zero_add] at hsr; (refine step_call (f := ?_) (args := ?_) (by rfl) ?_ ?_; rotate_left 2; (focus (go_simp; first | (with_reducible rfl) | (refine ⟨?_, ?_⟩ <;> with_reducible rfl))); (refine (hsr).mono ?_); rintro e' w'' ⟨rfl, hbs⟩); clear hsr; refine ⟨_, rfl, ?_⟩; simp only [Act.put, List.setIfInBounds_toArray, List.set_cons_zero, List.set_cons_succ]; have hSz := (hbs.block _ (lt_of_block hSy)).trans hSy; refine hK.out _ _ hSz ?_; clear hK K; have HFI := Lib.hid (HZ.out.own hbs); clear hbs hSy; change wpAnyH _ _ _ _ _ (0 + 12) _ _ _; refine wpAnyH_take_n 7 12 (by kernel_rfl) hSz (fun _ _ _ _ _ h => h) ?_; simp only [List.drop_succ_cons, List.drop_zero, List.take_succ_cons, List.take_zero]; (iterate 12 (first | (refine wpFirst_val (v := ?_) (by rfl) ?_ ?_; rotate_left 1; (focus ((intro w' hS'; go_simp); try with_reducible rfl)); simp only [Act.put, List.setIfInBounds_toArray, List.set_cons_zero, List.set_cons_succ]) | (refine wpFirst_un (by rfl) ?_; simp only [Act.put, List.setIfInBounds_toArray, List.set_cons_zero, List.set_cons_succ]))); refine wpFirst_nil ?_; refine wpAnyH_done (by kernel_rfl) ?_ _; clear hSz; go_wp2_with fail; go_ret; exact ⟨rfl, HFI.out.below⟩
  · have HG := Lib.hid hg
    clear hg
    go_wp2_with fail
    refine (symF_bad p a c w1 HG.out).mono ?_
    rintro e w2 ⟨rfl, hb⟩
    have HB2 := Lib.hid (HB1.out.trans (hb.mono HB1.out.size))
    clear hb
    by_cases hbig : 400 < bs.length
    · go_wp2_with fail
      go_ret
      exact ⟨rfl, HB2.out⟩
    · go_wp2_with fail
      go_ret
      exact ⟨rfl, HB2.out⟩
end Go.Proofs.YtdmfjmdnkfeljaaDoor
