/- The walk of FrameScans. -/
import Derived.Test.YtdmfjmdnkfeljaaDoorFrnG
import Derived.Test.YtdmfjmdnkfeljaaDoorFrnA
import Derived.Test.YtdmfjmdnkfeljaaDoorFrmV
namespace Go.Proofs.YtdmfjmdnkfeljaaDoor
open Go.RowKit

theorem push_inv {s : Sc} (x : Byte) (h1 : s.inside = false → s.data = []) (h2 : s.data.length ≤ 162) : ((s.push x).1.inside = false → (s.push x).1.data = []) ∧ (s.push x).1.data.length ≤ 162 ∧ (s.push x).1.bad ≤ s.bad + 1 := by
  unfold Sc.push
  by_cases c1 : x = 49
  · rw [if_pos c1]; refine ⟨(fun h => by cases h), by simp, ?_⟩
    show (if s.inside then s.bad + 1 else s.bad) ≤ _
    cases s.inside <;> simp
  · rw [if_neg c1]
    by_cases c2 : s.inside = false
    · rw [if_pos c2]; exact ⟨h1, h2, Nat.le_succ _⟩
    · rw [if_neg c2]
      by_cases c3 : isData x = true ∧ s.data.length < 162
      · rw [if_pos c3]; exact ⟨(fun h => by cases h), by simp; omega, Nat.le_succ _⟩
      · rw [if_neg c3]
        by_cases c4 : x = 50 ∧ (decS s.data).2.2 = 0 ∧ (decP (decS s.data).1).2 = 0
        · rw [if_pos c4]; exact ⟨fun _ => rfl, by simp, Nat.le_succ _⟩
        · rw [if_neg c4]; exact ⟨fun _ => rfl, by simp, Nat.le_refl _⟩
theorem same_found {o : Option Pk} {f g : Bool} {r q : Pk} (h1 : o = (if f then some r else none)) (h2 : o = (if g then some q else none)) (h3 : f = false → r = Pk.zero) (h4 : g = false → q = Pk.zero) : f = g ∧ r = q := by
  cases f <;> cases g <;> simp_all
set_option maxRecDepth 100000 in
set_option maxHeartbeats 8000000 in
theorem walkFrameScans (W : World) (v0 : Value) (o0 : IsBytes W v0) (ht : Tabs W) :
    Calls Tryd.prog 8 #[v0] W fun e w' => e = .returned (.bool true) ∧ Below W.heap.size W w' := by
  obtain ⟨ss, hmo⟩ := o0
  obtain ⟨ma, mc, rfl⟩ := hmo.slice
  have HT := Lib.hid ht; have HMO := Lib.hid hmo
  clear ht hmo
  go_enter Tryd.func8, Tryd.ntmps8
  go_wp2_with fail
  refine (awake_any W HT.out).mono ?_
  rintro e w1 ⟨rfl, hb⟩
  have HB1 := Lib.hid hb
  have H1 := Lib.hid ((Held.start0 (fun _ => False) (Old W) (fun _ f => f.elim) W).own hb); clear hb
  by_cases hbig : 800 < ss.length
  · go_wp2_with fail
    go_ret
    exact ⟨rfl, HB1.out⟩
  have hbig2 : ss.length ≤ 800 := by omega
  go_wp2_with fail
  refine (newSc_h H1.out).mono ?_
  rintro e w2 ⟨sb, rfl, h2⟩
  have H2 := Lib.hid h2; clear h2
  go_wp2_with fail
  obtain ⟨w3, hw3⟩ : ∃ w3, w3 = w2.alloc (.cells #[.bool false, .slice none 0 0, .int .i64 0] 48) := ⟨_, rfl⟩
  have h3 : Held (fun _ => False) (Old W) W [tSc sb Sc.new, tBlk w2.heap.size (.cells #[.bool false, .slice none 0 0, .int .i64 0] 48)] w3 := by rw [hw3]; exact H2.out.new _
  obtain ⟨mb, hmb⟩ : ∃ mb, mb = w2.heap.size := ⟨_, rfl⟩
  rw [← hw3, ← hmb]
  rw [← hmb] at h3
  have H3 := Lib.hid (h3.addZ (T := tBy (.slice none 0 0) []) (Below.refl _ _) (ByZ.nil _ _))
  clear hw3 hmb h3
  go_loopw [20] (fun i wr => ∃ k : Nat, k ≤ ss.length ∧ i = .int .i64 (k : Int) ∧ ∃ (s : Sc) (a : Option Addr) (c : Nat), s.bad ≤ k ∧ Hid (s.inside = false → s.data = []) ∧ s.data.length ≤ 162 ∧
    Hid (Held (fun _ => False) (Old W) W [tSc sb s, tBlk mb (.cells #[.bool s.inside, .slice a s.data.length c, .int .i64 (s.bad : Int)] 48), tBy (.slice a s.data.length c) s.data] wr)) (fun i _ => ss.length - (intOf i).toNat)
  case atStart => exact ⟨0, by omega, by go_num, Sc.new, none, 0, by decide, Lib.hid (fun _ => rfl), by decide, H3⟩
  case round =>
    clear H3
    obtain ⟨k, hk, rfl, s, a, c, hbk, HIN, hdl, HH⟩ := hrel
    by_cases hlt : k < ss.length
    · obtain ⟨_, ⟨h0, _⟩ | ⟨bb, off, cp, e, _, _, _, hc⟩⟩ := (HMO.out.below HH.out.below).cases
      · rw [h0] at hlt; simp at hlt
      · obtain ⟨rfl, rfl⟩ : ma = some ⟨bb, off, none⟩ ∧ mc = cp := by simpa using e
        have hck := hc k hlt
        clear hc e
        generalize ss.getD k 0 = x at hck
        go_wp2_with fail
        refine (push_h HH.out 0 rfl x (HH.out.tabs HT.out) (by omega)).mono ?_
        rintro e w4 ⟨r, f, ra, rc, rfl, hf, hr, h4⟩
        have HF := Lib.hid hf; have HR := Lib.hid hr
        go_upto_region 11 with (fail)
        obtain ⟨w5, hw5⟩ : ∃ w5, w5 = w4.alloc (.cells #[.int .u8 (U r.kind), .int .i64 r.cls, .int .i64 r.number, .int .i64 r.value, .slice ra r.pay.length rc] 24) := ⟨_, rfl⟩
        have h5 := h4.new (.cells #[.int .u8 (U r.kind), .int .i64 r.cls, .int .i64 r.number, .int .i64 r.value, .slice ra r.pay.length rc] 24)
        rw [← hw5] at h5 ⊢
        have H5 := Lib.hid (show Held (fun _ => False) (Old W) W [tSc sb (s.push x).1, tBlk mb (.cells #[.bool s.inside, .slice a s.data.length c, .int .i64 (s.bad : Int)] 48), tBy (.slice a s.data.length c) s.data, tBy (.slice ra r.pay.length rc) r.pay, tBlk w4.heap.size (.cells #[.int .u8 (U r.kind), .int .i64 r.cls, .int .i64 r.number, .int .i64 r.value, .slice ra r.pay.length rc] 24)] w5 from h5)
        clear hf hr h4 h5 hw5 hck
        obtain ⟨n4, hn4⟩ : ∃ n4, n4 = w4.heap.size := ⟨_, rfl⟩
        rw [← hn4] at H5 ⊢
        clear hn4
        obtain ⟨d0, d1, d2⟩ := sr_cells (H5.out.blk 1 rfl)
        go_wp2_with fail
        obtain ⟨_, Y, hdz⟩ := H5.out.get 2 rfl
        refine (refP_any x HIN.out hdl hdz.1 (by omega)).mono ?_
        clear hdz d0 d1 d2
        intro e w6 hrp
        obtain ⟨a', c', q, g, qa, qc, rfl, hg, hq, h6⟩ := hrp.held H5.out
        obtain ⟨rfl, rfl⟩ := same_found HF.out hg HR.out hq
        have H6 := Lib.hid h6
        clear hg hq h6 hrp HF HR
        obtain ⟨hin', hdl', hbk'⟩ := push_inv x HIN.out hdl
        have HIN' := Lib.hid hin'
        clear hin'
        generalize (s.push x).1 = s2 at *
        dsimp only
        go_upto_region 12 with (fail)
        obtain ⟨w7, hw7⟩ : ∃ w7, w7 = (w6.alloc (.cells #[.bool s2.inside, .slice a' s2.data.length c', .int .i64 (s2.bad : Int)] 48)).alloc (.cells #[.int .u8 (U r.kind), .int .i64 r.cls, .int .i64 r.number, .int .i64 r.value, .slice qa r.pay.length qc] 24) := ⟨_, rfl⟩
        have h7 := (H6.out.new (.cells #[.bool s2.inside, .slice a' s2.data.length c', .int .i64 (s2.bad : Int)] 48)).new (.cells #[.int .u8 (U r.kind), .int .i64 r.cls, .int .i64 r.number, .int .i64 r.value, .slice qa r.pay.length qc] 24)
        rw [World.size_alloc] at h7
        rw [← hw7] at h7 ⊢
        have H7 := Lib.hid (show Held (fun _ => False) (Old W) W [tSc sb s2, tBlk mb (.cells #[.bool s.inside, .slice a s.data.length c, .int .i64 (s.bad : Int)] 48), tBy (.slice a s.data.length c) s.data, tBy (.slice ra r.pay.length rc) r.pay, tBlk n4 (.cells #[.int .u8 (U r.kind), .int .i64 r.cls, .int .i64 r.number, .int .i64 r.value, .slice ra r.pay.length rc] 24), tBy (.slice a' s2.data.length c') s2.data, tBy (.slice qa r.pay.length qc) r.pay, tBlk w6.heap.size (.cells #[.bool s2.inside, .slice a' s2.data.length c', .int .i64 (s2.bad : Int)] 48), tBlk (w6.heap.size + 1) (.cells #[.int .u8 (U r.kind), .int .i64 r.cls, .int .i64 r.number, .int .i64 r.value, .slice qa r.pay.length qc] 24)] w7 from h7)
        clear h7 hw7
        obtain ⟨d0, d1, d2⟩ := sr_cells (H7.out.blk 7 rfl)
        have hrm := H7.out.blk 1 rfl
        obtain ⟨m0, m1, m2⟩ := sr_cells hrm
        have mf := fun i => blk_free hrm i
        have hml := lt_of_block hrm
        have h8 := H7.out.set 1 rfl (.cells #[.bool s2.inside, .slice a' s2.data.length c', .int .i64 (s2.bad : Int)] 48) (show Fr (fun k => k = mb) w7 (((w7.setCell ⟨mb, 0, none⟩ (.bool s2.inside)).setCell ⟨mb, 1, none⟩ (.slice a' s2.data.length c')).setCell ⟨mb, 2, none⟩ (.int .i64 (s2.bad : Int))) by (repeat (first | (with_reducible exact Fr.refl _ _) | exact Or.inl rfl | (with_reducible refine Fr.setCell ?_ ?_ _) | (with_reducible refine Fr.drewN ?_ _) | (with_reducible refine Fr.drew ?_)))) (sts3 hrm _ _ _)
        have H8' := Lib.hid h8
        clear hrm h8
        go_upto_region 13 with (fail)
        obtain ⟨w8, hw8⟩ : ∃ w8, w8 = (((w7.setCell ⟨mb, 0, none⟩ (.bool s2.inside)).setCell ⟨mb, 1, none⟩ (.slice a' s2.data.length c')).setCell ⟨mb, 2, none⟩ (.int .i64 (s2.bad : Int))) := ⟨_, rfl⟩
        have h8 := H8'.out
        rw [← hw8] at h8 ⊢
        have H8 := Lib.hid h8
        clear h8 hw8 H8' d0 d1 d2 m0 m1 m2 mf hml
        obtain ⟨e0, e1, e2, e3, e4⟩ := pk_cells (H8.out.blk 4 rfl)
        obtain ⟨f0, f1, f2, f3, f4⟩ := pk_cells (H8.out.blk 8 rfl)
        obtain ⟨_, _, m2⟩ := sr_cells (H8.out.blk 1 rfl)
        obtain ⟨_, _, hz1⟩ := H8.out.get 3 rfl
        obtain ⟨_, _, hz2⟩ := H8.out.get 6 rfl
        have HZ1 := Lib.hid hz1.1; have HZ2 := Lib.hid hz2.1
        clear hz1 hz2
        refine wp_region_held_drew (S := Below w8.heap.size w8) (by kernel_rfl) (by (repeat (first | (with_reducible exact Below.refl _ _) | (with_reducible refine Bw.alloc ?_ _) | (with_reducible refine Bw.drewN ?_ _) | (with_reducible refine Bw.drew ?_)))) (fun hS0 => ?_)
        change wpAnyH _ _ _ _ _ (10 + 6) _ _ _
        refine wpAnyH_take_n 0 6 (by kernel_rfl) hS0 (fun _ _ _ _ _ h => h) ?_
        simp only [List.drop_zero, List.take_succ_cons, List.take_zero]
        iterate 6 (refine wpFirst_val (v := ?_) (by rfl) ?_ ?_; rotate_left 1; (focus ((intro w' hS'; have k0 := cell_later hS' e0; have k1 := cell_later hS' e1; have k2 := cell_later hS' e2; have k3 := cell_later hS' e3; have k4 := cell_later hS' e4; have l0 := cell_later hS' f0; have l1 := cell_later hS' f1; have l2 := cell_later hS' f2; have l3 := cell_later hS' f3; have l4 := cell_later hS' f4; have j2 := cell_later hS' m2; go_simp); try with_reducible rfl)); simp only [Act.put, List.setIfInBounds_toArray, List.set_cons_zero, List.set_cons_succ])
        refine wpFirst_nil ?_
        refine wpAnyH_one 6 (by kernel_rfl) rfl (fun K hK => ?_)
        (refine step_call (f := ?_) (args := ?_) (by rfl) ?_ ?_; rotate_left 2; (focus (go_simp; first | (with_reducible rfl) | (refine ⟨?_, ?_⟩ <;> with_reducible rfl))); (refine ((sameR_refl r ra qa rc qc _ (HZ1.out.below hS0) (HZ2.out.below hS0))).mono ?_); rintro e' w'' ⟨rfl, hbx⟩)
        refine ⟨_, rfl, ?_⟩
        simp only [Act.put, List.setIfInBounds_toArray, List.set_cons_zero, List.set_cons_succ]
        have hS1 := hS0.trans (hbx.mono hS0.size)
        refine hK.out _ _ hS1 ?_
        clear hK K
        change wpAnyH _ _ _ _ _ (5 + 4) _ _ _
        refine wpAnyH_take_n 7 4 (by kernel_rfl) hS1 (fun _ _ _ _ _ h => h) ?_
        simp only [List.drop_succ_cons, List.drop_zero, List.take_succ_cons, List.take_zero]
        iterate 4 (refine wpFirst_val (v := ?_) (by rfl) ?_ ?_; rotate_left 1; (focus ((intro w' hS'; go_simp); try with_reducible rfl)); simp only [Act.put, List.setIfInBounds_toArray, List.set_cons_zero, List.set_cons_succ])
        refine wpFirst_nil ?_
        change wpAnyH _ _ _ _ _ (0 + 5) _ _ _
        refine wpAnyH_take_n 11 5 (by kernel_rfl) hS1 (fun _ _ _ _ _ h => h) ?_
        simp only [List.drop_succ_cons, List.drop_zero, List.take_succ_cons, List.take_zero]
        (refine wpFirst_call (v := ?_) (f := ?_) (args := ?_) (by rfl) ?_ ?_ ?_; rotate_left 3; (focus (intro w'; go_simp; first | (with_reducible rfl) | (refine ⟨?_, ?_⟩ <;> with_reducible rfl))); (focus (intro w' hS'; with_reducible exact (bad_h (H8.out.own hS') 0 rfl))); simp only [Act.put, List.setIfInBounds_toArray, List.set_cons_zero, List.set_cons_succ])
        iterate 4 (refine wpFirst_val (v := ?_) (by rfl) ?_ ?_; rotate_left 1; (focus ((intro w' hS'; have k0 := cell_later hS' e0; have k1 := cell_later hS' e1; have k2 := cell_later hS' e2; have k3 := cell_later hS' e3; have k4 := cell_later hS' e4; have l0 := cell_later hS' f0; have l1 := cell_later hS' f1; have l2 := cell_later hS' f2; have l3 := cell_later hS' f3; have l4 := cell_later hS' f4; have j2 := cell_later hS' m2; go_simp); try with_reducible rfl)); simp only [Act.put, List.setIfInBounds_toArray, List.set_cons_zero, List.set_cons_succ])
        refine wpFirst_nil ?_
        refine wpAnyH_done (by kernel_rfl) ?_ _
        have H9 := Lib.hid (H8.out.own hS1)
        clear hS0 hS1 hbx e0 e1 e2 e3 e4 f0 f1 f2 f3 f4 m2
        go_wp2_with fail
        go_roundw
        case rel => exact ⟨k + 1, by omega, by go_num, s2, a', c', by omega, HIN', hdl', Lib.hid (H9.out.pick [0, 1, 5] [_, _, _] (by simp) rfl)⟩
        case measure => simp [intOf]; omega
    · go_wp2_with fail
      go_ret
      exact ⟨rfl, HH.out.below⟩
end Go.Proofs.YtdmfjmdnkfeljaaDoor
