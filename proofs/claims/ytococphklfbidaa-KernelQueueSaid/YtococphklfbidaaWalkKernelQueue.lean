/- The walk of KernelQueue. -/
import Derived.Test.YtococphklfbidaaKerX
import Derived.Test.YtococphklfbidaaRow
import Derived.Deep.QuietTactic
import Derived.BigQuiet
namespace Go.Proofs.Ytococphklfbidaa
open Go.RowKit Go.Maps

theorem Few.cancel {j : Nat} {q : Qu} (h : Few j q) (k : Int) : Few j (q.cancel k).1 := by
  have h2 := h.len
  refine ⟨Qu.cancel_ok h.ok k, ?_, ?_⟩
  · unfold Qu.cancel; split
    · exact h.last
    · exact h.last
  · unfold Qu.cancel; split
    · exact Nat.le_trans (List.length_filter_le _ _) h2
    · exact h2
theorem ev5_cells {w : World} {s : Nat} {a b c d e : Value} {T : TypeId} (h : w.heap[s]? = some (.cells #[a, b, c, d, e] T)) : w.cell? ⟨s, 0, none⟩ = some a ∧ w.cell? ⟨s, 1, none⟩ = some b ∧ w.cell? ⟨s, 2, none⟩ = some c ∧ w.cell? ⟨s, 3, none⟩ = some d ∧ w.cell? ⟨s, 4, none⟩ = some e :=
  ⟨blk_cell (i := 0) h rfl, blk_cell (i := 1) h rfl, blk_cell (i := 2) h rfl, blk_cell (i := 3) h rfl, blk_cell (i := 4) h rfl⟩
set_option maxRecDepth 100000 in
set_option maxHeartbeats 16000000 in
theorem walkKernelQueue (W : World) (v0 : Value) (o0 : IsSl rAc W v0) :
    Calls Try.prog 9 #[v0] W fun e w' => e = .returned (.bool true) ∧ Below W.heap.size W w' := by
  obtain ⟨l, hl⟩ := o0
  have ho := acts_of hl
  obtain ⟨oa, oc, rfl, _, _⟩ := ho.shape
  have HS := Lib.hid ((Held.start0 (fun _ => False) (Old W) (fun _ f _ => f) W).addOld (T := tRd eAc (.slice oa l.length oc) l) (RdS.mono ho fun k h => ⟨h, id⟩))
  clear ho hl
  have hG := eqGuardEvR
  go_enter Try.func9, Try.ntmps9
  go_wp2_with fail
  refine (awake_any W).mono ?_
  rintro e w1 ⟨rfl, hb⟩
  have H1 := Lib.hid (HS.out.own hb); have HB1 := Lib.hid hb; clear hb
  by_cases hbig : 60 < l.length
  · go_wp2_with fail
    go_ret
    exact ⟨rfl, HB1.out⟩
  · go_wp2_with fail
    refine (new_h H1.out).mono ?_
    rintro e w2 ⟨p, rfl, h⟩
    have H2 := Lib.hid (h.pick [1, 0] [tQu p Qu.new, tRd eAc (.slice oa l.length oc) l] (by simp) rfl); clear h
    have H3 := Lib.hid ((H2.out.new (.cells #[.int .i64 0, .int .i64 0, .slice none 0 0] 52)).add (T := tRd eEv (.slice none 0 0) []) (Below.refl _ _) (EvR.rdS (show EvR _ (.slice none 0 0) [] from ⟨rfl, none, 0, rfl, Nat.le_refl _, Nat.zero_le _, fun _ => ⟨rfl, rfl⟩, fun b hb => by cases hb⟩) fun b e => by cases e))
    obtain ⟨mb, hmb⟩ : ∃ mb, mb = w2.heap.size := ⟨_, rfl⟩
    go_wp2_with fail
    rw [← hmb] at H3 ⊢
    have HMB := Lib.hid hmb
    clear hmb
    go_loopw [28] (fun i wr => ∃ (j : Nat) (q : Qu) (lj : List Ev) (aj : Option Addr) (cj : Nat), j ≤ l.length ∧ i = .int .i64 (j : Int) ∧ Hid (Few j q) ∧ Hid (Mir q lj) ∧ Hid (Held (fun _ => False) (Old W) W [tQu p q, tRd eAc (.slice oa l.length oc) l, tBlk mb (.cells #[.int .i64 q.now, .int .i64 (q.last : Int), .slice aj lj.length cj] 52), tRd eEv (.slice aj lj.length cj) lj] wr)) (fun i _ => l.length - (intOf i).toNat)
    case atStart => exact ⟨0, Qu.new, [], none, 0, by omega, by go_num, Lib.hid Few.new, Lib.hid (List.Perm.refl _), H3⟩
    case round =>
      clear H2 H3
      obtain ⟨j, q, lj, aj, cj, hj, rfl, HQ, HM, HH⟩ := hrel
      have hz : W.heap.size ≤ wr.heap.size := HH.out.below.size
      have hlq : q.last < 1000000000 := by have := HQ.out.last; omega
      have hrow := HH.out.blk 2 rfl
      have hmb := lt_of_block hrow
      obtain ⟨m0, m1, m2⟩ := refq_cells hrow
      have mf := fun i => blk_free hrow i
      clear hrow
      by_cases hlt : j < l.length
      · obtain ⟨f, hf⟩ : ∃ f, l[j]? = some f := ⟨l[j], List.getElem?_eq_getElem hlt⟩
        obtain ⟨b, off, rfl, k0, k1, k2, k3, k4, hw1, hw2⟩ := act_at (HS.out.below.trans HH.out.below |> fun _ => (show RdS eAc wr _ _ _ from (HH.out.get 1 rfl).choose_spec.choose_spec)) hf
        have HHA := Lib.hid (HH.out.new (.cells #[.int .i64 f.kind, .int .i64 f.at', .int .i64 f.sort, .int .i64 f.node, .int .i64 f.arg] 25))
        have HW1 := Lib.hid hw1
        have HW2 := Lib.hid hw2
        clear hf hw1 hw2
        have hkind : f.kind = 0 ∨ f.kind = 1 ∨ f.kind = 2 ∨ f.kind = 3 ∨ (f.kind ≠ 0 ∧ f.kind ≠ 1 ∧ f.kind ≠ 2 ∧ f.kind ≠ 3) := by omega
        rcases hkind with hk | hk | hk | hk | ⟨hk0, hk1, hk2, hk3⟩
        · have s0 : (f.kind == 0) = true := by simpa using hk
          obtain ⟨q', n', e', hq'⟩ : ∃ q' n' e', q.push f.at' f.sort f.node f.arg = (q', n', e') := ⟨_, _, _, rfl⟩
          have HQ' := Lib.hid (show Few (j + 1) q' by have := HQ.out.push f.at' f.sort f.node HW2.out; rw [hq'] at this; exact this)
          have HQQ := Lib.hid hq'
          clear hk hq'
          go_wp2_with (first
            | (go_at_call 13; refine (push_h HHA.out 0 rfl HQ.out.ok hlq _ _ _ _).mono ?_; rintro e w3 ⟨rfl, h⟩; rw [HQQ.out] at h ⊢; have H4 := Lib.hid (show Held (fun _ => False) (Old W) W [tQu p q', tRd eAc (.slice (some ⟨b, off, none⟩) l.length oc) l, tBlk mb (.cells #[.int .i64 q.now, .int .i64 (q.last : Int), .slice aj lj.length cj] 52), tRd eEv (.slice aj lj.length cj) lj, tBlk wr.heap.size (.cells #[.int .i64 f.kind, .int .i64 f.at', .int .i64 f.sort, .int .i64 f.node, .int .i64 f.arg] 25)] w3 from h); clear h; (have hrow_3 := H4.out.blk 2 rfl; obtain ⟨m0_3, m1_3, m2_3⟩ := refq_cells hrow_3; have mf_3 := fun i => blk_free hrow_3 i; have msz_3 := lt_of_block hrow_3; clear hrow_3); have frow_3 := H4.out.blk 4 rfl; have f0_3 := blk_cell (i := 0) frow_3 rfl; have f1_3 := blk_cell (i := 1) frow_3 rfl; have f2_3 := blk_cell (i := 2) frow_3 rfl; have f3_3 := blk_cell (i := 3) frow_3 rfl; have f4_3 := blk_cell (i := 4) frow_3 rfl; clear frow_3)
            | (go_at_call 22; refine (rPush_h H4.out 3 rfl HM.out hlq _ _ _ _).mono ?_; rintro e w4 ⟨l', a', c', rfl, hm', h⟩; rw [HQQ.out] at hm' ⊢; have HM' := Lib.hid hm'; have H5 := Lib.hid h; clear h hm'; (have hrow_4 := H5.out.blk 2 rfl; obtain ⟨m0_4, m1_4, m2_4⟩ := refq_cells hrow_4; have mf_4 := fun i => blk_free hrow_4 i; have msz_4 := lt_of_block hrow_4; clear hrow_4)))
          have H9 := Lib.hid ((H5.out.sts3 2 rfl (.int .i64 q'.now) (.int .i64 (q'.last : Int)) (.slice a' l'.length c')).pick [0, 1, 2, 5] [_, _, _, _] (by simp) rfl)
          (have HLN := Lib.hid HM'.out.len; go_wp2_with fail; go_quiet ((first | (go_at_call 17; exact Calls.quiet_of_same ((now_h (H9.out.drewN _) 0 rfl).mono fun e' w' h => ⟨show e' = .returned (.int .i64 q'.now) from h.1, h.2.symm⟩)) | (go_at_call 15; exact Calls.quiet_of_same ((len_h (H9.out.drewN _) 0 rfl).mono fun e' w' h => ⟨show e' = .returned (.int .i64 (l'.length : Int)) from h.1.trans (by rw [HLN.out]), h.2.symm⟩)))); go_wp2_with fail; go_roundw; (case rel => exact ⟨j + 1, q', l', a', c', by omega, by go_num, HQ', HM', Lib.hid (H9.out.drewN _)⟩); (case measure => simp [intOf]; omega))
        · have s0 : (f.kind == 0) = false := by rw [hk]; rfl
          have s1 : (f.kind == 1) = true := by simpa using hk
          obtain ⟨q', e', hq'⟩ : ∃ q' e', q.cancel f.at' = (q', e') := ⟨_, _, rfl⟩
          have HQ' := Lib.hid (show Few (j + 1) q' by have := (HQ.out.cancel f.at').up; rw [hq'] at this; exact this)
          have HQQ := Lib.hid hq'
          clear hk hq'
          go_wp2_with (first
            | (go_at_call 21; refine (cancel_h HHA.out 0 rfl HQ.out.ok hlq _ HW1.out).mono ?_; rintro e w3 ⟨rfl, h⟩; rw [HQQ.out] at h ⊢; have H4 := Lib.hid (show Held (fun _ => False) (Old W) W [tQu p q', tRd eAc (.slice (some ⟨b, off, none⟩) l.length oc) l, tBlk mb (.cells #[.int .i64 q.now, .int .i64 (q.last : Int), .slice aj lj.length cj] 52), tRd eEv (.slice aj lj.length cj) lj, tBlk wr.heap.size (.cells #[.int .i64 f.kind, .int .i64 f.at', .int .i64 f.sort, .int .i64 f.node, .int .i64 f.arg] 25)] w3 from h); clear h; (have hrow_3 := H4.out.blk 2 rfl; obtain ⟨m0_3, m1_3, m2_3⟩ := refq_cells hrow_3; have mf_3 := fun i => blk_free hrow_3 i; have msz_3 := lt_of_block hrow_3; clear hrow_3); have frow_3 := H4.out.blk 4 rfl; have f0_3 := blk_cell (i := 0) frow_3 rfl; have f1_3 := blk_cell (i := 1) frow_3 rfl; have f2_3 := blk_cell (i := 2) frow_3 rfl; have f3_3 := blk_cell (i := 3) frow_3 rfl; have f4_3 := blk_cell (i := 4) frow_3 rfl; clear frow_3)
            | (go_at_call 23; refine (rCancel_h H4.out 3 rfl HM.out HQ.out.ok _).mono ?_; rintro e w4 ⟨l', a', c', rfl, hm', h⟩; rw [HQQ.out] at hm' ⊢; have HM' := Lib.hid hm'; have H5 := Lib.hid h; clear h hm'; (have hrow_4 := H5.out.blk 2 rfl; obtain ⟨m0_4, m1_4, m2_4⟩ := refq_cells hrow_4; have mf_4 := fun i => blk_free hrow_4 i; have msz_4 := lt_of_block hrow_4; clear hrow_4)))
          have H9 := Lib.hid ((H5.out.sts3 2 rfl (.int .i64 q'.now) (.int .i64 (q'.last : Int)) (.slice a' l'.length c')).pick [0, 1, 2, 5] [_, _, _, _] (by simp) rfl)
          (have HLN := Lib.hid HM'.out.len; go_wp2_with fail; go_quiet ((first | (go_at_call 17; exact Calls.quiet_of_same ((now_h (H9.out.drewN _) 0 rfl).mono fun e' w' h => ⟨show e' = .returned (.int .i64 q'.now) from h.1, h.2.symm⟩)) | (go_at_call 15; exact Calls.quiet_of_same ((len_h (H9.out.drewN _) 0 rfl).mono fun e' w' h => ⟨show e' = .returned (.int .i64 (l'.length : Int)) from h.1.trans (by rw [HLN.out]), h.2.symm⟩)))); go_wp2_with fail; go_roundw; (case rel => exact ⟨j + 1, q', l', a', c', by omega, by go_num, HQ', HM', Lib.hid (H9.out.drewN _)⟩); (case measure => simp [intOf]; omega))
        · have s0 : (f.kind == 0) = false := by rw [hk]; rfl
          have s1 : (f.kind == 1) = false := by rw [hk]; rfl
          have s2 : (f.kind == 2) = true := by simpa using hk
          obtain ⟨q', x, bx, hq'⟩ : ∃ q' x bx, q.pop = (q', x, bx) := ⟨_, _, _, rfl⟩
          have HQ' := Lib.hid (show Few (j + 1) q' by have := HQ.out.pop.1.up; rw [hq'] at this; exact this)
          have HQQ := Lib.hid hq'
          have hsm := run_neqSameR x
          clear hk hq'
          have hhb := HHA.out.new (.cells #[.int .i64 0, .int .i64 0, .int .i64 0, .int .i64 0, .int .i64 0] 44)
          rw [heap_size_alloc5] at hhb
          have HHB := Lib.hid hhb
          clear hhb
          go_wp2_with ((go_at_call 14; refine (pop_h HHB.out 0 rfl HQ.out.ok hlq).mono ?_; rintro e w3 ⟨rfl, h⟩; rw [HQQ.out] at h ⊢; have H4 := Lib.hid (show Held (fun _ => False) (Old W) W [tQu p q', tRd eAc (.slice (some ⟨b, off, none⟩) l.length oc) l, tBlk mb (.cells #[.int .i64 q.now, .int .i64 (q.last : Int), .slice aj lj.length cj] 52), tRd eEv (.slice aj lj.length cj) lj, tBlk wr.heap.size (.cells #[.int .i64 f.kind, .int .i64 f.at', .int .i64 f.sort, .int .i64 f.node, .int .i64 f.arg] 25), tBlk (wr.heap.size + 1) (.cells #[.int .i64 0, .int .i64 0, .int .i64 0, .int .i64 0, .int .i64 0] 44)] w3 from h); clear h; (have hrow_3 := H4.out.blk 2 rfl; obtain ⟨m0_3, m1_3, m2_3⟩ := refq_cells hrow_3; have mf_3 := fun i => blk_free hrow_3 i; have msz_3 := lt_of_block hrow_3; clear hrow_3); have frow_3 := H4.out.blk 4 rfl; have f0_3 := blk_cell (i := 0) frow_3 rfl; have f1_3 := blk_cell (i := 1) frow_3 rfl; have f2_3 := blk_cell (i := 2) frow_3 rfl; have f3_3 := blk_cell (i := 3) frow_3 rfl; have f4_3 := blk_cell (i := 4) frow_3 rfl; clear frow_3))
          go_wp2_with fail
          refine (rPop_h (H4.out.new (.cells #[.int .i64 x.at', .int .i64 x.kind, .int .i64 x.node, .int .i64 x.number, .int .i64 x.arg] 32)) 3 rfl HM.out HQ.out.ok).mono ?_
          rintro e w4 ⟨l', a', c', rfl, hm', h⟩
          rw [HQQ.out] at hm' ⊢
          have HM' := Lib.hid hm'
          have H5 := Lib.hid h
          clear h hm'
          (have hrow_4 := H5.out.blk 2 rfl; obtain ⟨m0_4, m1_4, m2_4⟩ := refq_cells hrow_4; have mf_4 := fun i => blk_free hrow_4 i; have msz_4 := lt_of_block hrow_4; clear hrow_4)
          have frow_4 := H5.out.blk 6 rfl; have f0_4 := blk_cell (i := 0) frow_4 rfl; have f1_4 := blk_cell (i := 1) frow_4 rfl; have f2_4 := blk_cell (i := 2) frow_4 rfl; have f3_4 := blk_cell (i := 3) frow_4 rfl; have f4_4 := blk_cell (i := 4) frow_4 rfl; clear frow_4
          have yrow := H5.out.blk 5 rfl
          obtain ⟨y0, y1, y2, y3, y4⟩ := ev5_cells yrow
          have yf := fun i => blk_free yrow i
          have ysz := lt_of_block yrow
          have esz := lt_of_block (H5.out.blk 6 rfl)
          have ysz3 := lt_of_block (H4.out.blk 5 rfl)
          have hne1 : wr.heap.size + 1 ≠ w3.heap.size := by omega
          have hne2 : mb ≠ w3.heap.size := by omega
          have hne3 : mb ≠ wr.heap.size + 1 := by omega
          clear yrow
          go_wp2_with fail
          have H9 := Lib.hid (((H5.out.sts3 2 rfl (.int .i64 q'.now) (.int .i64 (q'.last : Int)) (.slice a' l'.length c')).sts5 5 rfl (.int .i64 x.at') (.int .i64 x.kind) (.int .i64 x.node) (.int .i64 x.number) (.int .i64 x.arg)).pick [0, 1, 2, 7] [_, _, _, _] (by simp) rfl)
          (have HLN := Lib.hid HM'.out.len; go_wp2_with fail; go_quiet ((first | (go_at_call 17; exact Calls.quiet_of_same ((now_h (H9.out.drewN _) 0 rfl).mono fun e' w' h => ⟨show e' = .returned (.int .i64 q'.now) from h.1, h.2.symm⟩)) | (go_at_call 15; exact Calls.quiet_of_same ((len_h (H9.out.drewN _) 0 rfl).mono fun e' w' h => ⟨show e' = .returned (.int .i64 (l'.length : Int)) from h.1.trans (by rw [HLN.out]), h.2.symm⟩)))); go_wp2_with fail; go_roundw; (case rel => exact ⟨j + 1, q', l', a', c', by omega, by go_num, HQ', HM', Lib.hid (H9.out.drewN _)⟩); (case measure => simp [intOf]; omega))
        · have s0 : (f.kind == 0) = false := by rw [hk]; rfl
          have s1 : (f.kind == 1) = false := by rw [hk]; rfl
          have s2 : (f.kind == 2) = false := by rw [hk]; rfl
          have s3 : (f.kind == 3) = true := by simpa using hk
          obtain ⟨q', xs, hq'⟩ : ∃ q' xs, q.until f.at' = (q', xs) := ⟨_, _, rfl⟩
          have HQ' := Lib.hid (show Few (j + 1) q' by have := (HQ.out.until f.at').1.up; rw [hq'] at this; exact this)
          have HQQ := Lib.hid hq'
          have hxl : xs.length ≤ 1000000 := by
            have h1 := congrArg List.length (runs_app f.at' q.now q.evs)
            have h2 := HQ.out.len
            rw [List.length_append] at h1
            have h3 : (runs f.at' q.now q.evs).2.2 = xs := congrArg Prod.snd hq'
            rw [h3] at h1
            omega
          clear hk hq'
          go_wp2_with fail
          refine (until_h HHA.out 0 rfl HQ.out.ok hlq f.at').mono ?_
          rintro e w3 ⟨ua, uc, rfl, h⟩
          rw [HQQ.out] at h ⊢
          have H4 := Lib.hid (show Held (fun _ => False) (Old W) W [tQu p q', tRd eAc (.slice (some ⟨b, off, none⟩) l.length oc) l, tBlk mb (.cells #[.int .i64 q.now, .int .i64 (q.last : Int), .slice aj lj.length cj] 52), tRd eEv (.slice aj lj.length cj) lj, tBlk wr.heap.size (.cells #[.int .i64 f.kind, .int .i64 f.at', .int .i64 f.sort, .int .i64 f.node, .int .i64 f.arg] 25), tSq eEv 32 (.slice ua xs.length uc) xs] w3 from h)
          clear h
          (have hrow_3 := H4.out.blk 2 rfl; obtain ⟨m0_3, m1_3, m2_3⟩ := refq_cells hrow_3; have mf_3 := fun i => blk_free hrow_3 i; have msz_3 := lt_of_block hrow_3; clear hrow_3)
          have frow_3 := H4.out.blk 4 rfl; have f0_3 := blk_cell (i := 0) frow_3 rfl; have f1_3 := blk_cell (i := 1) frow_3 rfl; have f2_3 := blk_cell (i := 2) frow_3 rfl; have f3_3 := blk_cell (i := 3) frow_3 rfl; have f4_3 := blk_cell (i := 4) frow_3 rfl; clear frow_3
          go_wp2_with fail
          refine (rUntil_h H4.out 3 rfl HM.out HQ.out.ok hlq f.at').mono ?_
          rintro e w4 ⟨l', a', c', ao, co, rfl, hm', h⟩
          rw [HQQ.out] at hm' h ⊢
          have HM' := Lib.hid hm'
          have H5 := Lib.hid h
          clear h hm'
          (have hrow_4 := H5.out.blk 2 rfl; obtain ⟨m0_4, m1_4, m2_4⟩ := refq_cells hrow_4; have mf_4 := fun i => blk_free hrow_4 i; have msz_4 := lt_of_block hrow_4; clear hrow_4)
          have H6 := Lib.hid (H5.out.sts3 2 rfl (.int .i64 q'.now) (.int .i64 (q'.last : Int)) (.slice a' l'.length c'))
          obtain ⟨G1, Y1, hx1⟩ := H6.out.get 5 rfl
          obtain ⟨G2, Y2, hx2⟩ := H6.out.get 7 rfl
          have HX1 := Lib.hid (Sq.evR (show Sq eEv _ _ _ _ _ _ from hx1))
          have HX2 := Lib.hid (Sq.evR (show Sq eEv _ _ _ _ _ _ from hx2))
          clear hx1 hx2
          go_wp2_with fail
          refine (same_any xs hxl ua ao uc co _ HX1.out HX2.out).mono ?_
          rintro e w5 ⟨rfl, hw5⟩
          have H9 := Lib.hid (show Held (fun _ => False) (Old W) W [tQu p q', tRd eAc (.slice (some ⟨b, off, none⟩) l.length oc) l, tBlk mb (.cells #[.int .i64 q'.now, .int .i64 (q'.last : Int), .slice a' l'.length c'] 52), tRd eEv (.slice a' l'.length c') l'] w5 by obtain ⟨n5, rfl⟩ := hw5; exact (H6.out.drewN n5).pick [0, 1, 2, 6] [_, _, _, _] (by simp) rfl)
          clear hw5
          (have hrow_5 := H9.out.blk 2 rfl; obtain ⟨m0_5, m1_5, m2_5⟩ := refq_cells hrow_5; have mf_5 := fun i => blk_free hrow_5 i; have msz_5 := lt_of_block hrow_5; clear hrow_5)
          (have HLN := Lib.hid HM'.out.len; go_wp2_with fail; go_quiet ((first | (go_at_call 17; exact Calls.quiet_of_same ((now_h (H9.out.drewN _) 0 rfl).mono fun e' w' h => ⟨show e' = .returned (.int .i64 q'.now) from h.1, h.2.symm⟩)) | (go_at_call 15; exact Calls.quiet_of_same ((len_h (H9.out.drewN _) 0 rfl).mono fun e' w' h => ⟨show e' = .returned (.int .i64 (l'.length : Int)) from h.1.trans (by rw [HLN.out]), h.2.symm⟩)))); go_wp2_with fail; go_roundw; (case rel => exact ⟨j + 1, q', l', a', c', by omega, by go_num, HQ', HM', Lib.hid (H9.out.drewN _)⟩); (case measure => simp [intOf]; omega))
        · have s0 : (f.kind == 0) = false := by simpa using hk0
          have s1 : (f.kind == 1) = false := by simpa using hk1
          have s2 : (f.kind == 2) = false := by simpa using hk2
          have s3 : (f.kind == 3) = false := by simpa using hk3
          have HQ' := Lib.hid HQ.out.up
          have HM' := Lib.hid HM.out
          have H9 := Lib.hid (HHA.out.pick [0, 1, 2, 3] [_, _, _, _] (by simp) rfl)
          obtain ⟨q', rfl⟩ : ∃ q', q' = q := ⟨_, rfl⟩
          obtain ⟨l', rfl⟩ : ∃ l', l' = lj := ⟨_, rfl⟩
          obtain ⟨a', rfl⟩ : ∃ a', a' = aj := ⟨_, rfl⟩
          obtain ⟨c', rfl⟩ : ∃ c', c' = cj := ⟨_, rfl⟩
          (have HLN := Lib.hid HM'.out.len; go_wp2_with fail; go_quiet ((first | (go_at_call 17; exact Calls.quiet_of_same ((now_h (H9.out.drewN _) 0 rfl).mono fun e' w' h => ⟨show e' = .returned (.int .i64 q'.now) from h.1, h.2.symm⟩)) | (go_at_call 15; exact Calls.quiet_of_same ((len_h (H9.out.drewN _) 0 rfl).mono fun e' w' h => ⟨show e' = .returned (.int .i64 (l'.length : Int)) from h.1.trans (by rw [HLN.out]), h.2.symm⟩)))); go_wp2_with fail; go_roundw; (case rel => exact ⟨j + 1, q', l', a', c', by omega, by go_num, HQ', HM', Lib.hid (H9.out.drewN _)⟩); (case measure => simp [intOf]; omega))
      · go_wp2_with fail
        go_ret
        exact ⟨rfl, HH.out.below⟩
end Go.Proofs.Ytococphklfbidaa
