/- The walk of KernelNow. -/
import Derived.Test.YtococphklfbidaaKerK
import Derived.Test.YtococphklfbidaaRow
namespace Go.Proofs.Ytococphklfbidaa
open Go.RowKit Go.Maps

/-- a queue after at most j calls -/
structure Few (j : Nat) (q : Qu) : Prop where
  ok : q.Ok
  last : q.last ≤ j
  len : q.evs.length ≤ j
theorem Few.new : Few 0 Qu.new := ⟨Qu.new_ok, Nat.le_refl _, Nat.le_refl _⟩
theorem Few.up {j : Nat} {q : Qu} (h : Few j q) : Few (j + 1) q := ⟨h.ok, Nat.le_succ_of_le h.last, Nat.le_succ_of_le h.len⟩
theorem Few.push {j : Nat} {q : Qu} (h : Few j q) (a k n : Int) {g : Int} (hg : (Lit.int .i64 g).wf = true) : Few (j + 1) (q.push a k n g).1 := by
  obtain ⟨h1, h2, _⟩ := Qu.push_small (q := q) a k n g
  have := h.last; have := h.len
  exact ⟨Qu.push_ok h.ok (i64_of_wf hg), by omega, by omega⟩
theorem Few.pop {j : Nat} {q : Qu} (h : Few j q) : Few j q.pop.1 ∧ q.now ≤ q.pop.1.now := by
  have hok := Qu.pop_ok h.ok
  obtain ⟨now, n, evs⟩ := q
  cases evs with
  | nil => exact ⟨h, Int.le_refl _⟩
  | cons e l =>
    have hl := h.len
    exact ⟨⟨hok, h.last, by simp at hl; show l.length ≤ j; omega⟩, (h.ok.ahead e List.mem_cons_self).1⟩
theorem Few.until {j : Nat} {q : Qu} (h : Few j q) (t : Int) : Few j (q.until t).1 ∧ q.now ≤ (q.until t).1.now := by
  obtain ⟨h1, h2⟩ := Qu.until_ok h.ok t
  refine ⟨⟨h1, h.last, ?_⟩, h2⟩
  have := congrArg List.length (runs_app t q.now q.evs)
  have hl := h.len
  rw [List.length_append] at this
  show (runs t q.now q.evs).2.1.length ≤ j
  omega
theorem Few.errno {j : Nat} {q : Qu} (h : Few j q) (hj : j < 10000) (a k n g : Int) : (okAt q.now a k n = true ∧ (q.push a k n g).2 = (((q.last + 1 : Nat) : Int), 0) ∧ q.now ≤ a) ∨ (okAt q.now a k n = false ∧ (q.push a k n g).2 = (0, 2) ∧ (q.push a k n g).1 = q) := by
  cases ho : okAt q.now a k n with
  | false => rw [Qu.push_range ho]; exact .inr ⟨rfl, rfl, rfl⟩
  | true => rw [Qu.push_go ho (by have := h.len; omega)]; exact .inl ⟨rfl, rfl, (okAt_iff.1 ho).1⟩
set_option maxRecDepth 100000 in
set_option maxHeartbeats 16000000 in
theorem walkKernelNow (W : World) (v0 : Value) (o0 : IsSl rAc W v0) :
    Calls Try.prog 10 #[v0] W fun e w' => e = .returned (.bool true) ∧ Below W.heap.size W w' := by
  obtain ⟨l, hl⟩ := o0
  have ho := acts_of hl
  obtain ⟨oa, oc, rfl, _, _⟩ := ho.shape
  have HS := Lib.hid ((Held.start0 (fun _ => False) (Old W) (fun _ f _ => f) W).addOld (T := tRd eAc (.slice oa l.length oc) l) (RdS.mono ho fun k h => ⟨h, id⟩))
  have HO := Lib.hid ho
  clear ho hl
  have hZ : ∀ w, (binOp .eql 32 (.agg #[.int .i64 0, .int .i64 0, .int .i64 0, .int .i64 0, .int .i64 0]) (.agg #[.int .i64 0, .int .i64 0, .int .i64 0, .int .i64 0, .int .i64 0])).run Try.prog w = .ok (.bool true) w := fun w => run_eqEv Ev.zero Ev.zero w
  have HZ := Lib.hid hZ
  clear hZ
  have hG := eqGuardEv
  go_enter Try.func10, Try.ntmps10
  go_wp2_with fail
  refine (awake_any W).mono ?_
  rintro e w1 ⟨rfl, hb⟩
  have H1 := Lib.hid (HS.out.own hb); have HB1 := Lib.hid hb; clear hb
  by_cases hbig : 40 < l.length
  · go_wp2_with fail
    go_ret
    exact ⟨rfl, HB1.out⟩
  · go_wp2_with fail
    refine (new_h H1.out).mono ?_
    rintro e w2 ⟨p, rfl, h⟩
    have H2 := Lib.hid (h.pick [1, 0] [tQu p Qu.new, tRd eAc (.slice oa l.length oc) l] (by simp) rfl); clear h
    go_wp2_with fail
    go_loopw [24, 4] (fun i u wr => ∃ (j : Nat) (q : Qu), j ≤ l.length ∧ i = .int .i64 (j : Int) ∧ u = .int .i64 q.now ∧ Hid (Few j q) ∧ Hid (Held (fun _ => False) (Old W) W [tQu p q, tRd eAc (.slice oa l.length oc) l] wr)) (fun i _ _ => l.length - (intOf i).toNat)
    case atStart => exact ⟨0, Qu.new, by omega, by go_num, rfl, Lib.hid Few.new, H2⟩
    case round =>
      clear H2
      obtain ⟨j, q, hj, rfl, rfl, HQ, HH⟩ := hrel
      have hz : W.heap.size ≤ wr.heap.size := HH.out.below.size
      have hlq : q.last < 1000000000 := by have := HQ.out.last; omega
      by_cases hlt : j < l.length
      · obtain ⟨f, hf⟩ : ∃ f, l[j]? = some f := ⟨l[j], List.getElem?_eq_getElem hlt⟩
        obtain ⟨b, off, rfl, k0, k1, k2, k3, k4, hw1, hw2⟩ := act_at (HO.out.below HH.out.below) hf
        have HHA := Lib.hid (HH.out.new (.cells #[.int .i64 f.kind, .int .i64 f.at', .int .i64 f.sort, .int .i64 f.node, .int .i64 f.arg] 25))
        have HW2 := Lib.hid hw2
        clear hf hw1 hw2
        have hkind : f.kind = 0 ∨ f.kind = 2 ∨ f.kind = 3 ∨ (f.kind ≠ 0 ∧ f.kind ≠ 2 ∧ f.kind ≠ 3) := by omega
        rcases hkind with hk | hk | hk | ⟨hk0, hk2, hk3⟩
        · have s0 : (f.kind == 0) = true := by simpa using hk
          obtain ⟨q', hq'⟩ : ∃ q', q' = (q.push f.at' f.sort f.node f.arg).1 := ⟨_, rfl⟩
          have HQ' := Lib.hid (show Few (j + 1) q' by rw [hq']; exact HQ.out.push _ _ _ HW2.out)
          have hnow : q'.now = q.now := by rw [hq']; exact (Qu.push_small _ _ _ _).2.2
          have HQQ := Lib.hid hq'
          have herr := HQ.out.errno (by omega) f.at' f.sort f.node f.arg
          clear hk hq'
          rcases herr with ⟨_, he, hge⟩ | ⟨_, he, _⟩
          all_goals
            have HE := Lib.hid he
            clear he
            have hng : decide (q'.now < q.now) = false := by rw [hnow]; simp
            go_wp2_with (go_at_call 13; refine (push_h HHA.out 0 rfl HQ.out.ok hlq _ _ _ _).mono ?_; rintro e w3 ⟨rfl, h⟩; rw [HE.out]; rw [← HQQ.out] at h; have H3 := Lib.hid (show Held (fun _ => False) (Old W) W [tQu p q', tRd eAc (.slice (some ⟨b, off, none⟩) l.length oc) l, tBlk wr.heap.size (.cells #[.int .i64 f.kind, .int .i64 f.at', .int .i64 f.sort, .int .i64 f.node, .int .i64 f.arg] 25)] w3 from h); clear h; have H4 := Lib.hid (H3.out.pick [0, 1] [tQu p q', tRd eAc (.slice (some ⟨b, off, none⟩) l.length oc) l] (by simp) rfl); have bb := H3.out.blk 2 rfl; have k1' := blk_cell (i := 1) bb rfl; clear bb)
            go_wp2_with fail
            refine (now_h H4.out 0 rfl).mono ?_
            rintro e w8 ⟨rfl, rfl⟩
            go_wp2_with fail
            refine (now_h H4.out 0 rfl).mono ?_
            rintro e w8 ⟨rfl, rfl⟩
            go_wp2_with fail
            go_roundw
            case rel => exact ⟨j + 1, q', by omega, by go_num, by rw [hnow], HQ', H4⟩
            case measure => simp [intOf]; omega
        · have s0 : (f.kind == 0) = false := by rw [hk]; rfl
          have s2 : (f.kind == 2) = true := by simpa using hk
          obtain ⟨q', hq'⟩ : ∃ q', q' = q.pop.1 := ⟨_, rfl⟩
          have HQ' := Lib.hid (show Few (j + 1) q' by rw [hq']; exact HQ.out.pop.1.up)
          have hnow : q.now ≤ q'.now := by rw [hq']; exact HQ.out.pop.2
          have HQQ := Lib.hid hq'
          have hng : decide (q'.now < q.now) = false := by simp; omega
          clear hk hq'
          go_wp2_with (go_at_call 14; refine (pop_h HHA.out 0 rfl HQ.out.ok hlq).mono ?_; rintro e w3 ⟨rfl, h⟩; rw [← HQQ.out] at h; have H3 := Lib.hid (show Held (fun _ => False) (Old W) W [tQu p q', tRd eAc (.slice (some ⟨b, off, none⟩) l.length oc) l, tBlk wr.heap.size (.cells #[.int .i64 f.kind, .int .i64 f.at', .int .i64 f.sort, .int .i64 f.node, .int .i64 f.arg] 25)] w3 from h); clear h; have H4 := Lib.hid (H3.out.pick [0, 1] [tQu p q', tRd eAc (.slice (some ⟨b, off, none⟩) l.length oc) l] (by simp) rfl))
          go_wp2_with fail
          refine (now_h H4.out 0 rfl).mono ?_
          rintro e w8 ⟨rfl, rfl⟩
          go_wp2_with fail
          refine (now_h H4.out 0 rfl).mono ?_
          rintro e w8 ⟨rfl, rfl⟩
          go_wp2_with fail
          go_roundw
          case rel => exact ⟨j + 1, q', by omega, by go_num, rfl, HQ', H4⟩
          case measure => simp [intOf]; omega
        · have s0 : (f.kind == 0) = false := by rw [hk]; rfl
          have s2 : (f.kind == 2) = false := by rw [hk]; rfl
          have s3 : (f.kind == 3) = true := by simpa using hk
          obtain ⟨q', hq'⟩ : ∃ q', q' = (q.until f.at').1 := ⟨_, rfl⟩
          have HQ' := Lib.hid (show Few (j + 1) q' by rw [hq']; exact (HQ.out.until _).1.up)
          have hnow : q.now ≤ q'.now := by rw [hq']; exact (HQ.out.until _).2
          have HQQ := Lib.hid hq'
          have hng : decide (q'.now < q.now) = false := by simp; omega
          clear hk hq'
          go_wp2_with (go_at_call 20; refine (until_h HHA.out 0 rfl HQ.out.ok hlq f.at').mono ?_; rintro e w3 ⟨ua, uc, rfl, h⟩; rw [← HQQ.out] at h; have H4 := Lib.hid (h.pick [0, 1] [tQu p q', tRd eAc (.slice (some ⟨b, off, none⟩) l.length oc) l] (by simp) rfl); clear h)
          go_wp2_with fail
          refine (now_h H4.out 0 rfl).mono ?_
          rintro e w8 ⟨rfl, rfl⟩
          go_wp2_with fail
          refine (now_h H4.out 0 rfl).mono ?_
          rintro e w8 ⟨rfl, rfl⟩
          go_wp2_with fail
          go_roundw
          case rel => exact ⟨j + 1, q', by omega, by go_num, rfl, HQ', H4⟩
          case measure => simp [intOf]; omega
        · have s0 : (f.kind == 0) = false := by simpa using hk0
          have s2 : (f.kind == 2) = false := by simpa using hk2
          have s3 : (f.kind == 3) = false := by simpa using hk3
          have HQ' := Lib.hid HQ.out.up
          have H4 := Lib.hid (HHA.out.pick [0, 1] [tQu p q, tRd eAc (.slice (some ⟨b, off, none⟩) l.length oc) l] (by simp) rfl)
          have hng : decide (q.now < q.now) = false := by simp
          go_wp2_with fail
          refine (now_h H4.out 0 rfl).mono ?_
          rintro e w8 ⟨rfl, rfl⟩
          go_wp2_with fail
          refine (now_h H4.out 0 rfl).mono ?_
          rintro e w8 ⟨rfl, rfl⟩
          go_wp2_with fail
          go_roundw
          case rel => exact ⟨j + 1, q, by omega, by go_num, rfl, HQ', H4⟩
          case measure => simp [intOf]; omega
      · have hn0 := HQ.out.ok.now0
        have hnm := HQ.out.ok.nowm
        by_cases hpos : 0 < q.now
        · have HP := Lib.hid (Qu.push_range (q := q) (a := q.now - 1) (k := 0) (n := 0) (g := 0) (okAt_false.2 (by omega)))
          go_wp2_with fail
          refine (push_h HH.out 0 rfl HQ.out.ok hlq _ _ _ _).mono ?_
          rintro e w3 ⟨rfl, h⟩
          rw [HP.out]
          have HB3 := Lib.hid h.below; clear h
          go_wp2_with fail
          refine (push_none _ _ _ _ _).mono ?_
          rintro e w4 ⟨rfl, rfl⟩
          go_wp2_with fail
          refine (pop_none _).mono ?_
          rintro e w5 ⟨rfl, hb⟩
          have HB5 := Lib.hid (HB3.out.trans (hb.mono HB3.out.size)); clear hb
          have hz := HZ.out
          go_wp2_with (first
            | (go_at_call 21; refine (cancel_nil _ _).mono ?_; rintro e w6 ⟨rfl, rfl⟩)
            | (go_at_call 20; refine (until_nil _ _).mono ?_; rintro e w6 ⟨rfl, rfl⟩)
            | (go_at_call 17; refine (now_nil _).mono ?_; rintro e w6 ⟨rfl, rfl⟩)
            | (go_at_call 15; refine (len_nil _).mono ?_; rintro e w6 ⟨rfl, rfl⟩))
          go_ret
          exact ⟨rfl, HB5.out.trans ((below_alloc _ _).mono HB5.out.size)⟩
        · have HB3 := Lib.hid HH.out.below
          go_wp2_with fail
          refine (push_none _ _ _ _ _).mono ?_
          rintro e w4 ⟨rfl, rfl⟩
          go_wp2_with fail
          refine (pop_none _).mono ?_
          rintro e w5 ⟨rfl, hb⟩
          have HB5 := Lib.hid (HB3.out.trans (hb.mono HB3.out.size)); clear hb
          have hz := HZ.out
          go_wp2_with (first
            | (go_at_call 21; refine (cancel_nil _ _).mono ?_; rintro e w6 ⟨rfl, rfl⟩)
            | (go_at_call 20; refine (until_nil _ _).mono ?_; rintro e w6 ⟨rfl, rfl⟩)
            | (go_at_call 17; refine (now_nil _).mono ?_; rintro e w6 ⟨rfl, rfl⟩)
            | (go_at_call 15; refine (len_nil _).mono ?_; rintro e w6 ⟨rfl, rfl⟩))
          go_ret
          exact ⟨rfl, HB5.out.trans ((below_alloc _ _).mono HB5.out.size)⟩
end Go.Proofs.Ytococphklfbidaa
