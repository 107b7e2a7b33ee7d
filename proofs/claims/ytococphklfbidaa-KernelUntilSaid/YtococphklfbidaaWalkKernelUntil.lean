/- The walk of KernelUntil. -/
import Derived.Test.YtococphklfbidaaWalkKernelNow
namespace Go.Proofs.Ytococphklfbidaa
open Go.RowKit Go.Maps

theorem runs_rest {t : Int} : ∀ {now : Int} {l : List Ev}, (runs t now l).2.2 = [] → runs t now l = (now, l, [])
  | _, [], _ => rfl
  | now, e :: l, h => by
    by_cases hl : e.at' ≤ t
    · rw [runs_go hl] at h; cases h
    · exact runs_stop (by omega)
theorem runs_cons {t : Int} {now : Int} {l : List Ev} {e : Ev} {r : List Ev} (h : (runs t now l).2.2 = e :: r) : ∃ l', l = e :: l' ∧ e.at' ≤ t ∧ (runs t e.at' l').2.2 = r := by
  cases l with
  | nil => cases h
  | cons x l =>
    by_cases hl : x.at' ≤ t
    · rw [runs_go hl] at h
      obtain ⟨rfl, h2⟩ := List.cons.inj h
      exact ⟨l, rfl, hl, h2⟩
    · rw [runs_stop (by omega)] at h; cases h
/-- how far the second queue has come -/
def Pops (t : Int) (q qk : Qu) (k : Nat) : Prop := qk.Ok ∧ qk.last = q.last ∧ (q.until t).1.evs = (runs t qk.now qk.evs).2.1 ∧ (q.until t).2.drop k = (runs t qk.now qk.evs).2.2
set_option maxRecDepth 100000 in
set_option maxHeartbeats 16000000 in
theorem walkKernelUntil (W : World) (v0 v1 : Value) (o0 : IsSl rAc W v0) (o1 : IsInt .i64 v1) :
    Calls Try.prog 7 #[v0, v1] W fun e w' => e = .returned (.bool true) ∧ Below W.heap.size W w' := by
  obtain ⟨l, hl⟩ := o0
  obtain ⟨t, rfl, _⟩ := o1
  have ho := acts_of hl
  obtain ⟨oa, oc, rfl, _, _⟩ := ho.shape
  have HS := Lib.hid ((Held.start0 (fun _ => False) (Old W) (fun _ f _ => f) W).addOld (T := tRd eAc (.slice oa l.length oc) l) (RdS.mono ho fun k h => ⟨h, id⟩))
  have HO := Lib.hid ho
  clear ho hl
  have hG := eqGuardEv
  go_enter Try.func7, Try.ntmps7
  go_wp2_with fail
  refine (awake_any W).mono ?_
  rintro e w1 ⟨rfl, hb⟩
  have H1 := Lib.hid (HS.out.own hb); have HB1 := Lib.hid hb; clear hb
  by_cases hbig : 40 < l.length
  · go_wp2_with fail
    go_ret
    exact ⟨rfl, HB1.out⟩
  · go_wp2_with fail
    refine (new_h H1.out).mono ?_
    rintro e w2 ⟨p, rfl, h⟩
    have H2 := Lib.hid h; clear h
    go_wp2_with fail
    refine (new_h H2.out).mono ?_
    rintro e w3 ⟨p2, rfl, h⟩
    have H3 := Lib.hid (h.pick [1, 2, 0] [tQu p Qu.new, tQu p2 Qu.new, tRd eAc (.slice oa l.length oc) l] (by simp) rfl); clear h
    go_wp2_with fail
    go_loopw [27] (fun i wr => ∃ (j : Nat) (q : Qu), j ≤ l.length ∧ i = .int .i64 (j : Int) ∧ Hid (Few j q) ∧ Hid (Held (fun _ => False) (Old W) W [tQu p q, tQu p2 q, tRd eAc (.slice oa l.length oc) l] wr)) (fun i _ => l.length - (intOf i).toNat)
    case atStart => exact ⟨0, Qu.new, by omega, by go_num, Lib.hid Few.new, H3⟩
    case round =>
      clear H3
      obtain ⟨j, q, hj, rfl, HQ, HH⟩ := hrel
      have hz : W.heap.size ≤ wr.heap.size := HH.out.below.size
      have hlq : q.last < 1000000000 := by have := HQ.out.last; omega
      by_cases hlt : j < l.length
      · obtain ⟨f, hf⟩ : ∃ f, l[j]? = some f := ⟨l[j], List.getElem?_eq_getElem hlt⟩
        obtain ⟨b, off, rfl, k0, k1, k2, k3, k4, hw1, hw2⟩ := act_at (HO.out.below HH.out.below) hf
        have HHA := Lib.hid (HH.out.new (.cells #[.int .i64 f.kind, .int .i64 f.at', .int .i64 f.sort, .int .i64 f.node, .int .i64 f.arg] 25))
        have HQ' := Lib.hid (HQ.out.push f.at' f.sort f.node hw2)
        clear hf hw1 hw2
        go_wp2_with fail
        refine (push_h HHA.out 0 rfl HQ.out.ok hlq _ _ _ _).mono ?_
        rintro e w4 ⟨rfl, h⟩
        have H4 := Lib.hid (show Held (fun _ => False) (Old W) W [tQu p (q.push f.at' f.sort f.node f.arg).1, tQu p2 q, tRd eAc (.slice (some ⟨b, off, none⟩) l.length oc) l, tBlk wr.heap.size (.cells #[.int .i64 f.kind, .int .i64 f.at', .int .i64 f.sort, .int .i64 f.node, .int .i64 f.arg] 25)] w4 from h); clear h
        have bb := H4.out.blk 3 rfl
        have m1 := blk_cell (i := 1) bb rfl; have m2 := blk_cell (i := 2) bb rfl; have m3 := blk_cell (i := 3) bb rfl; have m4 := blk_cell (i := 4) bb rfl
        clear bb
        go_wp2_with fail
        refine (push_h H4.out 1 rfl HQ.out.ok hlq _ _ _ _).mono ?_
        rintro e w5 ⟨rfl, h⟩
        have H5 := Lib.hid (h.pick [0, 1, 2] [tQu p (q.push f.at' f.sort f.node f.arg).1, tQu p2 (q.push f.at' f.sort f.node f.arg).1, tRd eAc (.slice (some ⟨b, off, none⟩) l.length oc) l] (by simp) rfl); clear h
        go_wp2_with fail
        go_roundw
        case rel => exact ⟨j + 1, _, by omega, by go_num, HQ', H5⟩
        case measure => simp [intOf]; omega
      · clear hz
        go_wp2_with fail
        refine (len_h HH.out 0 rfl).mono ?_
        rintro e w4 ⟨rfl, rfl⟩
        go_wp2_with fail
        refine (until_h HH.out 0 rfl HQ.out.ok hlq t).mono ?_
        rintro e w5 ⟨ga, gc, rfl, h⟩
        obtain ⟨X, hX⟩ : ∃ X, X = (q.until t).2 := ⟨_, rfl⟩
        obtain ⟨U, hU⟩ : ∃ U, U = (q.until t).1 := ⟨_, rfl⟩
        have happ := runs_app t q.now q.evs
        have hXl : X.length + U.evs.length = q.evs.length := by have := congrArg List.length happ; rw [List.length_append] at this; rw [hX, hU]; exact this
        have hXs : X.length ≤ 40 := by have := HQ.out.len; omega
        have hUgt : ∀ x ∈ U.evs, t < x.at' := by rw [hU]; exact (runs_ok t (now := q.now) (l := q.evs) (n := q.last) HQ.out.ok).2.2
        have hUok : U.Ok := by rw [hU]; exact (Qu.until_ok HQ.out.ok t).1
        have hUl : U.last < 1000000000 := by rw [hU]; exact hlq
        rw [← hX, ← hU] at h
        rw [← hX]
        have HX := Lib.hid hX; have HU := Lib.hid hU; have HXL := Lib.hid hXl; have HUGT := Lib.hid hUgt; have HUOK := Lib.hid hUok
        have H5 := Lib.hid (show Held (fun _ => False) (Old W) W [tQu p U, tQu p2 q, tRd eAc (.slice oa l.length oc) l, tSq eEv 32 (.slice ga X.length gc) X] w5 from h); clear h
        have HS0 : Hid (Pops t q q 0) := Lib.hid ⟨HQ.out.ok, rfl, rfl, rfl⟩
        clear hX hU happ hXl hUgt hUok
        go_wp2_with fail
        go_loopw [59] (fun i wk => ∃ (k : Nat) (qk : Qu), k ≤ X.length ∧ i = .int .i64 (k : Int) ∧ Hid (Pops t q qk k) ∧ Hid (Held (fun _ => False) (Old W) W [tQu p U, tQu p2 qk, tRd eAc (.slice oa l.length oc) l, tSq eEv 32 (.slice ga X.length gc) X] wk)) (fun i _ => X.length - (intOf i).toNat)
        case atStart => exact ⟨0, q, by omega, by go_num, HS0, H5⟩
        case round =>
          clear H5 HS0
          obtain ⟨k, qk, hk, rfl, HP, HK⟩ := hrel
          have hlk : qk.last < 1000000000 := by have : qk.last = q.last := HP.out.2.1; omega
          by_cases hkl : k < X.length
          · obtain ⟨x, hx⟩ : ∃ x, X[k]? = some x := ⟨X[k], List.getElem?_eq_getElem hkl⟩
            have hdr : X.drop k = x :: X.drop (k + 1) := by
              rw [List.drop_eq_getElem_cons hkl]
              rw [List.getElem?_eq_getElem hkl] at hx
              rw [Option.some.inj hx]
            obtain ⟨nk, lk, evs⟩ := qk
            obtain ⟨l', hl1, hat, hr⟩ := runs_cons (t := t) (now := nk) (l := evs) (e := x) (r := X.drop (k + 1)) (by have := HP.out.2.2.2; rw [← HX.out, hdr] at this; exact this.symm)
            subst hl1
            have HP' : Hid (Pops t q ⟨x.at', lk, l'⟩ (k + 1)) := Lib.hid ⟨Qu.tail_ok HP.out.1, HP.out.2.1, HP.out.2.2.1.trans (by show (runs t nk (x :: l')).2.1 = _; rw [runs_go hat]), by rw [← HX.out]; exact hr.symm⟩
            obtain ⟨G, Y, hsq⟩ := HK.out.get 3 rfl
            have hev := Sq.evR (show Sq eEv 32 wr G Y (.slice ga X.length gc) X from hsq)
            obtain ⟨gb, goff, rfl, _⟩ := ev_at hev hx
            have HN : ∀ w, (binOp .neq 32 (.agg #[.int .i64 x.at', .int .i64 x.kind, .int .i64 x.node, .int .i64 x.number, .int .i64 x.arg]) (.agg #[.int .i64 x.at', .int .i64 x.kind, .int .i64 x.node, .int .i64 x.number, .int .i64 x.arg])).run Try.prog w = .ok (.bool false) w := fun w => (run_neqEv x x w).trans (by rw [eqB_self]; rfl)
            have HNN := Lib.hid HN
            have HXX := Lib.hid hx
            clear hsq hev hr hdr HN hx
            go_wp2_with fail
            refine (pop_h HK.out 1 rfl HP.out.1 hlk).mono ?_
            rintro e w6 ⟨rfl, h⟩
            have H6 := Lib.hid (show Held (fun _ => False) (Old W) W [tQu p U, tQu p2 ⟨x.at', lk, l'⟩, tRd eAc (.slice oa l.length oc) l, tSq eEv 32 (.slice (some ⟨gb, goff, none⟩) X.length gc) X] w6 from h); clear h
            simp only [Qu.pop]
            obtain ⟨G, Y, hsq⟩ := H6.out.get 3 rfl
            have hev := Sq.evR (show Sq eEv 32 w6 G Y (.slice (some ⟨gb, goff, none⟩) X.length gc) X from hsq)
            obtain ⟨gb', goff', heq, d0, d1, d2, d3, d4⟩ := ev_at hev HXX.out
            obtain ⟨rfl, rfl⟩ : gb = gb' ∧ goff = goff' := by simpa using heq
            have hgl := World.block_lt_of_cell? w6 _ d0
            have hn := HNN.out
            have hngt : decide (t < x.at') = false := by simp; omega
            have H7 := Lib.hid (H6.out.alloc (.cells #[.int .i64 x.at', .int .i64 x.kind, .int .i64 x.node, .int .i64 x.number, .int .i64 x.arg] 32))
            clear hsq hev heq
            go_wp2_with fail
            go_quiet (fail)
            go_wp2_with fail
            go_roundw
            case rel => exact ⟨k + 1, _, by omega, by go_num, HP', Lib.hid (H7.out.drewN _)⟩
            case measure => simp [intOf]; omega
          · obtain rfl : X.length = k := by omega
            have hemp : (runs t qk.now qk.evs).2.2 = [] := by have := HP.out.2.2.2; rw [← HX.out, List.drop_length] at this; exact this.symm
            have hrest := runs_rest hemp
            have hev : U.evs = qk.evs := by have := HP.out.2.2.1; rw [← HU.out, hrest] at this; exact this
            have HEV := Lib.hid hev
            clear hemp hrest hev
            obtain ⟨nk, lk, evs⟩ := qk
            obtain ⟨nU, lU, evU⟩ := U
            have hev : evU = evs := HEV.out
            subst hev
            clear HEV
            have hXL := HXL.out
            cases evU with
            | nil =>
              have hsum : ((X.length : Int) != (q.evs.length : Int)) = false := by have : X.length + 0 = q.evs.length := hXL; simp; omega
              have hZ : ∀ w, (binOp .eql 32 (.agg #[.int .i64 0, .int .i64 0, .int .i64 0, .int .i64 0, .int .i64 0]) (.agg #[.int .i64 0, .int .i64 0, .int .i64 0, .int .i64 0, .int .i64 0])).run Try.prog w = .ok (.bool true) w := fun w => run_eqEv Ev.zero Ev.zero w
              have HZ := Lib.hid hZ
              clear hZ hXL
              go_wp2_with fail
              refine (len_h HK.out 0 rfl).mono ?_
              rintro e w8 ⟨rfl, rfl⟩
              rw [show (Qu.mk nU lU []).evs.length = 0 from rfl]
              go_wp2_with fail
              refine (len_h HK.out 1 rfl).mono ?_
              rintro e w8 ⟨rfl, rfl⟩
              rw [show (Qu.mk nk lk []).evs.length = 0 from rfl]
              go_wp2_with fail
              refine (len_h HK.out 0 rfl).mono ?_
              rintro e w8 ⟨rfl, rfl⟩
              rw [show (Qu.mk nU lU []).evs.length = 0 from rfl]
              go_wp2_with fail
              refine (pop_h HK.out 1 rfl HP.out.1 hlk).mono ?_
              rintro e w6 ⟨rfl, h⟩
              have H6 := Lib.hid (show Held (fun _ => False) (Old W) W [tQu p ⟨nU, lU, []⟩, tQu p2 ⟨nk, lk, []⟩, tRd eAc (.slice oa l.length oc) l, tSq eEv 32 (.slice ga X.length gc) X] w6 from h); clear h
              simp only [Qu.pop]
              have H7 := Lib.hid (H6.out.new (.cells #[.int .i64 Ev.zero.at', .int .i64 Ev.zero.kind, .int .i64 Ev.zero.node, .int .i64 Ev.zero.number, .int .i64 Ev.zero.arg] 32))
              go_wp2_with fail
              refine (pop_h H7.out 0 rfl HUOK.out hUl).mono ?_
              rintro e w8 ⟨rfl, h⟩
              have H8 := Lib.hid h; clear h
              have bb := H8.out.blk 4 rfl
              have m0 := blk_cell (i := 0) bb rfl; have m1 := blk_cell (i := 1) bb rfl; have m2 := blk_cell (i := 2) bb rfl; have m3 := blk_cell (i := 3) bb rfl; have m4 := blk_cell (i := 4) bb rfl
              have hbl := lt_of_block bb
              have hz := HZ.out
              simp only [Qu.pop]
              simp only [Ev.zero] at m0 m1 m2 m3 m4
              clear bb
              go_wp2_with fail
              go_ret
              exact ⟨rfl, (H8.out.alloc _).below⟩
            | cons x l' =>
              have hsum : ((l'.length : Int) + 1 + (X.length : Int) != (q.evs.length : Int)) = false := by have : X.length + (l'.length + 1) = q.evs.length := hXL; simp; omega
              have HZ : Hid (∀ w, (binOp .eql 32 (.agg #[.int .i64 x.at', .int .i64 x.kind, .int .i64 x.node, .int .i64 x.number, .int .i64 x.arg]) (.agg #[.int .i64 x.at', .int .i64 x.kind, .int .i64 x.node, .int .i64 x.number, .int .i64 x.arg])).run Try.prog w = .ok (.bool true) w) := Lib.hid fun w => (run_eqEv x x w).trans (by rw [eqB_self])
              have hgt := HUGT.out x List.mem_cons_self
              have hql := HQ.out.len
              have hll : l'.length ≤ 10000 := by have : X.length + (l'.length + 1) = q.evs.length := hXL; omega
              clear hXL
              go_wp2_with fail
              refine (len_h HK.out 0 rfl).mono ?_
              rintro e w8 ⟨rfl, rfl⟩
              rw [show (Qu.mk nU lU (x :: l')).evs.length = l'.length + 1 from rfl]
              go_wp2_with fail
              refine (len_h HK.out 1 rfl).mono ?_
              rintro e w8 ⟨rfl, rfl⟩
              rw [show (Qu.mk nk lk (x :: l')).evs.length = l'.length + 1 from rfl]
              go_wp2_with fail
              refine (len_h HK.out 0 rfl).mono ?_
              rintro e w8 ⟨rfl, rfl⟩
              rw [show (Qu.mk nU lU (x :: l')).evs.length = l'.length + 1 from rfl]
              go_wp2_with fail
              refine (pop_h HK.out 1 rfl HP.out.1 hlk).mono ?_
              rintro e w6 ⟨rfl, h⟩
              have H6 := Lib.hid (show Held (fun _ => False) (Old W) W [tQu p ⟨nU, lU, x :: l'⟩, tQu p2 ⟨x.at', lk, l'⟩, tRd eAc (.slice oa l.length oc) l, tSq eEv 32 (.slice ga X.length gc) X] w6 from h); clear h
              simp only [Qu.pop]
              have H7 := Lib.hid (H6.out.new (.cells #[.int .i64 x.at', .int .i64 x.kind, .int .i64 x.node, .int .i64 x.number, .int .i64 x.arg] 32))
              go_wp2_with fail
              refine (pop_h H7.out 0 rfl HUOK.out hUl).mono ?_
              rintro e w8 ⟨rfl, h⟩
              have H8 := Lib.hid h; clear h
              have bb := H8.out.blk 4 rfl
              have m0 := blk_cell (i := 0) bb rfl; have m1 := blk_cell (i := 1) bb rfl; have m2 := blk_cell (i := 2) bb rfl; have m3 := blk_cell (i := 3) bb rfl; have m4 := blk_cell (i := 4) bb rfl
              have hbl := lt_of_block bb
              have hz := HZ.out
              simp only [Qu.pop]
              clear bb
              go_wp2_with fail
              go_ret
              exact ⟨rfl, (H8.out.alloc _).below⟩
end Go.Proofs.Ytococphklfbidaa
