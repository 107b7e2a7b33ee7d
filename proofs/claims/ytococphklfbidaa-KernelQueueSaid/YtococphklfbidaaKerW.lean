/- The reference's Until, on a list that holds the queue's events. -/
import Derived.Test.YtococphklfbidaaKerV
namespace Go.Proofs.Ytococphklfbidaa
open Go.RowKit Go.Maps

def UntilH (w : World) (G Z : BS) (v : Value) (l : List Ev) (q : Qu) (t : Int) (e : Ending) (w' : World) : Prop :=
  ∃ (l' : List Ev) (a' : Option Addr) (c' : Nat) (ao : Option Addr) (co : Nat), e = .returned (.tuple #[refV (q.until t).1.now q.last (.slice a' l'.length c'), .slice ao (q.until t).2.length co]) ∧ Mir (q.until t).1 l' ∧ Did w G Z [tRd eEv v l, tRd eEv (.slice a' l'.length c') l', tSq eEv 44 (.slice ao (q.until t).2.length co) (q.until t).2] w'
theorem slEv44 : SlT Try.prog 50 44 (.agg #[.int .i64 0, .int .i64 0, .int .i64 0, .int .i64 0, .int .i64 0]) 5 40 := slREv
theorem untilH_mk {w w' : World} {G Z : BS} {v : Value} {l : List Ev} {q : Qu} {t m : Int} {lst : Nat} {evs xs lj : List Ev} {aj ao : Option Addr} {cj co : Nat} (hf : q.until t = (⟨m, lst, evs⟩, xs)) (hq : q.last = lst) (hm : lj.Perm evs)
    (hd : Did w G Z [tRd eEv v l, tRd eEv (.slice aj lj.length cj) lj, tSq eEv 44 (.slice ao xs.length co) xs] w') :
    UntilH w G Z v l q t (.returned (.tuple #[.agg #[.int .i64 m, .int .i64 (lst : Int), .slice aj lj.length cj], .slice ao xs.length co])) w' :=
  ⟨lj, aj, cj, ao, co, by rw [hf, hq]; rfl, by rw [hf]; exact hm, by rw [hf]; exact hd⟩
set_option maxRecDepth 100000 in
set_option maxHeartbeats 8000000 in
theorem rUntil {q : Qu} {l : List Ev} (hm : Mir q l) (hok : q.Ok) (hlt : q.last < 1000000000) (t : Int) (w : World) (G Z : BS) (a : Option Addr) (c : Nat) (h : RdS eEv w Z (.slice a l.length c) l) :
    Calls Try.prog 25 #[refV q.now q.last (.slice a l.length c), .int .i64 t] w (UntilH w G Z (.slice a l.length c) l q t) := by
  have h0 := (Held.start0 (fun _ => False) Z (fun _ f _ => f) w).addOld (T := tRd eEv (.slice a l.length c) l) (RdS.mono h fun k hk => ⟨hk, id⟩)
  have h1 := h0.addOld (T := tRd eEv (.slice a l.length c) l) (RdS.mono h fun k hk => ⟨hk, id⟩)
  have h2 := h1.new (.cells #[.int .i64 q.now, .int .i64 (q.last : Int), .slice a l.length c] 52)
  have h3 := h2.new (.cells #[.int .i64 0, .int .i64 0, .slice none 0 0] 52)
  rw [heap_size_alloc5] at h3
  have H3 := Lib.hid h3
  have HM := Lib.hid hm; have HOK := Lib.hid hok
  clear h0 h1 h2 h3 h hm hok
  unfold refV
  go_enter Try.func25, Try.ntmps25
  go_wp2_with fail
  have H4 := Lib.hid (H3.out.add (T := tSq eEv 44 (.slice none 0 0) []) (Below.refl _ _) (Sq.nil _ _ _ _ _))
  go_loopw [6] (fun u6 wr => ∃ (qj : Qu) (lj xs : List Ev) (aj : Option Addr) (cj : Nat) (ao : Option Addr) (co : Nat), u6 = .slice ao xs.length co ∧ Hid (Runs t q qj xs) ∧ Hid (Mir qj lj) ∧
    Hid (Held (fun _ => False) Z w [tRd eEv (.slice a l.length c) l, tRd eEv (.slice aj lj.length cj) lj, tBlk w.heap.size (.cells #[.int .i64 qj.now, .int .i64 (qj.last : Int), .slice aj lj.length cj] 52), tBlk (w.heap.size + 1) (.cells #[.int .i64 0, .int .i64 0, .slice none 0 0] 52), tSq eEv 44 (.slice ao xs.length co) xs] wr))
    (fun _ wr => match wr.cell? ⟨w.heap.size, 2, none⟩ with | some (.slice _ n _) => n | _ => 0)
  case atStart => exact ⟨q, l, [], a, c, none, 0, rfl, Lib.hid ⟨HOK.out, rfl, rfl, rfl, rfl⟩, HM, H4⟩
  case round =>
    clear H4 H3
    obtain ⟨qj, lj, xs, aj, cj, ao, co, rfl, HR, HM2, HH⟩ := hrel
    obtain ⟨nj, lst, evs⟩ := qj
    have hrow := HH.out.blk 2 rfl
    obtain ⟨q0, q1, q2⟩ := refq_cells hrow
    have qf := fun i => blk_free hrow i
    have hlj : lst < 1000000000 := by have : lst = q.last := HR.out.2.1; omega
    clear hrow
    have hsz := lt_of_block (HH.out.blk 3 rfl)
    have hex : evs = [] ∨ (∃ e r, evs = e :: r ∧ t < e.at') ∨ (∃ e r, evs = e :: r ∧ e.at' ≤ t) := by
      cases evs with
      | nil => exact .inl rfl
      | cons e l => rcases Int.lt_or_le t e.at' with h | h
                    · exact .inr (.inl ⟨e, l, rfl, h⟩)
                    · exact .inr (.inr ⟨e, l, rfl, h⟩)
    rcases hex with h0 | ⟨e, rest, h0, hgt⟩ | ⟨e, rest, h0, hle⟩
    · subst h0
      have HFIN := Lib.hid (until_fin HR.out rfl)
      by_cases htm : t ≤ 1073741824
      · obtain ⟨m, hmm⟩ : ∃ m, max nj t = m := ⟨_, rfl⟩
        have HMM := Lib.hid hmm
        have HFM : Hid (q.until t = (⟨m, lst, []⟩, xs)) := Lib.hid (by rw [HFIN.out, if_pos htm]; show (Qu.mk (max nj t) lst [], xs) = _; rw [HMM.out])
        go_wp2_with (go_at_call 24; refine (rPop_h (q := ⟨nj, lst, []⟩) HH.out 1 rfl HM2.out HR.out.1).mono ?_; rintro ee w1 ⟨l1, a1, c1, rfl, hm1, h1⟩; have H1 := Lib.hid h1; have HM1 := Lib.hid hm1; have hrow1 := h1.blk 2 rfl; obtain ⟨z0, z1, z2⟩ := refq_cells hrow1; have zf := fun i => blk_free hrow1 i; have hres1 := h1.blk 3 rfl; obtain ⟨t0, t1, t2⟩ := refq_cells hres1; have tf := fun i => blk_free hres1 i; have hsz1 := lt_of_block hres1; have hsz0 : w.heap.size < w1.heap.size := Nat.lt_of_succ_lt hsz1; simp only [Qu.pop]; clear hm1 h1 hrow1 hres1)
        (have HE := ((((H1.out.sts1 2 rfl (.int .i64 m)).sts3 3 rfl (.int .i64 m) (.int .i64 (lst : Int)) (.slice aj lj.length cj)).new (.cells #[.int .i64 nj, .int .i64 (lst : Int), .slice a1 l1.length c1] 52)).new (.cells #[.int .i64 Ev.zero.at', .int .i64 Ev.zero.kind, .int .i64 Ev.zero.node, .int .i64 Ev.zero.number, .int .i64 Ev.zero.arg] 44)); obtain ⟨w9, hw9⟩ : ∃ w9, w9 = (((((w1.setCell ⟨w.heap.size, 0, none⟩ (.int .i64 m)).setCell ⟨w.heap.size + 1, 0, none⟩ (.int .i64 m)).setCell ⟨w.heap.size + 1, 1, none⟩ (.int .i64 (lst : Int))).setCell ⟨w.heap.size + 1, 2, none⟩ (.slice aj lj.length cj)).alloc (.cells #[.int .i64 nj, .int .i64 (lst : Int), .slice a1 l1.length c1] 52)).alloc (.cells #[.int .i64 Ev.zero.at', .int .i64 Ev.zero.kind, .int .i64 Ev.zero.node, .int .i64 Ev.zero.number, .int .i64 Ev.zero.arg] 44) := ⟨_, rfl⟩; rw [← hw9] at HE ⊢; clear hw9; obtain ⟨y0, y1, y2⟩ := refq_cells (HE.blk 3 rfl); refine bodyPost_ret (v := .tuple #[.agg #[.int .i64 m, .int .i64 (lst : Int), .slice aj lj.length cj], .slice ao xs.length co]) (by simp [results, Try.results25, go_sem, y0, y1, y2]) rfl (untilH_mk HFM.out HR.out.2.1.symm HM2.out (Did.free (HE.pick [0, 1, 4] [_, _, _] (by simp) rfl).did)))
      · have HFM : Hid (q.until t = (⟨nj, lst, []⟩, xs)) := Lib.hid (by rw [HFIN.out, if_neg htm])
        go_wp2_with (go_at_call 24; refine (rPop_h (q := ⟨nj, lst, []⟩) HH.out 1 rfl HM2.out HR.out.1).mono ?_; rintro ee w1 ⟨l1, a1, c1, rfl, hm1, h1⟩; have H1 := Lib.hid h1; have HM1 := Lib.hid hm1; have hrow1 := h1.blk 2 rfl; obtain ⟨z0, z1, z2⟩ := refq_cells hrow1; have zf := fun i => blk_free hrow1 i; have hres1 := h1.blk 3 rfl; obtain ⟨t0, t1, t2⟩ := refq_cells hres1; have tf := fun i => blk_free hres1 i; have hsz1 := lt_of_block hres1; have hsz0 : w.heap.size < w1.heap.size := Nat.lt_of_succ_lt hsz1; simp only [Qu.pop]; clear hm1 h1 hrow1 hres1)
        (have HE := ((((H1.out).sts3 3 rfl (.int .i64 nj) (.int .i64 (lst : Int)) (.slice aj lj.length cj)).new (.cells #[.int .i64 nj, .int .i64 (lst : Int), .slice a1 l1.length c1] 52)).new (.cells #[.int .i64 Ev.zero.at', .int .i64 Ev.zero.kind, .int .i64 Ev.zero.node, .int .i64 Ev.zero.number, .int .i64 Ev.zero.arg] 44)); obtain ⟨w9, hw9⟩ : ∃ w9, w9 = (((((w1).setCell ⟨w.heap.size + 1, 0, none⟩ (.int .i64 nj)).setCell ⟨w.heap.size + 1, 1, none⟩ (.int .i64 (lst : Int))).setCell ⟨w.heap.size + 1, 2, none⟩ (.slice aj lj.length cj)).alloc (.cells #[.int .i64 nj, .int .i64 (lst : Int), .slice a1 l1.length c1] 52)).alloc (.cells #[.int .i64 Ev.zero.at', .int .i64 Ev.zero.kind, .int .i64 Ev.zero.node, .int .i64 Ev.zero.number, .int .i64 Ev.zero.arg] 44) := ⟨_, rfl⟩; rw [← hw9] at HE ⊢; clear hw9; obtain ⟨y0, y1, y2⟩ := refq_cells (HE.blk 3 rfl); refine bodyPost_ret (v := .tuple #[.agg #[.int .i64 nj, .int .i64 (lst : Int), .slice aj lj.length cj], .slice ao xs.length co]) (by simp [results, Try.results25, go_sem, y0, y1, y2]) rfl (untilH_mk HFM.out HR.out.2.1.symm HM2.out (Did.free (HE.pick [0, 1, 4] [_, _, _] (by simp) rfl).did)))
    · subst h0
      have HFIN := Lib.hid (until_fin HR.out (runs_stop hgt))
      by_cases htm : t ≤ 1073741824
      · obtain ⟨m, hmm⟩ : ∃ m, max nj t = m := ⟨_, rfl⟩
        have HMM := Lib.hid hmm
        have HFM : Hid (q.until t = (⟨m, lst, e :: rest⟩, xs)) := Lib.hid (by rw [HFIN.out, if_pos htm]; show (Qu.mk (max nj t) lst (e :: rest), xs) = _; rw [HMM.out])
        go_wp2_with (go_at_call 24; refine (rPop_h (q := ⟨nj, lst, e :: rest⟩) HH.out 1 rfl HM2.out HR.out.1).mono ?_; rintro ee w1 ⟨l1, a1, c1, rfl, hm1, h1⟩; have H1 := Lib.hid h1; have HM1 := Lib.hid hm1; have hrow1 := h1.blk 2 rfl; obtain ⟨z0, z1, z2⟩ := refq_cells hrow1; have zf := fun i => blk_free hrow1 i; have hres1 := h1.blk 3 rfl; obtain ⟨t0, t1, t2⟩ := refq_cells hres1; have tf := fun i => blk_free hres1 i; have hsz1 := lt_of_block hres1; have hsz0 : w.heap.size < w1.heap.size := Nat.lt_of_succ_lt hsz1; simp only [Qu.pop]; clear hm1 h1 hrow1 hres1)
        (have HE := ((((H1.out.sts1 2 rfl (.int .i64 m)).sts3 3 rfl (.int .i64 m) (.int .i64 (lst : Int)) (.slice aj lj.length cj)).new (.cells #[.int .i64 e.at', .int .i64 (lst : Int), .slice a1 l1.length c1] 52)).new (.cells #[.int .i64 e.at', .int .i64 e.kind, .int .i64 e.node, .int .i64 e.number, .int .i64 e.arg] 44)); obtain ⟨w9, hw9⟩ : ∃ w9, w9 = (((((w1.setCell ⟨w.heap.size, 0, none⟩ (.int .i64 m)).setCell ⟨w.heap.size + 1, 0, none⟩ (.int .i64 m)).setCell ⟨w.heap.size + 1, 1, none⟩ (.int .i64 (lst : Int))).setCell ⟨w.heap.size + 1, 2, none⟩ (.slice aj lj.length cj)).alloc (.cells #[.int .i64 e.at', .int .i64 (lst : Int), .slice a1 l1.length c1] 52)).alloc (.cells #[.int .i64 e.at', .int .i64 e.kind, .int .i64 e.node, .int .i64 e.number, .int .i64 e.arg] 44) := ⟨_, rfl⟩; rw [← hw9] at HE ⊢; clear hw9; obtain ⟨y0, y1, y2⟩ := refq_cells (HE.blk 3 rfl); refine bodyPost_ret (v := .tuple #[.agg #[.int .i64 m, .int .i64 (lst : Int), .slice aj lj.length cj], .slice ao xs.length co]) (by simp [results, Try.results25, go_sem, y0, y1, y2]) rfl (untilH_mk HFM.out HR.out.2.1.symm HM2.out (Did.free (HE.pick [0, 1, 4] [_, _, _] (by simp) rfl).did)))
      · have HFM : Hid (q.until t = (⟨nj, lst, e :: rest⟩, xs)) := Lib.hid (by rw [HFIN.out, if_neg htm])
        go_wp2_with (go_at_call 24; refine (rPop_h (q := ⟨nj, lst, e :: rest⟩) HH.out 1 rfl HM2.out HR.out.1).mono ?_; rintro ee w1 ⟨l1, a1, c1, rfl, hm1, h1⟩; have H1 := Lib.hid h1; have HM1 := Lib.hid hm1; have hrow1 := h1.blk 2 rfl; obtain ⟨z0, z1, z2⟩ := refq_cells hrow1; have zf := fun i => blk_free hrow1 i; have hres1 := h1.blk 3 rfl; obtain ⟨t0, t1, t2⟩ := refq_cells hres1; have tf := fun i => blk_free hres1 i; have hsz1 := lt_of_block hres1; have hsz0 : w.heap.size < w1.heap.size := Nat.lt_of_succ_lt hsz1; simp only [Qu.pop]; clear hm1 h1 hrow1 hres1)
        (have HE := ((((H1.out).sts3 3 rfl (.int .i64 nj) (.int .i64 (lst : Int)) (.slice aj lj.length cj)).new (.cells #[.int .i64 e.at', .int .i64 (lst : Int), .slice a1 l1.length c1] 52)).new (.cells #[.int .i64 e.at', .int .i64 e.kind, .int .i64 e.node, .int .i64 e.number, .int .i64 e.arg] 44)); obtain ⟨w9, hw9⟩ : ∃ w9, w9 = (((((w1).setCell ⟨w.heap.size + 1, 0, none⟩ (.int .i64 nj)).setCell ⟨w.heap.size + 1, 1, none⟩ (.int .i64 (lst : Int))).setCell ⟨w.heap.size + 1, 2, none⟩ (.slice aj lj.length cj)).alloc (.cells #[.int .i64 e.at', .int .i64 (lst : Int), .slice a1 l1.length c1] 52)).alloc (.cells #[.int .i64 e.at', .int .i64 e.kind, .int .i64 e.node, .int .i64 e.number, .int .i64 e.arg] 44) := ⟨_, rfl⟩; rw [← hw9] at HE ⊢; clear hw9; obtain ⟨y0, y1, y2⟩ := refq_cells (HE.blk 3 rfl); refine bodyPost_ret (v := .tuple #[.agg #[.int .i64 nj, .int .i64 (lst : Int), .slice aj lj.length cj], .slice ao xs.length co]) (by simp [results, Try.results25, go_sem, y0, y1, y2]) rfl (untilH_mk HFM.out HR.out.2.1.symm HM2.out (Did.free (HE.pick [0, 1, 4] [_, _, _] (by simp) rfl).did)))
    · subst h0
      have hxl : xs.length ≤ q.evs.length := by have h1 := runs_app t q.now q.evs; rw [HR.out.2.2.2.2] at h1; have := congrArg List.length h1; simp at this; omega
      have hql := HOK.out.len
      have HRN : Hid (Runs t q ⟨e.at', lst, rest⟩ (xs ++ [e])) := Lib.hid (by
        obtain ⟨r1, r2, r3, r4, r5⟩ := HR.out
        have hg := runs_go (now := nj) (l := rest) hle
        refine ⟨Qu.tail_ok r1, r2, r3.trans ?_, r4.trans ?_, r5.trans ?_⟩
        · show (runs t nj (e :: rest)).1 = _; rw [hg]
        · show (runs t nj (e :: rest)).2.1 = _; rw [hg]
        · show xs ++ (runs t nj (e :: rest)).2.2 = _; rw [hg]; simp)
      have hng : decide (t < e.at') = false := by simp; omega
      go_wp2_with (first
        | (go_at_call 24; refine (rPop_h (q := ⟨nj, lst, e :: rest⟩) HH.out 1 rfl HM2.out HR.out.1).mono ?_; rintro ee w1 ⟨l1, a1, c1, rfl, hm1, h1⟩; have H1 := Lib.hid h1; have HM1 := Lib.hid hm1; have hrow1 := h1.blk 2 rfl; obtain ⟨z0, z1, z2⟩ := refq_cells hrow1; have zf := fun i => blk_free hrow1 i; have hres1 := h1.blk 3 rfl; obtain ⟨t0, t1, t2⟩ := refq_cells hres1; have tf := fun i => blk_free hres1 i; have hsz1 := lt_of_block hres1; have hsz0 : w.heap.size < w1.heap.size := Nat.lt_of_succ_lt hsz1; simp only [Qu.pop]; clear hm1 h1 hrow1 hres1)
        | (at_builtin; refine wpList_app_ev44 rfl _ _ rfl (((H1.out.sts3 2 rfl (.int .i64 e.at') (.int .i64 (lst : Int)) (.slice a1 l1.length c1)).new (.cells #[.int .i64 e.at', .int .i64 (lst : Int), .slice a1 l1.length c1] 52)).new (.cells #[.int .i64 e.at', .int .i64 e.kind, .int .i64 e.node, .int .i64 e.number, .int .i64 e.arg] 44)) 4 rfl (by (repeat (first | (with_reducible exact Below.refl _ _) | (with_reducible refine Bw.alloc ?_ _) | (with_reducible refine Bw.drewN ?_ _) | (with_reducible refine Bw.drew ?_)))) (by omega) rfl (w1.heap.size + 1 + 1) rfl (by exact heap_alloc_at _ _ _ (by simp)) ?_; intro a' c' w3 h; have H3 := Lib.hid (h.pick [0, 5, 2, 3, 4] [_, _, _, _, _] (by simp) rfl); clear h))
      go_roundw
      case rel => exact ⟨⟨e.at', lst, rest⟩, l1, xs ++ [e], a1, c1, a', c', by rw [List.length_append]; rfl, HRN, HM1, H3⟩
      case measure =>
        obtain ⟨y0, y1, y2⟩ := refq_cells (H3.out.blk 2 rfl)
        have hm1 := HM1.out.len
        have hm2 := HM2.out.len
        simp only [y2, q2]
        rw [hm1, hm2]
        show rest.length < rest.length + 1
        omega
theorem set_same {ts : List Th} {i : Nat} {T : Th} (hi : ts[i]? = some T) : ts.set i T = ts := by
  apply List.ext_getElem?
  intro j
  rw [List.getElem?_set]
  split
  · rename_i hij
    subst hij
    rw [hi, if_pos (lt_of_get hi)]
  · rfl
theorem rUntil_h {F Z : BS} {W w : World} {ts : List Th} {q : Qu} {l : List Ev} {a : Option Addr} {c : Nat} (h : Held F Z W ts w) (i : Nat) (hi : ts[i]? = some (tRd eEv (.slice a l.length c) l)) (hm : Mir q l) (hok : q.Ok) (hlt : q.last < 1000000000) (t : Int) :
    Calls Try.prog 25 #[refV q.now q.last (.slice a l.length c), .int .i64 t] w fun e w' => ∃ (l' : List Ev) (a' : Option Addr) (c' : Nat) (ao : Option Addr) (co : Nat), e = .returned (.tuple #[.agg #[.int .i64 (q.until t).1.now, .int .i64 ((q.until t).1.last : Int), .slice a' l'.length c'], .slice ao (q.until t).2.length co]) ∧ Mir (q.until t).1 l' ∧
      Held F Z W (ts ++ [tRd eEv (.slice a' l'.length c') l', tSq eEv 44 (.slice ao (q.until t).2.length co) (q.until t).2]) w' := by
  obtain ⟨G, Y, h1, _, _, _, hb⟩ := h.use i hi
  refine (rUntil hm hok hlt t w G Y a c h1).mono ?_
  rintro e w' ⟨l', a', c', ao, co, h2, h3, h4⟩
  have := hb w' _ _ h4
  rw [set_same hi] at this
  exact ⟨l', a', c', ao, co, h2, h3, this⟩
end Go.Proofs.Ytococphklfbidaa
