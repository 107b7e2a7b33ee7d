/- The walk of KernelSwaps. -/
import Derived.Test.YtococphklfbidaaKerM
namespace Go.Proofs.Ytococphklfbidaa
open Go.RowKit Go.Maps

theorem map_zn_cases {E G : List Ev} (h : E.map zn = G.map zn) : (E = [] ∧ G = []) ∨ ∃ a E' b G', E = a :: E' ∧ G = b :: G' ∧ zn a = zn b ∧ E'.map zn = G'.map zn := by
  cases E with
  | nil => cases G with
    | nil => exact .inl ⟨rfl, rfl⟩
    | cons b G => simp at h
  | cons a E => cases G with
    | nil => simp at h
    | cons b G => simp only [List.map_cons, List.cons.injEq] at h; exact .inr ⟨a, E, b, G, rfl, rfl, h.1, h.2⟩
/-- two queues that give the same, apart from numbers -/
structure Alike (n : Nat) (q r : Qu) : Prop where
  qok : q.Ok
  rok : r.Ok
  ql : q.last ≤ 100
  rl : r.last ≤ 100
  eq : q.evs.map zn = r.evs.map zn
  len : q.evs.length ≤ n
theorem Alike.pop {n : Nat} {q r : Qu} (h : Alike n q r) (hn : 0 < n) : ∃ a c ok q' r', q.pop = (q', a, ok) ∧ r.pop = (r', c, ok) ∧ zn a = zn c ∧ Alike (n - 1) q' r' := by
  have h1 := Qu.pop_ok h.qok
  have h2 := Qu.pop_ok h.rok
  obtain ⟨a1, a2, E⟩ := q
  obtain ⟨b1, b2, G⟩ := r
  rcases map_zn_cases h.eq with ⟨e1, e2⟩ | ⟨a, E', c, G', e1, e2, hz, hm⟩
  · simp only at e1 e2
    subst e1; subst e2
    exact ⟨Ev.zero, Ev.zero, false, _, _, rfl, rfl, rfl, h.qok, h.rok, h.ql, h.rl, rfl, Nat.zero_le _⟩
  · simp only at e1 e2
    subst e1; subst e2
    have hl := h.len
    exact ⟨a, c, true, _, _, rfl, rfl, hz, h1, h2, h.ql, h.rl, hm, by simp at hl; show E'.length ≤ n - 1; omega⟩
theorem swap_get {l : List Ac} {i : Nat} {x y : Ac} (hx : l[i]? = some x) (hy : l[i + 1]? = some y) : ∃ l', l'.length = l.length ∧ (∀ j, l'[j]? = if j = i then some y else if j = i + 1 then some x else l[j]?) ∧
    (l.length ≤ 40 → WfL l → (x.sort ≠ y.sort ∨ x.node ≠ y.node) → (pushes l).evs.map zn = (pushes l').evs.map zn) ∧ (WfL l → WfL l') := by
  have hi := lt_of_get hx
  have hi1 := lt_of_get hy
  have hA : (l.take i).length = i := by rw [List.length_take]; omega
  have hl : l = l.take i ++ x :: y :: l.drop (i + 2) := by
    have e1 := List.drop_eq_getElem_cons hi
    have e2 := List.drop_eq_getElem_cons hi1
    rw [List.getElem?_eq_getElem hi] at hx
    rw [List.getElem?_eq_getElem hi1] at hy
    rw [Option.some.inj hx] at e1
    rw [Option.some.inj hy] at e2
    rw [← e2, ← e1, List.take_append_drop]
  refine ⟨l.take i ++ y :: x :: l.drop (i + 2), by simp; omega, fun j => ?_, fun h40 hw hd => ?_, fun hw f hf => ?_⟩
  · rcases Nat.lt_trichotomy j i with h | h | h
    · rw [if_neg (by omega), if_neg (by omega), List.getElem?_append_left (by omega), List.getElem?_take, if_pos h]
    · rw [if_pos h, List.getElem?_append_right (by omega), hA, show j - i = 0 by omega]; rfl
    · rw [if_neg (by omega)]
      by_cases h1 : j = i + 1
      · rw [if_pos h1, List.getElem?_append_right (by omega), hA, show j - i = 1 by omega]; rfl
      · rw [if_neg h1, List.getElem?_append_right (by omega), hA, show j - i = (j - i - 2) + 2 by omega]
        simp only [List.getElem?_cons_succ, List.getElem?_drop]
        congr 1; omega
  · conv => lhs; rw [hl]
    rw [hl] at h40 hw
    exact swap_all h40 hw hd
  · rw [hl] at hw
    refine hw f ?_
    simp only [List.mem_append, List.mem_cons] at hf ⊢
    rcases hf with h | h | h | h
    · exact .inl h
    · exact .inr (.inr (.inl h))
    · exact .inr (.inl h)
    · exact .inr (.inr (.inr h))
theorem wfL_of {w : World} {Z : BS} {a : Option Addr} {n c : Nat} {l : List Ac} (h : RdS eAc w Z (.slice a n c) l) : WfL l := fun f hf => by
  obtain ⟨i, hi⟩ := List.getElem?_of_mem hf
  obtain ⟨_, _, _, _, _, _, _, _, _, h2⟩ := act_at h hi
  exact h2
set_option maxRecDepth 100000 in
set_option maxHeartbeats 32000000 in
theorem walkKernelSwaps (W : World) (v0 v1 : Value) (o0 : IsSl rAc W v0) (o1 : IsInt .u8 v1) :
    Calls Try.prog 3 #[v0, v1] W fun e w' => e = .returned (.bool true) ∧ Below W.heap.size W w' := by
  obtain ⟨l, hl⟩ := o0
  obtain ⟨m, rfl, hm⟩ := int_u8' o1
  have ho := acts_of hl
  obtain ⟨oa, oc, rfl, _, _⟩ := ho.shape
  have HS := Lib.hid ((Held.start0 (fun _ => False) (Old W) (fun _ f _ => f) W).addOld (T := tRd eAc (.slice oa l.length oc) l) (RdS.mono ho fun k h => ⟨h, id⟩))
  have HO := Lib.hid ho
  have HWF := Lib.hid (wfL_of ho)
  clear ho hl
  have hG := eqGuardEv
  by_cases hsmall : l.length < 2
  · go_enter Try.func3, Try.ntmps3
    go_wp2_with fail
    refine (awake_any W).mono ?_
    rintro e w1 ⟨rfl, hb⟩
    have HB1 := Lib.hid hb; clear hb
    go_wp2_with fail
    go_ret
    exact ⟨rfl, HB1.out⟩
  by_cases hbig : 40 < l.length
  · go_enter Try.func3, Try.ntmps3
    go_wp2_with fail
    refine (awake_any W).mono ?_
    rintro e w1 ⟨rfl, hb⟩
    have HB1 := Lib.hid hb; clear hb
    go_wp2_with fail
    go_ret
    exact ⟨rfl, HB1.out⟩
  obtain ⟨i, hi⟩ : ∃ i : Nat, i = m % (l.length - 1) := ⟨_, rfl⟩
  have hi1 : i < l.length - 1 := by rw [hi]; exact Nat.mod_lt _ (by omega)
  have HI : Hid ((m : Int) % ((l.length : Int) - 1) = (i : Int)) := Lib.hid (by rw [hi, show (l.length : Int) - 1 = ((l.length - 1 : Nat) : Int) by omega]; rfl)
  clear hi
  obtain ⟨x, hx⟩ : ∃ x, l[i]? = some x := ⟨l[i], List.getElem?_eq_getElem (by omega)⟩
  obtain ⟨y, hy⟩ : ∃ y, l[i + 1]? = some y := ⟨l[i + 1], List.getElem?_eq_getElem (by omega)⟩
  obtain ⟨l', h1, h2, h3, h4⟩ := swap_get hx hy
  have HX := Lib.hid hx; have HY := Lib.hid hy; have HL1 := Lib.hid h1; have HL2 := Lib.hid h2; have HL3 := Lib.hid h3; have HL4 := Lib.hid h4
  clear hx hy h1 h2 h3 h4
  go_enter Try.func3, Try.ntmps3
  go_wp2_with fail
  refine (awake_any W).mono ?_
  rintro e w1 ⟨rfl, hb⟩
  have H1 := Lib.hid (HS.out.own hb); have HB1 := Lib.hid hb; clear hb
  obtain ⟨b, off, rfl, x0, x1, x2, x3, x4, _, _⟩ := act_at (HO.out.below HB1.out) HX.out
  obtain ⟨b', off', heq, y0, y1, y2, y3, y4, _, _⟩ := act_at (HO.out.below HB1.out) HY.out
  obtain ⟨rfl, rfl⟩ : b = b' ∧ off = off' := by simpa using heq
  clear heq
  go_wp2_with fail
  try simp only [HI.out]
  have g0 : IntKind.i64.wrap ((i : Int) + 1) = (i : Int) + 1 := IntWalk.i64_in _ (by omega)
  have g1 : (0 : Int) ≤ (i : Int) ∧ (i : Int) < (l.length : Int) := by omega
  have g2 : (0 : Int) ≤ (i : Int) + 1 ∧ (i : Int) + 1 < (l.length : Int) := by omega
  have g3 : ((i : Int) + 1).toNat = i + 1 := by omega
  by_cases hsame : x.sort = y.sort ∧ x.node = y.node
  · obtain ⟨s1, s2⟩ := hsame
    have t1 : (x.sort == y.sort) = true := by simpa using s1
    have t2 : (x.node == y.node) = true := by simpa using s2
    clear s1 s2
    go_quiet (fail)
    go_wp2_with fail
    go_ret
    exact ⟨rfl, Bw.drewN HB1.out _⟩
  · have hdiff : x.sort ≠ y.sort ∨ (x.sort = y.sort ∧ x.node ≠ y.node) := by omega
    have HFIN : Hid ((pushes l).evs.map zn = (pushes l').evs.map zn) := Lib.hid (HL3.out (by omega) HWF.out (by omega))
    clear hsame
    rcases hdiff with hd | ⟨hd1, hd⟩
    case' inl => have t1 : (x.sort == y.sort) = false := by simpa using hd
    case' inr => have t1 : (x.sort == y.sort) = true := by simpa using hd1
    case' inr => have t2 : (x.node == y.node) = false := by simpa using hd
    case' inr => clear hd1
    all_goals
      clear hd
      go_quiet (fail)
      have H1d := Lib.hid (H1.out.drewN nq)
      clear x0 x1 x2 x3 x4 y0 y1 y2 y3 y4 g0 g1 g2 g3
      go_wp2_with fail
      refine (new_h H1d.out).mono ?_
      rintro e w2 ⟨p, rfl, h⟩
      have H2 := Lib.hid h; clear h
      go_wp2_with fail
      refine (new_h H2.out).mono ?_
      rintro e w3 ⟨p2, rfl, h⟩
      have H3 := Lib.hid (show Held (fun _ => False) (Old W) W [tQu p (pushes (l.take 0)), tQu p2 (pushes (l'.take 0)), tRd eAc (.slice (some ⟨b, off, none⟩) l.length oc) l] w3 from h.pick [1, 2, 0] [tQu p Qu.new, tQu p2 Qu.new, tRd eAc (.slice (some ⟨b, off, none⟩) l.length oc) l] (by simp) rfl); clear h
      go_wp2_with fail
      go_loopw [61] (fun u wr => ∃ j : Nat, j ≤ l.length ∧ u = .int .i64 (j : Int) ∧ Hid (Held (fun _ => False) (Old W) W [tQu p (pushes (l.take j)), tQu p2 (pushes (l'.take j)), tRd eAc (.slice (some ⟨b, off, none⟩) l.length oc) l] wr)) (fun u _ => l.length - (intOf u).toNat)
      case atStart => exact ⟨0, by omega, by go_num, H3⟩
      case round =>
        clear H3
        obtain ⟨j, hj, rfl, HH⟩ := hrel
        by_cases hlt : j < l.length
        · obtain ⟨f, hf⟩ : ∃ f, l[j]? = some f := ⟨l[j], List.getElem?_eq_getElem hlt⟩
          obtain ⟨g, hg⟩ : ∃ g, l'[j]? = some g := ⟨l'[j]'(by rw [HL1.out]; exact hlt), List.getElem?_eq_getElem _⟩
          obtain ⟨b', off', heq, k0, k1, k2, k3, k4, _, _⟩ := act_at (HO.out.below HH.out.below) hf
          obtain ⟨rfl, rfl⟩ : b = b' ∧ off = off' := by simpa using heq
          have HHB := Lib.hid (show Held (fun _ => False) (Old W) W [tQu p (pushes (l.take j)), tQu p2 (pushes (l'.take j)), tRd eAc (.slice (some ⟨b, off, none⟩) l.length oc) l, tBlk (wr.heap.size + 1) (.cells #[.int .i64 g.kind, .int .i64 g.at', .int .i64 g.sort, .int .i64 g.node, .int .i64 g.arg] 25)] ((wr.alloc (.cells #[.int .i64 f.kind, .int .i64 f.at', .int .i64 f.sort, .int .i64 f.node, .int .i64 f.arg] 25)).alloc (.cells #[.int .i64 g.kind, .int .i64 g.at', .int .i64 g.sort, .int .i64 g.node, .int .i64 g.arg] 25)) by
            have := (HH.out.alloc (.cells #[.int .i64 f.kind, .int .i64 f.at', .int .i64 f.sort, .int .i64 f.node, .int .i64 f.arg] 25)).new (.cells #[.int .i64 g.kind, .int .i64 g.at', .int .i64 g.sort, .int .i64 g.node, .int .i64 g.arg] 25)
            rw [World.size_alloc] at this
            exact this)
          have HT1 := Lib.hid (pushes_take hf); have HT2 := Lib.hid (pushes_take hg)
          have HP := pushes_few (HWF.out.take j)
          have HP' := pushes_few ((HL4.out HWF.out).take j)
          have hlp : (pushes (l.take j)).last < 1000000000 := by have := HP.last; rw [List.length_take] at this; omega
          have hlp' : (pushes (l'.take j)).last < 1000000000 := by have := HP'.last; rw [List.length_take] at this; omega
          have hgc := HL2.out j
          rw [hg] at hgc
          have hcase : (j = i ∧ g = y) ∨ (j = i + 1 ∧ g = x) ∨ (j ≠ i ∧ j ≠ i + 1 ∧ g = f) := by
            by_cases h1 : j = i
            · rw [if_pos h1] at hgc; exact .inl ⟨h1, Option.some.inj hgc⟩
            · rw [if_neg h1] at hgc
              by_cases h2 : j = i + 1
              · rw [if_pos h2] at hgc; exact .inr (.inl ⟨h2, Option.some.inj hgc⟩)
              · rw [if_neg h2, hf] at hgc; exact .inr (.inr ⟨h1, h2, Option.some.inj hgc⟩)
          obtain ⟨b', off', heq', x0, x1, x2, x3, x4, _, _⟩ := act_at (HO.out.below HH.out.below) HX.out
          obtain ⟨rfl, rfl⟩ : b = b' ∧ off = off' := by simpa using heq'
          obtain ⟨b', off', heq', y0, y1, y2, y3, y4, _, _⟩ := act_at (HO.out.below HH.out.below) HY.out
          obtain ⟨rfl, rfl⟩ : b = b' ∧ off = off' := by simpa using heq'
          have hbw := World.block_lt_of_cell? _ _ k0
          have HPP := Lib.hid HP; have HPP' := Lib.hid HP'
          clear hf hg hgc heq heq' HP HP'
          have HP := HPP.out; have HP' := HPP'.out
          rcases hcase with ⟨h1, rfl⟩ | ⟨h1, rfl⟩ | ⟨h1, h2, rfl⟩
          · have t3 : ((j : Int) == (i : Int)) = true := by (simp; omega)
            clear h1
            go_wp2_with fail
            refine (push_h HHB.out 0 rfl HP.ok hlp _ _ _ _).mono ?_
            rintro e w4 ⟨rfl, h⟩
            have H4 := Lib.hid (show Held (fun _ => False) (Old W) W [tQu p ((pushes (l.take j)).pushA f), tQu p2 (pushes (l'.take j)), tRd eAc (.slice (some ⟨b, off, none⟩) l.length oc) l, tBlk (wr.heap.size + 1) (.cells #[.int .i64 g.kind, .int .i64 g.at', .int .i64 g.sort, .int .i64 g.node, .int .i64 g.arg] 25)] w4 from h); clear h
            have bb := H4.out.blk 3 rfl
            have n1 := blk_cell (i := 1) bb rfl; have n2 := blk_cell (i := 2) bb rfl; have n3 := blk_cell (i := 3) bb rfl; have n4 := blk_cell (i := 4) bb rfl
            clear bb
            go_wp2_with fail
            refine (push_h H4.out 1 rfl HP'.ok hlp' _ _ _ _).mono ?_
            rintro e w5 ⟨rfl, h⟩
            have H5 := Lib.hid (show Held (fun _ => False) (Old W) W [tQu p (pushes (l.take (j + 1))), tQu p2 (pushes (l'.take (j + 1))), tRd eAc (.slice (some ⟨b, off, none⟩) l.length oc) l] w5 by rw [HT1.out, HT2.out]; exact h.pick [0, 1, 2] [tQu p ((pushes (l.take j)).pushA f), tQu p2 ((pushes (l'.take j)).pushA g), tRd eAc (.slice (some ⟨b, off, none⟩) l.length oc) l] (by simp) rfl); clear h
            go_wp2_with fail
            go_roundw
            case rel => exact ⟨j + 1, by omega, by go_num, H5⟩
            case measure => simp [intOf]; omega
          · have t3 : ((j : Int) == (i : Int)) = false := by (simp; omega)
            have t4 : ((j : Int) == (i : Int) + 1) = true := by (simp; omega)
            clear h1
            go_wp2_with fail
            refine (push_h HHB.out 0 rfl HP.ok hlp _ _ _ _).mono ?_
            rintro e w4 ⟨rfl, h⟩
            have H4 := Lib.hid (show Held (fun _ => False) (Old W) W [tQu p ((pushes (l.take j)).pushA f), tQu p2 (pushes (l'.take j)), tRd eAc (.slice (some ⟨b, off, none⟩) l.length oc) l, tBlk (wr.heap.size + 1) (.cells #[.int .i64 g.kind, .int .i64 g.at', .int .i64 g.sort, .int .i64 g.node, .int .i64 g.arg] 25)] w4 from h); clear h
            have bb := H4.out.blk 3 rfl
            have n1 := blk_cell (i := 1) bb rfl; have n2 := blk_cell (i := 2) bb rfl; have n3 := blk_cell (i := 3) bb rfl; have n4 := blk_cell (i := 4) bb rfl
            clear bb
            go_wp2_with fail
            refine (push_h H4.out 1 rfl HP'.ok hlp' _ _ _ _).mono ?_
            rintro e w5 ⟨rfl, h⟩
            have H5 := Lib.hid (show Held (fun _ => False) (Old W) W [tQu p (pushes (l.take (j + 1))), tQu p2 (pushes (l'.take (j + 1))), tRd eAc (.slice (some ⟨b, off, none⟩) l.length oc) l] w5 by rw [HT1.out, HT2.out]; exact h.pick [0, 1, 2] [tQu p ((pushes (l.take j)).pushA f), tQu p2 ((pushes (l'.take j)).pushA g), tRd eAc (.slice (some ⟨b, off, none⟩) l.length oc) l] (by simp) rfl); clear h
            go_wp2_with fail
            go_roundw
            case rel => exact ⟨j + 1, by omega, by go_num, H5⟩
            case measure => simp [intOf]; omega
          · have t3 : ((j : Int) == (i : Int)) = false := by (simp; omega)
            have t4 : ((j : Int) == (i : Int) + 1) = false := by (simp; omega)
            clear h1
            go_wp2_with fail
            refine (push_h HHB.out 0 rfl HP.ok hlp _ _ _ _).mono ?_
            rintro e w4 ⟨rfl, h⟩
            have H4 := Lib.hid (show Held (fun _ => False) (Old W) W [tQu p ((pushes (l.take j)).pushA g), tQu p2 (pushes (l'.take j)), tRd eAc (.slice (some ⟨b, off, none⟩) l.length oc) l, tBlk (wr.heap.size + 1) (.cells #[.int .i64 g.kind, .int .i64 g.at', .int .i64 g.sort, .int .i64 g.node, .int .i64 g.arg] 25)] w4 from h); clear h
            have bb := H4.out.blk 3 rfl
            have n1 := blk_cell (i := 1) bb rfl; have n2 := blk_cell (i := 2) bb rfl; have n3 := blk_cell (i := 3) bb rfl; have n4 := blk_cell (i := 4) bb rfl
            clear bb
            go_wp2_with fail
            refine (push_h H4.out 1 rfl HP'.ok hlp' _ _ _ _).mono ?_
            rintro e w5 ⟨rfl, h⟩
            have H5 := Lib.hid (show Held (fun _ => False) (Old W) W [tQu p (pushes (l.take (j + 1))), tQu p2 (pushes (l'.take (j + 1))), tRd eAc (.slice (some ⟨b, off, none⟩) l.length oc) l] w5 by rw [HT1.out, HT2.out]; exact h.pick [0, 1, 2] [tQu p ((pushes (l.take j)).pushA g), tQu p2 ((pushes (l'.take j)).pushA g), tRd eAc (.slice (some ⟨b, off, none⟩) l.length oc) l] (by simp) rfl); clear h
            go_wp2_with fail
            go_roundw
            case rel => exact ⟨j + 1, by omega, by go_num, H5⟩
            case measure => simp [intOf]; omega
        · obtain rfl : j = l.length := by omega
          have hl' : l'.take l.length = l' := by rw [← HL1.out, List.take_length]
          have hal : Alike l.length (pushes l) (pushes l') := by
            have f1 := pushes_few HWF.out
            have f2 := pushes_few (HL4.out HWF.out)
            have := f1.last; have := f2.last; have := HL1.out
            exact ⟨f1.ok, f2.ok, by omega, by omega, HFIN.out, f1.len⟩
          have HAL := Lib.hid hal
          have HH' := Lib.hid (show Held (fun _ => False) (Old W) W [tQu p (pushes l), tQu p2 (pushes l'), tRd eAc (.slice (some ⟨b, off, none⟩) l.length oc) l] wr by have := HH.out; rw [List.take_length, hl'] at this; exact this)
          clear hl' hal
          go_wp2_with fail
          go_loopw [109] (fun u wr => ∃ (k : Nat) (q r : Qu), k ≤ l.length ∧ u = .int .i64 (k : Int) ∧ Hid (Alike (l.length - k) q r) ∧ Hid (Held (fun _ => False) (Old W) W [tQu p q, tQu p2 r, tRd eAc (.slice (some ⟨b, off, none⟩) l.length oc) l] wr)) (fun u _ => l.length - (intOf u).toNat)
          case atStart => exact ⟨0, _, _, by omega, by go_num, HAL, HH'⟩
          case round =>
            clear HH' HAL
            obtain ⟨k, q, r, hk, rfl, HA, HK⟩ := hrel
            by_cases hkl : k < l.length
            · obtain ⟨a, c, ok, q', r', hp1, hp2, hz, ha'⟩ := HA.out.pop (by omega)
              have HP1 := Lib.hid hp1; have HP2 := Lib.hid hp2; have HA' := Lib.hid ha'
              have HN : Hid (∀ w, (binOp .neq 32 (.agg #[.int .i64 a.at', .int .i64 a.kind, .int .i64 a.node, .int .i64 0, .int .i64 a.arg]) (.agg #[.int .i64 c.at', .int .i64 c.kind, .int .i64 c.node, .int .i64 0, .int .i64 c.arg])).run Try.prog w = .ok (.bool false) w) := Lib.hid fun w => (run_neqEv (zn a) (zn c) w).trans (by rw [hz, eqB_self]; rfl)
              clear hp1 hp2 hz ha'
              go_wp2_with fail
              refine (pop_h HK.out 0 rfl HA.out.qok (by have := HA.out.ql; omega)).mono ?_
              rintro e w4 ⟨rfl, h⟩
              rw [HP1.out] at h ⊢
              have H4 := Lib.hid (show Held (fun _ => False) (Old W) W [tQu p q', tQu p2 r, tRd eAc (.slice (some ⟨b, off, none⟩) l.length oc) l] w4 from h); clear h
              go_wp2_with fail
              refine (pop_h (H4.out.new (.cells #[.int .i64 a.at', .int .i64 a.kind, .int .i64 a.node, .int .i64 a.number, .int .i64 a.arg] 32)) 1 rfl HA.out.rok (by have := HA.out.rl; omega)).mono ?_
              rintro e w5 ⟨rfl, h⟩
              rw [HP2.out] at h ⊢
              have H5 := Lib.hid (show Held (fun _ => False) (Old W) W [tQu p q', tQu p2 r', tRd eAc (.slice (some ⟨b, off, none⟩) l.length oc) l, tBlk w4.heap.size (.cells #[.int .i64 a.at', .int .i64 a.kind, .int .i64 a.node, .int .i64 a.number, .int .i64 a.arg] 32)] w5 from h); clear h
              have bb := H5.out.blk 3 rfl
              have m0 := blk_cell (i := 0) bb rfl; have m1 := blk_cell (i := 1) bb rfl; have m2 := blk_cell (i := 2) bb rfl; have m3 := blk_cell (i := 3) bb rfl; have m4 := blk_cell (i := 4) bb rfl
              have mf := blk_free bb 3
              have hbl := lt_of_block bb
              have hn := HN.out
              clear bb
              go_wp2_with fail
              have hr6 : (w5.setCell ⟨w4.heap.size, 3, none⟩ (.int .i64 0)).heap[w4.heap.size]? = some (.cells #[.int .i64 a.at', .int .i64 a.kind, .int .i64 a.node, .int .i64 0, .int .i64 a.arg] 32) := by
                have hb5 := H5.out.blk 3 rfl
                (apply row_trans; focus (repeat (first | (with_reducible exact hb5) | (with_reducible apply row_set) | (with_reducible apply row_drewN) | (with_reducible apply row_drew)))); rfl
              have H6 := Lib.hid (((H5.out.set 3 rfl _ (Fr.setCell (Fr.refl (fun k => k = w4.heap.size) w5) (Or.inl rfl) (.int .i64 0)) hr6).alloc (.cells #[.int .i64 c.at', .int .i64 c.kind, .int .i64 c.node, .int .i64 0, .int .i64 c.arg] 32)).pick [0, 1, 2] [tQu p q', tQu p2 r', tRd eAc (.slice (some ⟨b, off, none⟩) l.length oc) l] (by simp) rfl)
              clear hr6
              go_roundw
              case rel => exact ⟨k + 1, q', r', by omega, by go_num, by rw [show l.length - (k + 1) = l.length - k - 1 by omega]; exact HA', H6⟩
              case measure => simp [intOf]; omega
            · obtain rfl : l.length = k := by omega
              have hq0 : q.evs.length = 0 := by have := HA.out.len; omega
              have hr0 : r.evs.length = 0 := by have := congrArg List.length HA.out.eq; simp at this; omega
              go_wp2_with fail
              refine (len_h HK.out 0 rfl).mono ?_
              rintro e w4 ⟨rfl, rfl⟩
              rw [hq0]
              go_wp2_with fail
              refine (len_h HK.out 1 rfl).mono ?_
              rintro e w4 ⟨rfl, rfl⟩
              rw [hr0]
              go_wp2_with fail
              go_ret
              exact ⟨rfl, HK.out.below⟩
end Go.Proofs.Ytococphklfbidaa
