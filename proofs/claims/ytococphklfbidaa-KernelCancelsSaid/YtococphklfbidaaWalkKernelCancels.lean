/- The walk of KernelCancels. -/
import Derived.Test.YtococphklfbidaaKerN
namespace Go.Proofs.Ytococphklfbidaa
open Go.RowKit Go.Maps

theorem Alike.pop2 {n m : Nat} {q r : Qu} (h : Alike n q r) (hl : q.evs.length = m + 1) : ∃ a c q' r', q.pop = (q', a, true) ∧ r.pop = (r', c, true) ∧ zn a = zn c ∧ Alike n q' r' ∧ q'.evs.length = m := by
  have h1 := Qu.pop_ok h.qok
  have h2 := Qu.pop_ok h.rok
  obtain ⟨a1, a2, E⟩ := q
  obtain ⟨b1, b2, G⟩ := r
  rcases map_zn_cases h.eq with ⟨e1, e2⟩ | ⟨a, E', c, G', e1, e2, hz, hm⟩
  · simp only at e1
    subst e1
    simp at hl
  · simp only at e1 e2
    subst e1; subst e2
    have hle := h.len
    simp only [List.length_cons] at hl hle
    exact ⟨a, c, _, _, rfl, rfl, hz, ⟨h1, h2, h.ql, h.rl, hm, by show E'.length ≤ n; omega⟩, by show E'.length = m; omega⟩
/-- at the end of the calls -/
theorem skip_end {g : Nat} {p q : Qu} (h : Skips g p q) (hw : Whole p) (hp : p.last ≤ 100) (h1 : 1 ≤ g) : p.cancel (g : Int) = (⟨p.now, p.last, p.evs.filter fun x => !(x.number == (g : Int))⟩, 0) ∧ (Qu.mk p.now p.last (p.evs.filter fun x => !(x.number == (g : Int)))).cancel (g : Int) = (⟨p.now, p.last, p.evs.filter fun x => !(x.number == (g : Int))⟩, 7) ∧
    Alike p.last ⟨p.now, p.last, p.evs.filter fun x => !(x.number == (g : Int))⟩ q ∧ (p.evs.filter fun x => !(x.number == (g : Int))).length + 1 = p.last ∧ q.evs.length + 1 = p.last := by
  obtain ⟨e, he, hn⟩ := hw.all (g : Int) (by omega) (by have := h.le; omega)
  have hany : (p.evs.any fun x => x.number == (g : Int)) = true := List.any_eq_true.2 ⟨e, he, by simpa using hn⟩
  have hc : p.cancel (g : Int) = (⟨p.now, p.last, p.evs.filter fun x => !(x.number == (g : Int))⟩, 0) := by unfold Qu.cancel; rw [hany]; rfl
  have hno : ((p.evs.filter fun x => !(x.number == (g : Int))).any fun x => x.number == (g : Int)) = false := by
    rw [List.any_eq_false]
    intro x hx
    simpa using (List.mem_filter.1 hx).2
  have hlen : (p.evs.filter fun x => !(x.number == (g : Int))).length + 1 = p.last := by
    obtain ⟨i, hi⟩ := List.getElem?_of_mem he
    have hil := lt_of_get hi
    have := cut_filter h.pok.num hi
    rw [hn] at this
    rw [← this, List.length_append, List.length_take, List.length_drop, ← hw.len]; omega
  have hev := h.evs
  have hok := Qu.cancel_ok h.pok (g : Int)
  rw [hc] at hok
  refine ⟨hc, by unfold Qu.cancel; rw [hno]; rfl, ⟨hok, h.qok, hp, by have := h.last; omega, ?_, Nat.le_of_succ_le (Nat.le_of_eq hlen)⟩, hlen, by rw [hev, List.length_map]; exact hlen⟩
  rw [hev, List.map_map]; rfl
theorem okAt_ways (now a k n : Int) : okAt now a k n = true ∨ (a < now ∨ (now ≤ a ∧ 1073741824 < a) ∨ (now ≤ a ∧ a ≤ 1073741824 ∧ k < 0) ∨ (now ≤ a ∧ a ≤ 1073741824 ∧ 0 ≤ k ∧ 255 < k) ∨ (now ≤ a ∧ a ≤ 1073741824 ∧ 0 ≤ k ∧ k ≤ 255 ∧ n < 0) ∨ (now ≤ a ∧ a ≤ 1073741824 ∧ 0 ≤ k ∧ k ≤ 255 ∧ 0 ≤ n ∧ 16 ≤ n)) ∧ okAt now a k n = false := by
  cases h : okAt now a k n with
  | true => exact .inl rfl
  | false => have := okAt_false.1 h; exact .inr ⟨by omega, rfl⟩
set_option maxRecDepth 100000 in
set_option maxHeartbeats 32000000 in
theorem walkKernelCancels (W : World) (v0 v1 : Value) (o0 : IsSl rAc W v0) (o1 : IsInt .u8 v1) :
    Calls Try.prog 8 #[v0, v1] W fun e w' => e = .returned (.bool true) ∧ Below W.heap.size W w' := by
  obtain ⟨l, hl⟩ := o0
  obtain ⟨m, rfl, hm⟩ := int_u8' o1
  have ho := acts_of hl
  obtain ⟨oa, oc, rfl, _, _⟩ := ho.shape
  have HS := Lib.hid ((Held.start0 (fun _ => False) (Old W) (fun _ f _ => f) W).addOld (T := tRd eAc (.slice oa l.length oc) l) (RdS.mono ho fun k h => ⟨h, id⟩))
  have HO := Lib.hid ho
  have HWF := Lib.hid (wfL_of ho)
  clear ho hl
  have hG := eqGuardEv
  go_enter Try.func8, Try.ntmps8
  go_wp2_with fail
  refine (awake_any W).mono ?_
  rintro e w1 ⟨rfl, hb⟩
  have H1 := Lib.hid (HS.out.own hb); have HB1 := Lib.hid hb; clear hb
  by_cases hbig : 40 < l.length
  · go_wp2_with fail
    go_ret
    exact ⟨rfl, HB1.out⟩
  · go_wp2_with fail
    refine (new_h H1.out).mono ?_
    rintro e w2 ⟨p, rfl, h⟩
    have H2 := Lib.hid h; clear h
    go_wp2_with fail
    refine (new_h H2.out).mono ?_
    rintro e w3 ⟨p2, rfl, h⟩
    have H3 := Lib.hid (show Held (fun _ => False) (Old W) W [tQu p (pushes (l.take 0)), tQu p2 Qu.new, tRd eAc (.slice oa l.length oc) l, tSq eNat 3 (.slice none (nums 0).length 0) (nums 0)] w3 from (h.add (T := tSq eNat 3 (.slice none 0 0) []) (Below.refl _ _) (Sq.nil _ _ _ _ _)).pick [1, 2, 0, 3] [tQu p Qu.new, tQu p2 Qu.new, tRd eAc (.slice oa l.length oc) l, tSq eNat 3 (.slice none 0 0) []] (by simp) rfl); clear h
    go_wp2_with fail
    go_loopw [30, 7] (fun u u7 wr => ∃ (j N : Nat) (na : Option Addr) (nc : Nat), j ≤ l.length ∧ u = .int .i64 (j : Int) ∧ u7 = .slice na (nums N).length nc ∧ Hid (N = (pushes (l.take j)).last) ∧ Hid (Held (fun _ => False) (Old W) W [tQu p (pushes (l.take j)), tQu p2 Qu.new, tRd eAc (.slice oa l.length oc) l, tSq eNat 3 (.slice na (nums N).length nc) (nums N)] wr)) (fun u _ _ => l.length - (intOf u).toNat)
    case atStart => exact ⟨0, 0, none, 0, by omega, by go_num, rfl, Lib.hid rfl, H3⟩
    case round =>
      clear H3
      obtain ⟨j, N, na, nc, hj, rfl, rfl, HN, HH⟩ := hrel
      have HP := Lib.hid (pushes_few (HWF.out.take j))
      have hNj : N ≤ j := by have := HP.out.last; rw [List.length_take] at this; have := HN.out; omega
      have HNL := Lib.hid (nums_length N)
      by_cases hlt : j < l.length
      · obtain ⟨f, hf⟩ : ∃ f, l[j]? = some f := ⟨l[j], List.getElem?_eq_getElem hlt⟩
        obtain ⟨b, off, rfl, k0, k1, k2, k3, k4, _, _⟩ := act_at (HO.out.below HH.out.below) hf
        have HT := Lib.hid (pushes_take hf)
        have HHB := Lib.hid (show Held (fun _ => False) (Old W) W [tQu p (pushes (l.take j)), tQu p2 Qu.new, tRd eAc (.slice (some ⟨b, off, none⟩) l.length oc) l, tSq eNat 3 (.slice na (nums N).length nc) (nums N)] (wr.alloc (.cells #[.int .i64 f.kind, .int .i64 f.at', .int .i64 f.sort, .int .i64 f.node, .int .i64 f.arg] 25)) from HH.out.alloc _)
        have hlq : (pushes (l.take j)).last < 1000000000 := by have := HN.out; omega
        have herr := HP.out.errno (by rw [List.length_take]; omega) f.at' f.sort f.node f.arg
        have HF1 : Hid (∀ x, (pushes (l.take j)).push f.at' f.sort f.node f.arg = x → (pushes (l.take (j + 1))) = x.1) := Lib.hid fun x hx => by rw [HT.out]; unfold Qu.pushA; rw [hx]
        clear hf
        rcases herr with ⟨hok, he, _⟩ | ⟨hok, he, hs⟩
        · have HL2 : Hid ((pushes (l.take (j + 1))).last = N + 1) := Lib.hid (by
            rw [HT.out, pushA_yes hok (by have := HP.out.len; rw [List.length_take] at this; omega), HN.out])
          have HE : Hid (((pushes (l.take j)).push f.at' f.sort f.node f.arg).2 = (((N + 1 : Nat) : Int), 0)) := Lib.hid (by rw [he, HN.out])
          clear hok he
          go_wp2_with (first
            | (go_at_call 13; refine (push_h HHB.out 0 rfl HP.out.ok hlq _ _ _ _).mono ?_; rintro e w4 ⟨rfl, h⟩; rw [HE.out]; have H4 := Lib.hid (show Held (fun _ => False) (Old W) W [tQu p (pushes (l.take (j + 1))), tQu p2 Qu.new, tRd eAc (.slice (some ⟨b, off, none⟩) l.length oc) l, tSq eNat 3 (.slice na (nums N).length nc) (nums N)] w4 by rw [HF1.out _ rfl]; exact h); clear h)
            | (at_builtin; refine wpList_app_nat (e := N + 1) rfl _ _ rfl H4.out 3 rfl (by (repeat (first | (with_reducible exact Below.refl _ _) | (with_reducible refine Bw.alloc ?_ _) | (with_reducible refine Bw.drewN ?_ _) | (with_reducible refine Bw.drew ?_)))) (by rw [HNL.out]; omega) rfl w4.heap.size rfl (by exact rd_one _ _ _ _ rfl) ?_; intro a' c' w5 h; have H5 := Lib.hid h; clear h))
          go_roundw
          case rel => exact ⟨j + 1, N + 1, a', c', by omega, by go_num, by rw [HNL.out, nums_length], Lib.hid HL2.out.symm, by rw [nums_succ]; exact H5⟩
          case measure => simp [intOf]; omega
        · have HE := Lib.hid he
          have HL2 : Hid (N = (pushes (l.take (j + 1))).last) := Lib.hid (by rw [HT.out]; unfold Qu.pushA; rw [hs]; exact HN.out)
          clear hok he hs
          go_wp2_with (go_at_call 13; refine (push_h HHB.out 0 rfl HP.out.ok hlq _ _ _ _).mono ?_; rintro e w4 ⟨rfl, h⟩; rw [HE.out]; have H4 := Lib.hid (show Held (fun _ => False) (Old W) W [tQu p (pushes (l.take (j + 1))), tQu p2 Qu.new, tRd eAc (.slice (some ⟨b, off, none⟩) l.length oc) l, tSq eNat 3 (.slice na (nums N).length nc) (nums N)] w4 by rw [HF1.out _ rfl]; exact h); clear h)
          go_roundw
          case rel => exact ⟨j + 1, N, na, nc, by omega, by go_num, rfl, HL2, H4⟩
          case measure => simp [intOf]; omega
      · obtain rfl : j = l.length := by omega
        have hNl : N = (pushes l).last := by have := HN.out; rw [List.take_length] at this; exact this
        have HH' := Lib.hid (show Held (fun _ => False) (Old W) W [tQu p (pushes l), tQu p2 Qu.new, tRd eAc (.slice oa l.length oc) l, tSq eNat 3 (.slice na (nums N).length nc) (nums N)] wr by have := HH.out; rw [List.take_length] at this; exact this)
        have HP2 := Lib.hid (pushes_few HWF.out)
        have HW2 := Lib.hid (pushes_whole HWF.out (by omega))
        have HNl := Lib.hid hNl
        have hlq : (pushes l).last < 1000000000 := by have := HP2.out.last; omega
        clear hNl HN HP HH
        by_cases hN0 : N = 0
        · subst hN0
          have hc : (pushes l).cancel 1 = (pushes l, 7) := by
            have he : (pushes l).evs = [] := List.eq_nil_of_length_eq_zero (by rw [HW2.out.len]; exact HNl.out.symm)
            unfold Qu.cancel; rw [he]; rfl
          have HC := Lib.hid hc
          have hn0 : (nums 0).length = 0 := rfl
          clear hc
          go_wp2_with fail
          refine (cancel_h HH'.out 0 rfl HP2.out.ok hlq 1 (by decide)).mono ?_
          rintro e w4 ⟨rfl, h⟩
          rw [HC.out]
          have HB4 := Lib.hid h.below; clear h
          go_wp2_with fail
          go_ret
          exact ⟨rfl, HB4.out⟩
        · obtain ⟨g, hg⟩ : ∃ g : Nat, g = m % N := ⟨_, rfl⟩
          have hgN : g < N := by rw [hg]; exact Nat.mod_lt _ (by omega)
          have HGM : Hid ((m : Int) % (N : Int) = (g : Int)) := Lib.hid (by rw [hg]; rfl)
          have hN0' : 0 < N := by omega
          clear hg
          have HH2 := Lib.hid (show Held (fun _ => False) (Old W) W [tQu p (pushes l), tQu p2 Qu.new, tRd eAc (.slice oa l.length oc) l, tSq eNat 3 (.slice na N nc) (nums N)] wr by have := HH'.out; rw [HNL.out] at this; exact this)
          clear HH'
          rw [HNL.out]
          obtain ⟨G, Y, hsq⟩ := HH2.out.get 3 rfl
          obtain ⟨nb, noff, rfl, hn0⟩ := nat_at (show Sq eNat 3 wr G Y (.slice na N nc) (nums N) from hsq) (nums_get hgN)
          clear hsq
          have hgm := HGM.out
          have hnz : ((N : Int) == 0) = false := by (simp; omega)
          go_wp2_with fail
          clear hgm
          go_loopw [70, 12] (fun u u12 wr => ∃ (j L : Nat) (q : Qu), j ≤ l.length ∧ L ≤ j ∧ u = .int .i64 (j : Int) ∧ u12 = .int .i64 ((g : Int) + 1 - (L : Int)) ∧ Hid (L = (pushes (l.take j)).last) ∧ Hid (SkipTo (g + 1) (pushes (l.take j)) q) ∧ Hid (Held (fun _ => False) (Old W) W [tQu p (pushes l), tQu p2 q, tRd eAc (.slice oa l.length oc) l, tSq eNat 3 (.slice (some ⟨nb, noff, none⟩) N nc) (nums N)] wr)) (fun u _ _ => l.length - (intOf u).toNat)
          case atStart => exact ⟨0, 0, _, by omega, by omega, by go_num, by go_num, Lib.hid rfl, Lib.hid (.inl ⟨Nat.succ_pos _, rfl⟩), HH2⟩
          case round =>
            clear HH2 hn0
            obtain ⟨j, L, q, hj, hLj, rfl, rfl, HL, HSK, HK⟩ := hrel
            have HP := Lib.hid (pushes_few (HWF.out.take j))
            have HW := Lib.hid (pushes_whole (HWF.out.take j) (by rw [List.length_take]; omega))
            have hqq : q.Ok ∧ q.last ≤ 40 ∧ q.evs.length ≤ 40 ∧ q.now = 0 := by
              have h1 := HP.out.last; have h2 := HP.out.len
              rw [List.length_take] at h1 h2
              rcases HSK.out with ⟨_, rfl⟩ | hs
              · exact ⟨HP.out.ok, by omega, by omega, HW.out.now⟩
              · refine ⟨hs.qok, by have := hs.last; omega, ?_, by rw [hs.now]; exact HW.out.now⟩
                rw [hs.evs, List.length_map]
                exact Nat.le_trans (List.length_filter_le _ _) (by omega)
            obtain ⟨hqo, hql, hqe, hqn⟩ := hqq
            have HQN := Lib.hid hqn; have HQO := Lib.hid hqo
            clear hqn hqo
            by_cases hlt : j < l.length
            · obtain ⟨f, hf⟩ : ∃ f, l[j]? = some f := ⟨l[j], List.getElem?_eq_getElem hlt⟩
              have hwf := HWF.out f (List.mem_of_getElem? hf)
              obtain ⟨b, off, rfl, k0, k1, k2, k3, k4, _, _⟩ := act_at (HO.out.below HK.out.below) hf
              have HT := Lib.hid (pushes_take hf)
              have HFW := Lib.hid hwf
              have HHB := Lib.hid (show Held (fun _ => False) (Old W) W [tQu p (pushes l), tQu p2 q, tRd eAc (.slice (some ⟨b, off, none⟩) l.length oc) l, tSq eNat 3 (.slice (some ⟨nb, noff, none⟩) N nc) (nums N)] (wr.alloc (.cells #[.int .i64 f.kind, .int .i64 f.at', .int .i64 f.sort, .int .i64 f.node, .int .i64 f.arg] 25)) from HK.out.alloc _)
              have hPl : (pushes (l.take j)).evs.length < 10000 := by have := HP.out.len; rw [List.length_take] at this; omega
              clear hf hwf
              rcases okAt_ways 0 f.at' f.sort f.node with hok | ⟨hbad, hok⟩
              · have hok1 : okAt (pushes (l.take j)).now f.at' f.sort f.node = true := by rw [HW.out.now]; exact hok
                have HL2 : Hid (L + 1 = (pushes (l.take (j + 1))).last) := Lib.hid (by rw [HT.out, pushA_yes hok1 hPl, HL.out])
                obtain ⟨g1, g2, g3, g4, g5, g6⟩ := okAt_iff.1 hok
                by_cases hskip : L = g
                · have HSK2 : Hid (SkipTo (g + 1) (pushes (l.take (j + 1))) q) := Lib.hid (by
                    have hl : (pushes (l.take j)).last = g := by rw [← HL.out]; exact hskip
                    rcases HSK.out with ⟨_, rfl⟩ | hs
                    · have := Skips.start HP.out.ok f HFW.out hPl hok1
                      rw [hl] at this
                      rw [HT.out]; exact .inr this
                    · have := hs.le; omega)
                  have tz : ((g : Int) + 1 - (L : Int) - 1 == 0) = true := by (simp; omega)
                  clear hskip hok hok1
                  go_wp2_with fail
                  go_roundw
                  case rel => exact ⟨j + 1, L + 1, q, by omega, by omega, by go_num, by go_num, HL2, HSK2, HHB⟩
                  case measure => simp [intOf]; omega
                · have HSK2 : Hid (SkipTo (g + 1) (pushes (l.take (j + 1))) (q.pushA f)) := Lib.hid (by
                    rw [HT.out]
                    rcases HSK.out with ⟨hlt, rfl⟩ | hs
                    · refine .inl ⟨?_, rfl⟩
                      rw [pushA_yes hok1 hPl]
                      show (pushes (l.take j)).last + 1 < g + 1
                      have := HL.out; omega
                    · exact .inr (hs.push f HFW.out hPl (by omega)))
                  have tz : ((g : Int) + 1 - (L : Int) - 1 == 0) = false := by (simp; omega)
                  clear hskip hok hok1
                  go_wp2_with (go_at_call 13; refine (push_h HHB.out 1 rfl HQO.out (by omega) _ _ _ _).mono ?_; rintro e w4 ⟨rfl, h⟩; have H4 := Lib.hid (show Held (fun _ => False) (Old W) W [tQu p (pushes l), tQu p2 (q.pushA f), tRd eAc (.slice (some ⟨b, off, none⟩) l.length oc) l, tSq eNat 3 (.slice (some ⟨nb, noff, none⟩) N nc) (nums N)] w4 from h); clear h)
                  go_roundw
                  case rel => exact ⟨j + 1, L + 1, q.pushA f, by omega, by omega, by go_num, by go_num, HL2, HSK2, H4⟩
                  case measure => simp [intOf]; omega
              · have hq0 : q.pushA f = q := pushA_no (by rw [HQN.out]; exact hok)
                have hp0 : (pushes (l.take j)).pushA f = pushes (l.take j) := pushA_no (by rw [HW.out.now]; exact hok)
                have HL2 : Hid (L = (pushes (l.take (j + 1))).last) := Lib.hid (by rw [HT.out, hp0]; exact HL.out)
                have HSK2 : Hid (SkipTo (g + 1) (pushes (l.take (j + 1))) q) := Lib.hid (by rw [HT.out, hp0]; exact HSK.out)
                have HQ0 := Lib.hid hq0
                clear hq0 hp0 hok
                rcases hbad with g1 | ⟨g1, g2⟩ | ⟨g1, g2, g3⟩ | ⟨g1, g2, g3, g4⟩ | ⟨g1, g2, g3, g4, g5⟩ | ⟨g1, g2, g3, g4, g5, g6⟩
                all_goals
                  go_wp2_with (go_at_call 13; refine (push_h HHB.out 1 rfl HQO.out (by omega) _ _ _ _).mono ?_; rintro e w4 ⟨rfl, h⟩; have H4 := Lib.hid (show Held (fun _ => False) (Old W) W [tQu p (pushes l), tQu p2 q, tRd eAc (.slice (some ⟨b, off, none⟩) l.length oc) l, tSq eNat 3 (.slice (some ⟨nb, noff, none⟩) N nc) (nums N)] w4 by have h' : Held _ _ _ [tQu p (pushes l), tQu p2 (q.pushA f), tRd eAc (.slice (some ⟨b, off, none⟩) l.length oc) l, tSq eNat 3 (.slice (some ⟨nb, noff, none⟩) N nc) (nums N)] w4 := h; rw [HQ0.out] at h'; exact h'); clear h)
                  go_roundw
                  case rel => exact ⟨j + 1, L, q, by omega, by omega, by go_num, rfl, HL2, HSK2, H4⟩
                  case measure => simp [intOf]; omega
            · obtain rfl : j = l.length := by omega
              have hsk : Skips (g + 1) (pushes l) q := by
                have := HSK.out
                rw [List.take_length] at this
                rcases this with ⟨h1, _⟩ | h
                · have := HNl.out; omega
                · exact h
              obtain ⟨hc1, hc2, hal, hlen, hqlen⟩ := skip_end hsk HW2.out (by have := HP2.out.last; omega) (by omega)
              obtain ⟨C, hC⟩ : ∃ C, C = (⟨(pushes l).now, (pushes l).last, (pushes l).evs.filter fun x => !(x.number == ((g + 1 : Nat) : Int))⟩ : Qu) := ⟨_, rfl⟩
              rw [← hC] at hc1 hc2 hal
              have hclen1 : C.evs.length + 1 = (pushes l).last := by rw [hC]; exact hlen
              have hclen : C.evs.length = N - 1 := by have := HNl.out; omega
              have hqN : q.evs.length = N - 1 := by have := HNl.out; omega
              have hkw : (Lit.int .i64 ((g + 1 : Nat) : Int)).wf = true := wf_i64 (by omega) (by omega)
              have HC1 := Lib.hid hc1; have HC2 := Lib.hid hc2; have HAL := Lib.hid hal; have HCL := Lib.hid hclen; have HQL := Lib.hid hqN; have HKW := Lib.hid hkw
              clear hsk hclen1 hc1 hc2 hal hlen hqlen hC hclen hqN hkw HSK HP HW
              obtain ⟨G, Y, hsq⟩ := HK.out.get 3 rfl
              obtain ⟨nb', noff', heq, hn0⟩ := nat_at (show Sq eNat 3 wr G Y (.slice (some ⟨nb, noff, none⟩) N nc) (nums N) from hsq) (nums_get hgN)
              obtain ⟨rfl, rfl⟩ : nb = nb' ∧ noff = noff' := by simpa using heq
              clear hsq heq
              have hgm := HGM.out
              go_wp2_with fail
              refine (cancel_h HK.out 0 rfl HP2.out.ok hlq ((g + 1 : Nat) : Int) HKW.out).mono ?_
              rintro e w4 ⟨rfl, h⟩
              rw [HC1.out] at h ⊢
              have H4 := Lib.hid (show Held (fun _ => False) (Old W) W [tQu p C, tQu p2 q, tRd eAc (.slice oa l.length oc) l, tSq eNat 3 (.slice (some ⟨nb, noff, none⟩) N nc) (nums N)] w4 from h); clear h
              have hCl : C.last < 1000000000 := by have := HAL.out.ql; omega
              go_wp2_with fail
              refine (cancel_h H4.out 0 rfl HAL.out.qok hCl ((g + 1 : Nat) : Int) HKW.out).mono ?_
              rintro e w5 ⟨rfl, h⟩
              rw [HC2.out] at h ⊢
              have H5 := Lib.hid (show Held (fun _ => False) (Old W) W [tQu p C, tQu p2 q, tRd eAc (.slice oa l.length oc) l, tSq eNat 3 (.slice (some ⟨nb, noff, none⟩) N nc) (nums N)] w5 from h); clear h
              go_wp2_with fail
              refine (len_h H5.out 0 rfl).mono ?_
              rintro e w6 ⟨rfl, rfl⟩
              rw [HCL.out]
              go_wp2_with fail
              refine (len_h H5.out 1 rfl).mono ?_
              rintro e w6 ⟨rfl, rfl⟩
              rw [HQL.out]
              go_wp2_with fail
              try simp only [HGM.out]
              go_loopw [145] (fun u wr => ∃ (k : Nat) (q r : Qu), k + 1 ≤ N ∧ u = .int .i64 (k : Int) ∧ Hid (Alike 100 q r ∧ q.evs.length = N - 1 - k) ∧ Hid (Held (fun _ => False) (Old W) W [tQu p q, tQu p2 r, tRd eAc (.slice oa l.length oc) l, tSq eNat 3 (.slice (some ⟨nb, noff, none⟩) N nc) (nums N)] wr)) (fun u _ => N - 1 - (intOf u).toNat)
              case atStart => exact ⟨0, _, _, by omega, by go_num, Lib.hid ⟨⟨HAL.out.qok, HAL.out.rok, HAL.out.ql, HAL.out.rl, HAL.out.eq, by rw [HCL.out]; omega⟩, HCL.out⟩, H5⟩
              case round =>
                clear H5 hn0 hgm
                obtain ⟨k, q, r, hk, rfl, HA, HK⟩ := hrel
                by_cases hkl : k + 1 < N
                · obtain ⟨a, c, q', r', hp1, hp2, hz, ha', hl'⟩ := HA.out.1.pop2 (m := N - 1 - k - 1) (by rw [HA.out.2]; omega)
                  have HP1 := Lib.hid hp1; have HP2 := Lib.hid hp2; have HA' := Lib.hid (show Alike 100 q' r' ∧ q'.evs.length = N - 1 - (k + 1) from ⟨ha', by rw [hl']; omega⟩)
                  have HN : Hid (∀ w, (binOp .neq 32 (.agg #[.int .i64 a.at', .int .i64 a.kind, .int .i64 a.node, .int .i64 0, .int .i64 a.arg]) (.agg #[.int .i64 c.at', .int .i64 c.kind, .int .i64 c.node, .int .i64 0, .int .i64 c.arg])).run Try.prog w = .ok (.bool false) w) := Lib.hid fun w => (run_neqEv (zn a) (zn c) w).trans (by rw [hz, eqB_self]; rfl)
                  have tt : decide ((k : Int) < (N : Int) - 1) = true := by (simp; omega)
                  clear hp1 hp2 hz ha' hl'
                  go_wp2_with fail
                  refine (pop_h HK.out 0 rfl HA.out.1.qok (by have := HA.out.1.ql; omega)).mono ?_
                  rintro e w6 ⟨rfl, h⟩
                  rw [HP1.out] at h ⊢
                  have H6 := Lib.hid (show Held (fun _ => False) (Old W) W [tQu p q', tQu p2 r, tRd eAc (.slice oa l.length oc) l, tSq eNat 3 (.slice (some ⟨nb, noff, none⟩) N nc) (nums N)] w6 from h); clear h
                  go_wp2_with fail
                  refine (pop_h (H6.out.new (.cells #[.int .i64 a.at', .int .i64 a.kind, .int .i64 a.node, .int .i64 a.number, .int .i64 a.arg] 32)) 1 rfl HA.out.1.rok (by have := HA.out.1.rl; omega)).mono ?_
                  rintro e w7 ⟨rfl, h⟩
                  rw [HP2.out] at h ⊢
                  have H7 := Lib.hid (show Held (fun _ => False) (Old W) W [tQu p q', tQu p2 r', tRd eAc (.slice oa l.length oc) l, tSq eNat 3 (.slice (some ⟨nb, noff, none⟩) N nc) (nums N), tBlk w6.heap.size (.cells #[.int .i64 a.at', .int .i64 a.kind, .int .i64 a.node, .int .i64 a.number, .int .i64 a.arg] 32)] w7 from h); clear h
                  have bb := H7.out.blk 4 rfl
                  have m0 := blk_cell (i := 0) bb rfl; have m1 := blk_cell (i := 1) bb rfl; have m2 := blk_cell (i := 2) bb rfl; have m3 := blk_cell (i := 3) bb rfl; have m4 := blk_cell (i := 4) bb rfl
                  have mf := blk_free bb 3
                  have hbl := lt_of_block bb
                  have hn := HN.out
                  clear bb
                  go_wp2_with fail
                  have hr8 : (w7.setCell ⟨w6.heap.size, 3, none⟩ (.int .i64 0)).heap[w6.heap.size]? = some (.cells #[.int .i64 a.at', .int .i64 a.kind, .int .i64 a.node, .int .i64 0, .int .i64 a.arg] 32) := by
                    have hb5 := H7.out.blk 4 rfl
                    (apply row_trans; focus (repeat (first | (with_reducible exact hb5) | (with_reducible apply row_set) | (with_reducible apply row_drewN) | (with_reducible apply row_drew)))); rfl
                  have H8 := Lib.hid (((H7.out.set 4 rfl _ (Fr.setCell (Fr.refl (fun k => k = w6.heap.size) w7) (Or.inl rfl) (.int .i64 0)) hr8).alloc (.cells #[.int .i64 c.at', .int .i64 c.kind, .int .i64 c.node, .int .i64 0, .int .i64 c.arg] 32)).pick [0, 1, 2, 3] [tQu p q', tQu p2 r', tRd eAc (.slice oa l.length oc) l, tSq eNat 3 (.slice (some ⟨nb, noff, none⟩) N nc) (nums N)] (by simp) rfl)
                  clear hr8
                  go_roundw
                  case rel => exact ⟨k + 1, q', r', by omega, by go_num, HA', H8⟩
                  case measure => simp [intOf]; omega
                · have he : q.evs = [] := List.eq_nil_of_length_eq_zero (by rw [HA.out.2]; omega)
                  obtain ⟨q1, q2, E⟩ := q
                  simp only at he
                  subst he
                  have tt : decide ((k : Int) < (N : Int) - 1) = false := by (simp; omega)
                  go_wp2_with fail
                  refine (pop_h HK.out 0 rfl HA.out.1.qok (by have := HA.out.1.ql; omega)).mono ?_
                  rintro e w6 ⟨rfl, h⟩
                  have HB6 := Lib.hid h.below; clear h
                  simp only [Qu.pop]
                  go_wp2_with fail
                  go_ret
                  exact ⟨rfl, HB6.out.trans ((below_alloc _ _).mono HB6.out.size)⟩
end Go.Proofs.Ytococphklfbidaa
