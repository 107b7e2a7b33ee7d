/- The walk of RetrySends, for a valid window and timeout. -/
import Derived.Test.YtgpeekicpkgpmaaRetS
namespace Go.Proofs.Ytgpeekicpkgpmaa
open Go.RowKit

/-- what the loop keeps: both senders are the same plain sender -/
def Both (W : World) (p q wn N : Nat) (w : World) : Prop := ∃ s, Two W p q s s w ∧ s.Ok ∧ s.total ≤ N ∧ s.window = wn
theorem offer_window (s : Snd) (d : Bytes) : (s.offer d).2.window = s.window := by
  unfold Snd.offer; split
  · rfl
  · split <;> rfl
theorem tick_window (s : Snd) : s.tick.2.window = s.window := by
  unfold Snd.tick; split
  · rfl
  · split
    · split <;> rfl
    · rfl
theorem accept_window (s : Snd) (n : Int) : (s.accept n).2.window = s.window := by
  unfold Snd.accept; split
  · rfl
  · unfold Snd.drop; split <;> rfl
theorem nak_window (s : Snd) (n : Int) : (s.nak n).2.window = s.window := by
  have := accept_window s n
  unfold Snd.nak; dsimp only; split
  · exact this
  · exact this
set_option maxHeartbeats 8000000 in
set_option maxRecDepth 100000 in
theorem sends_walk (W : World) (wn tn : Nat) (v : Value) (ops : List OpD) (h : Ops W v ops) (h1 : 1 ≤ wn) (h2 : wn ≤ 128) (h3 : 1 ≤ tn) (h4 : tn ≤ 1000) :
    Calls Try.prog 5 #[.int .i64 (wn : Int), .int .i64 (tn : Int), v] W fun e w' => e = .returned (.bool true) ∧ Below W.heap.size W w' := by
  obtain ⟨a, cap, rfl, hm, hx⟩ := h.cases
  have HX := Lib.hid hx
  have HO := Lib.hid h
  clear h hx
  unfold maxLen at hm
  go_enter Try.func5, Try.ntmps5
  go_wp2_with fail
  refine (awake_any W).mono ?_
  rintro e y1 ⟨rfl, hb⟩
  have HB1 := Lib.hid hb; have HO1 := Lib.hid (HO.out.below hb); have hz1 := hb.size; clear hb
  go_wp2_with fail
  refine (great_any _ ops y1 HO1.out).mono ?_
  rintro e y2 ⟨rfl, hb⟩
  have HB2 := Lib.hid (HB1.out.trans (hb.mono hz1)); have hz2 := hb.size; clear hb HO1 HB1
  by_cases hg : greatB ops = true
  · go_wp2_with fail
    go_ret
    exact ⟨rfl, HB2.out⟩
  · have hg' : greatB ops = false := by simpa using hg
    have hlen : ops.length ≤ 400 := by
      simp only [greatB, Bool.or_eq_false_iff, decide_eq_false_iff_not] at hg'
      omega
    clear hg
    go_wp2_with fail
    refine (new_o wn tn y2 h1 h2 h3 h4).mono ?_
    rintro e y3 ⟨rfl, hs, hb⟩
    have HS3 := Lib.hid hs; have HB3 := Lib.hid (HB2.out.trans (hb.mono (Nat.le_trans hz1 hz2))); have hz3 := hs.plt; clear hs hb HB2
    go_wp2_with fail
    go_loopw [61] (fun i wr => ∃ j : Nat, j ≤ ops.length ∧ i = .int .i64 j ∧ Hid (Both W y2.heap.size y3.heap.size wn j wr)) (fun i _ => ops.length - (intOf i).toNat)
    case atStart =>
      exact ⟨0, by omega, rfl, Lib.hid ⟨newSnd wn tn, two_start HB3.out (by omega) HS3.out, newSnd_ok h1 h2 h3 h4, by simp [Snd.total, newSnd], rfl⟩⟩
    case round =>
      clear HS3 HB3
      obtain ⟨j, hj, rfl, HM⟩ := hrel
      obtain ⟨s, hmid, hok, htot, hwin⟩ := HM.out
      have hz := hmid.below.size
      by_cases hlt : j < ops.length
      · obtain ⟨o, ho⟩ : ∃ o, ops[j]? = some o := ⟨ops[j], List.getElem?_eq_getElem hlt⟩
        obtain ⟨b, off, u, rfl, c0, c1, c2, hu, hwk, hwn⟩ := HX.out j o ho
        have k0 := cell_later hmid.below c0; have k1 := cell_later hmid.below c1; have k2 := cell_later hmid.below c2
        have HU := Lib.hid hu
        obtain ⟨ua, ucap, rfl⟩ := hu.slice
        have HMID := Lib.hid (hmid.next (.cells #[.int .i64 o.kind, .int .i64 o.n, .slice ua o.data.length ucap] 41))
        have HOK := Lib.hid hok
        have HT := Lib.hid (show s.total < 1000000000000 by omega)
        have HTOT := Lib.hid htot; have HW := Lib.hid hwin
        clear c0 c1 c2 hu ho hmid hok htot hwin HM
        rcases (show o.kind = 0 ∨ o.kind = 1 ∨ o.kind = 2 ∨ o.kind = 3 ∨ (o.kind ≠ 0 ∧ o.kind ≠ 1 ∧ o.kind ≠ 2 ∧ o.kind ≠ 3) by omega) with hk | hk | hk | hk | ⟨hk0, hk1, hk2, hk3⟩
        case' inl =>
          rw [hk] at HMID
          go_wp2_with fail
          have kb := blk_cell (i := 2) HMID.out.blk rfl
          go_region_law (first
            | (go_simp; go_at_call 13; refine (mid_offer (HMID.out.own (below_drew _ _)) HOK.out _ o.data (by exact (HU.out.below HMID.out.below).drewN _)).mono ?_; rintro e w1 ⟨rfl, hm1⟩; have kb1 := blk_cell (i := 2) hm1.blk rfl; have HM1 := Lib.hid hm1; clear hm1)
            | (go_simp; go_at_call 19; refine (mid_roffer HM1.out HOK.out HT.out _ o.data (by exact HU.out.below HM1.out.below)).mono ?_; rintro e w2 ⟨rfl, hm2⟩; have HM2 := Lib.hid hm2; clear hm2))
          all_goals have HOK2 := Lib.hid (offer_ok HOK.out o.data)
          all_goals have HT2 := Lib.hid (show (s.offer o.data).2.total ≤ j + 1 by have := offer_total s o.data; have := HTOT.out; omega)
          all_goals have HW2 := Lib.hid ((offer_window s o.data).trans HW.out)
          all_goals generalize (s.offer o.data).2 = s2 at *
          all_goals clear kb
          all_goals (go_wp2_with fail; refine (mid_total HM2.out HOK2.out (by have := HT2.out; omega)).mono ?_; rintro e w3 ⟨rfl, hm3⟩; obtain ⟨ka, kc, hq3⟩ := hm3.ref; obtain ⟨_, _, d2, d3, d4, _⟩ := rs_cells hq3; have hkw : s2.kept.length ≤ wn := (by have := HOK2.out.kept; have := HW2.out; omega); have ht2 : s2.acked + s2.kept.length ≤ j + 1 := HT2.out; have hws : IntKind.i64.wrap ((s2.acked : Int) + (s2.kept.length : Int) - (s2.acked : Int)) = (s2.kept.length : Int) := (by rw [show (s2.acked : Int) + (s2.kept.length : Int) - (s2.acked : Int) = (s2.kept.length : Int) by omega]; exact IntWalk.i64_in _ (by omega)); have HM3 := Lib.hid hm3; clear hm3 hq3; go_wp2_with fail; go_quiet ((go_at_call 14; exact Calls.qs (mid_kept (HM3.out.own (below_drew _ _))))); go_wp2_with fail; go_roundw; (case rel => exact ⟨j + 1, by omega, by go_num, Lib.hid ⟨s2, (HM3.out.own (below_drew _ _)).both, HOK2.out, HT2.out, HW2.out⟩⟩); (case measure => simp [intOf]; omega))
        case' inr.inl =>
          rw [hk] at HMID
          go_wp2_with fail
          refine (mid_ticks HMID.out HOK.out HT.out HOK.out HT.out).mono ?_
          rintro e w1 ⟨v1, rfl, hy1, hcall⟩
          have HY1 := Lib.hid hy1; have HCALL := Lib.hid hcall; clear hy1 hcall
          go_wp2_with fail
          refine HCALL.out.mono ?_
          rintro e w2 ⟨v2, rfl, hy2, hy1, hm2⟩
          have HM2 := Lib.hid hm2
          have hst1 := run_str8 Try.underlying28 Try.underlying5 Try.underlying9 hy1
          have hst2 := run_str8 Try.underlying28 Try.underlying5 Try.underlying9 hy2
          have HOK2 := Lib.hid (tick_ok HOK.out)
          have HT2 := Lib.hid (show s.tick.2.total ≤ j + 1 by have := tick_total s; have := HTOT.out; omega)
          have HW2 := Lib.hid ((tick_window s).trans HW.out)
          clear hy1 hy2 hm2
          generalize s.tick.2 = s2 at *
          (go_wp2_with fail; refine (mid_total HM2.out HOK2.out (by have := HT2.out; omega)).mono ?_; rintro e w3 ⟨rfl, hm3⟩; obtain ⟨ka, kc, hq3⟩ := hm3.ref; obtain ⟨_, _, d2, d3, d4, _⟩ := rs_cells hq3; have hkw : s2.kept.length ≤ wn := (by have := HOK2.out.kept; have := HW2.out; omega); have ht2 : s2.acked + s2.kept.length ≤ j + 1 := HT2.out; have hws : IntKind.i64.wrap ((s2.acked : Int) + (s2.kept.length : Int) - (s2.acked : Int)) = (s2.kept.length : Int) := (by rw [show (s2.acked : Int) + (s2.kept.length : Int) - (s2.acked : Int) = (s2.kept.length : Int) by omega]; exact IntWalk.i64_in _ (by omega)); have HM3 := Lib.hid hm3; clear hm3 hq3; go_wp2_with fail; go_quiet ((go_at_call 14; exact Calls.qs (mid_kept (HM3.out.own (below_drew _ _))))); go_wp2_with fail; go_roundw; (case rel => exact ⟨j + 1, by omega, by go_num, Lib.hid ⟨s2, (HM3.out.own (below_drew _ _)).both, HOK2.out, HT2.out, HW2.out⟩⟩); (case measure => simp [intOf]; omega))
        case' inr.inr.inl =>
          rw [hk] at HMID
          go_wp2_with fail
          have kb := blk_cell (i := 1) HMID.out.blk rfl
          go_region_law (first
            | (go_simp; go_at_call 17; refine (mid_ack (HMID.out.own (below_drew _ _)) HOK.out HT.out o.n).mono ?_; rintro e w1 ⟨rfl, hm1⟩; have kb1 := blk_cell (i := 1) hm1.blk rfl; have HM1 := Lib.hid hm1; clear hm1)
            | (go_simp; go_at_call 21; refine (mid_rack HM1.out HOK.out HT.out o.n).mono ?_; rintro e w2 ⟨rfl, hm2⟩; have HM2 := Lib.hid hm2; clear hm2))
          all_goals have HOK2 := Lib.hid (ack_ok HOK.out o.n)
          all_goals have HT2 := Lib.hid (show (s.ack o.n).2.total ≤ j + 1 by have := accept_total HOK.out o.n; have := HTOT.out; simp only [Snd.ack]; omega)
          all_goals have HW2 := Lib.hid (show (s.ack o.n).2.window = wn from (accept_window s o.n).trans HW.out)
          all_goals generalize (s.ack o.n).2 = s2 at *
          all_goals clear kb
          all_goals (go_wp2_with fail; refine (mid_total HM2.out HOK2.out (by have := HT2.out; omega)).mono ?_; rintro e w3 ⟨rfl, hm3⟩; obtain ⟨ka, kc, hq3⟩ := hm3.ref; obtain ⟨_, _, d2, d3, d4, _⟩ := rs_cells hq3; have hkw : s2.kept.length ≤ wn := (by have := HOK2.out.kept; have := HW2.out; omega); have ht2 : s2.acked + s2.kept.length ≤ j + 1 := HT2.out; have hws : IntKind.i64.wrap ((s2.acked : Int) + (s2.kept.length : Int) - (s2.acked : Int)) = (s2.kept.length : Int) := (by rw [show (s2.acked : Int) + (s2.kept.length : Int) - (s2.acked : Int) = (s2.kept.length : Int) by omega]; exact IntWalk.i64_in _ (by omega)); have HM3 := Lib.hid hm3; clear hm3 hq3; go_wp2_with fail; go_quiet ((go_at_call 14; exact Calls.qs (mid_kept (HM3.out.own (below_drew _ _))))); go_wp2_with fail; go_roundw; (case rel => exact ⟨j + 1, by omega, by go_num, Lib.hid ⟨s2, (HM3.out.own (below_drew _ _)).both, HOK2.out, HT2.out, HW2.out⟩⟩); (case measure => simp [intOf]; omega))
        case' inr.inr.inr.inl =>
          rw [hk] at HMID
          go_wp2_with fail
          have kb := blk_cell (i := 1) HMID.out.blk rfl
          go_region_law (first
            | (go_simp; go_at_call 16; refine (mid_nak (HMID.out.own (below_drew _ _)) HOK.out HT.out o.n).mono ?_; rintro e w1 ⟨rfl, hm1⟩; have kb1 := blk_cell (i := 1) hm1.blk rfl; have HM1 := Lib.hid hm1; clear hm1)
            | (go_simp; go_at_call 22; refine (mid_rnak HM1.out HOK.out HT.out o.n).mono ?_; rintro e w2 ⟨rfl, hm2⟩; have HM2 := Lib.hid hm2; clear hm2))
          all_goals have HOK2 := Lib.hid (nak_ok HOK.out o.n)
          all_goals have HT2 := Lib.hid (show (s.nak o.n).2.total ≤ j + 1 by have := nak_total HOK.out o.n; have := HTOT.out; omega)
          all_goals have HW2 := Lib.hid ((nak_window s o.n).trans HW.out)
          all_goals generalize (s.nak o.n).2 = s2 at *
          all_goals clear kb
          all_goals (go_wp2_with fail; refine (mid_total HM2.out HOK2.out (by have := HT2.out; omega)).mono ?_; rintro e w3 ⟨rfl, hm3⟩; obtain ⟨ka, kc, hq3⟩ := hm3.ref; obtain ⟨_, _, d2, d3, d4, _⟩ := rs_cells hq3; have hkw : s2.kept.length ≤ wn := (by have := HOK2.out.kept; have := HW2.out; omega); have ht2 : s2.acked + s2.kept.length ≤ j + 1 := HT2.out; have hws : IntKind.i64.wrap ((s2.acked : Int) + (s2.kept.length : Int) - (s2.acked : Int)) = (s2.kept.length : Int) := (by rw [show (s2.acked : Int) + (s2.kept.length : Int) - (s2.acked : Int) = (s2.kept.length : Int) by omega]; exact IntWalk.i64_in _ (by omega)); have HM3 := Lib.hid hm3; clear hm3 hq3; go_wp2_with fail; go_quiet ((go_at_call 14; exact Calls.qs (mid_kept (HM3.out.own (below_drew _ _))))); go_wp2_with fail; go_roundw; (case rel => exact ⟨j + 1, by omega, by go_num, Lib.hid ⟨s2, (HM3.out.own (below_drew _ _)).both, HOK2.out, HT2.out, HW2.out⟩⟩); (case measure => simp [intOf]; omega))
        case' inr.inr.inr.inr =>
          have HM2 := HMID
          have HOK2 := HOK
          have HT2 := Lib.hid (show s.total ≤ j + 1 by have := HTOT.out; omega)
          have HW2 := HW
          generalize s = s2 at *
          (go_wp2_with fail; refine (mid_total HM2.out HOK2.out (by have := HT2.out; omega)).mono ?_; rintro e w3 ⟨rfl, hm3⟩; obtain ⟨ka, kc, hq3⟩ := hm3.ref; obtain ⟨_, _, d2, d3, d4, _⟩ := rs_cells hq3; have hkw : s2.kept.length ≤ wn := (by have := HOK2.out.kept; have := HW2.out; omega); have ht2 : s2.acked + s2.kept.length ≤ j + 1 := HT2.out; have hws : IntKind.i64.wrap ((s2.acked : Int) + (s2.kept.length : Int) - (s2.acked : Int)) = (s2.kept.length : Int) := (by rw [show (s2.acked : Int) + (s2.kept.length : Int) - (s2.acked : Int) = (s2.kept.length : Int) by omega]; exact IntWalk.i64_in _ (by omega)); have HM3 := Lib.hid hm3; clear hm3 hq3; go_wp2_with fail; go_quiet ((go_at_call 14; exact Calls.qs (mid_kept (HM3.out.own (below_drew _ _))))); go_wp2_with fail; go_roundw; (case rel => exact ⟨j + 1, by omega, by go_num, Lib.hid ⟨s2, (HM3.out.own (below_drew _ _)).both, HOK2.out, HT2.out, HW2.out⟩⟩); (case measure => simp [intOf]; omega))
      · obtain rfl : j = ops.length := by omega
        have HE := Lib.hid hmid.below
        clear hmid hok htot hwin
        go_wp2_with fail
        go_ret
        exact ⟨rfl, HE.out⟩
end Go.Proofs.Ytgpeekicpkgpmaa
