/- The reference's validity of a list of faults. -/
import Derived.Test.YtekojekgjfefkaaCabI
namespace Go.Proofs.Ytekojekgjfefkaa
open Go.RowKit

/-- the place of the fault before i, or -1 -/
def prevAt (fs : List Flt) (i : Nat) : Int := if i = 0 then -1 else match fs[i - 1]? with | some f => f.at' | none => -1
set_option maxHeartbeats 16000000 in
set_option maxRecDepth 100000 in
theorem valid_any (w : World) (Z : BS) (v : Value) (fs : List Flt) (h : RdS eFlt w Z v fs) (hl : fs.length ≤ 1000000) :
    Calls Try.prog 13 #[v] w fun e w' => e = .returned (.bool (okF (-1) fs)) ∧ Below w.heap.size w w' := by
  obtain ⟨a, c, rfl, hc1, hc2⟩ := h.shape
  have H := Lib.hid h
  clear h
  go_enter Try.func13, Try.ntmps13
  go_wp2_with fail
  go_loopw [3] (fun i wr => ∃ j : Nat, j ≤ fs.length ∧ i = .int .i64 j ∧ Hid (okF (prevAt fs j) (fs.drop j) = okF (-1) fs ∧ -1 ≤ prevAt fs j) ∧ Hid (Below w.heap.size w wr)) (fun i _ => fs.length - (intOf i).toNat)
  case atStart => exact ⟨0, by omega, rfl, Lib.hid ⟨rfl, Int.le_refl _⟩, Lib.hid (Below.refl _ _)⟩
  case round =>
    obtain ⟨j, hj, rfl, HP, HB⟩ := hrel
    have hz := HB.out.size
    by_cases hlt : j < fs.length
    · obtain ⟨f, hf⟩ : ∃ f, fs[j]? = some f := ⟨fs[j], List.getElem?_eq_getElem hlt⟩
      obtain ⟨b, off, rfl, c0, c1, c2, w0, w1, w2⟩ := flt_at (H.out.below HB.out) hf
      have hd : fs.drop j = f :: fs.drop (j + 1) := by
        have := List.getElem?_eq_getElem hlt
        rw [this] at hf
        obtain rfl := Option.some.inj hf
        exact List.drop_eq_getElem_cons hlt
      have hn : prevAt fs (j + 1) = f.at' := by unfold prevAt; rw [if_neg (by omega), Nat.add_sub_cancel, hf]
      have HOK : Hid (okF (-1) fs = (decide (prevAt fs j < f.at') && decide (1 ≤ f.kind) && decide (f.kind ≤ 3) && decide (0 ≤ f.arg) && okF f.at' (fs.drop (j + 1)))) := Lib.hid (by rw [← HP.out.1, hd]; rfl)
      have HN := Lib.hid hn
      have hpv : j = 0 → prevAt fs j = -1 := fun e => by unfold prevAt; rw [if_pos e]
      have hge := HP.out.2
      obtain ⟨g, hg⟩ : ∃ g : Flt, 0 < j → fs[j - 1]? = some g ∧ prevAt fs j = g.at' := by
        by_cases h0 : 0 < j
        · exact ⟨fs[j - 1], fun _ => ⟨List.getElem?_eq_getElem (by omega), by unfold prevAt; rw [if_neg (by omega), List.getElem?_eq_getElem (by omega)]⟩⟩
        · exact ⟨f, fun h => absurd h h0⟩
      clear hn hd HP
      have HG := Lib.hid hg; have HPV := Lib.hid hpv
      clear hg hpv hf
      have hcase : f.at' < 0 ∨ (0 ≤ f.at' ∧ f.kind < 1) ∨ (0 ≤ f.at' ∧ 1 ≤ f.kind ∧ 3 < f.kind) ∨ (0 ≤ f.at' ∧ 1 ≤ f.kind ∧ f.kind ≤ 3 ∧ f.arg < 0) ∨ (0 ≤ f.at' ∧ 1 ≤ f.kind ∧ f.kind ≤ 3 ∧ 0 ≤ f.arg ∧ j < 1) ∨ (0 ≤ f.at' ∧ 1 ≤ f.kind ∧ f.kind ≤ 3 ∧ 0 ≤ f.arg ∧ 0 < j ∧ f.at' ≤ g.at') ∨ (0 ≤ f.at' ∧ 1 ≤ f.kind ∧ f.kind ≤ 3 ∧ 0 ≤ f.arg ∧ 0 < j ∧ g.at' < f.at') := by omega
      rcases hcase with q1 | ⟨q1, q2⟩ | ⟨q1, q2, q3⟩ | ⟨q1, q2, q3, q4⟩ | ⟨q1, q2, q3, q4, q5⟩ | ⟨q1, q2, q3, q4, q5, q6⟩ | ⟨q1, q2, q3, q4, q5, q6⟩
      · skip
        have t0 : decide (f.at' < 0) = true := by simp <;> omega
        have HBAD : Hid (okF (-1) fs = false) := Lib.hid (by
          rw [HOK.out]
          have : ¬ prevAt fs j < f.at' := by omega
          simp [this])
        go_wp2_with fail
        go_quiet (fail)
        go_wp2_with fail
        go_ret
        exact ⟨by rw [HBAD.out]; rfl, HB.out.trans ((below_drew _ _).mono hz)⟩
      · skip
        have t0 : decide (f.at' < 0) = false := by simp <;> omega
        have t1 : decide (f.kind < 1) = true := by simp <;> omega
        have HBAD : Hid (okF (-1) fs = false) := Lib.hid (by
          rw [HOK.out]
          have : ¬ 1 ≤ f.kind := by omega
          simp [this])
        go_wp2_with fail
        go_quiet (fail)
        go_wp2_with fail
        go_ret
        exact ⟨by rw [HBAD.out]; rfl, HB.out.trans ((below_drew _ _).mono hz)⟩
      · skip
        have t0 : decide (f.at' < 0) = false := by simp <;> omega
        have t1 : decide (f.kind < 1) = false := by simp <;> omega
        have t2 : decide (3 < f.kind) = true := by simp <;> omega
        have HBAD : Hid (okF (-1) fs = false) := Lib.hid (by
          rw [HOK.out]
          have : ¬ f.kind ≤ 3 := by omega
          simp [this])
        go_wp2_with fail
        go_quiet (fail)
        go_wp2_with fail
        go_ret
        exact ⟨by rw [HBAD.out]; rfl, HB.out.trans ((below_drew _ _).mono hz)⟩
      · skip
        have t0 : decide (f.at' < 0) = false := by simp <;> omega
        have t1 : decide (f.kind < 1) = false := by simp <;> omega
        have t2 : decide (3 < f.kind) = false := by simp <;> omega
        have t3 : decide (f.arg < 0) = true := by simp <;> omega
        have HBAD : Hid (okF (-1) fs = false) := Lib.hid (by
          rw [HOK.out]
          have : ¬ 0 ≤ f.arg := by omega
          simp [this])
        go_wp2_with fail
        go_quiet (fail)
        go_wp2_with fail
        go_ret
        exact ⟨by rw [HBAD.out]; rfl, HB.out.trans ((below_drew _ _).mono hz)⟩
      · have hp0 : prevAt fs j < f.at' := by rw [HPV.out (by omega)]; omega
        have HP0 := Lib.hid hp0; clear hp0
        have t0 : decide (f.at' < 0) = false := by simp <;> omega
        have t1 : decide (f.kind < 1) = false := by simp <;> omega
        have t2 : decide (3 < f.kind) = false := by simp <;> omega
        have t3 : decide (f.arg < 0) = false := by simp <;> omega
        have t4 : decide (0 < (j : Int)) = false := by simp <;> omega
        have t5 : decide (0 < j) = false := by simp <;> omega
        have HGOOD : Hid (okF (prevAt fs (j + 1)) (fs.drop (j + 1)) = okF (-1) fs ∧ -1 ≤ prevAt fs (j + 1)) := Lib.hid (by
          rw [HN.out, HOK.out]
          refine ⟨?_, by omega⟩
          have := HP0.out
          simp [this, q2, q3, q4])
        go_wp2_with fail
        go_quiet (fail)
        go_wp2_with fail
        go_roundw
        case rel => exact ⟨j + 1, by omega, by go_num, HGOOD, Lib.hid (HB.out.trans ((below_drew _ _).mono hz))⟩
        case measure => simp [intOf]; omega
      · obtain ⟨g1, g2⟩ := HG.out q5
        obtain ⟨b', off', e', d0, _⟩ := flt_at (H.out.below HB.out) g1
        obtain ⟨rfl, rfl⟩ : b = b' ∧ off = off' := by simpa using e'
        have G2 := Lib.hid g2
        have hjm : IntKind.i64.wrap ((j : Int) - 1) = ((j - 1 : Nat) : Int) := by rw [IntWalk.i64_in _ (by omega)]; omega
        clear g1 g2 e'
        have t0 : decide (f.at' < 0) = false := by simp <;> omega
        have t1 : decide (f.kind < 1) = false := by simp <;> omega
        have t2 : decide (3 < f.kind) = false := by simp <;> omega
        have t3 : decide (f.arg < 0) = false := by simp <;> omega
        have t4 : decide (0 < (j : Int)) = true := by simp <;> omega
        have t5 : decide (0 < j) = true := by simp <;> omega
        have t6 : decide (f.at' ≤ g.at') = true := by simp <;> omega
        have HBAD : Hid (okF (-1) fs = false) := Lib.hid (by
          rw [HOK.out]
          have : ¬ prevAt fs j < f.at' := by rw [G2.out]; omega
          simp [this])
        go_wp2_with fail
        go_quiet (fail)
        go_wp2_with fail
        go_ret
        exact ⟨by rw [HBAD.out]; rfl, HB.out.trans ((below_drew _ _).mono hz)⟩
      · obtain ⟨g1, g2⟩ := HG.out q5
        obtain ⟨b', off', e', d0, _⟩ := flt_at (H.out.below HB.out) g1
        obtain ⟨rfl, rfl⟩ : b = b' ∧ off = off' := by simpa using e'
        have G2 := Lib.hid g2
        have hjm : IntKind.i64.wrap ((j : Int) - 1) = ((j - 1 : Nat) : Int) := by rw [IntWalk.i64_in _ (by omega)]; omega
        clear g1 g2 e'
        have t0 : decide (f.at' < 0) = false := by simp <;> omega
        have t1 : decide (f.kind < 1) = false := by simp <;> omega
        have t2 : decide (3 < f.kind) = false := by simp <;> omega
        have t3 : decide (f.arg < 0) = false := by simp <;> omega
        have t4 : decide (0 < (j : Int)) = true := by simp <;> omega
        have t5 : decide (0 < j) = true := by simp <;> omega
        have t6 : decide (f.at' ≤ g.at') = false := by simp <;> omega
        have HGOOD : Hid (okF (prevAt fs (j + 1)) (fs.drop (j + 1)) = okF (-1) fs ∧ -1 ≤ prevAt fs (j + 1)) := Lib.hid (by
          rw [HN.out, HOK.out]
          refine ⟨?_, by omega⟩
          have : prevAt fs j < f.at' := by rw [G2.out]; omega
          simp [this, q2, q3, q4])
        go_wp2_with fail
        go_quiet (fail)
        go_wp2_with fail
        go_roundw
        case rel => exact ⟨j + 1, by omega, by go_num, HGOOD, Lib.hid (HB.out.trans ((below_drew _ _).mono hz))⟩
        case measure => simp [intOf]; omega
    · have HP2 := Lib.hid (show okF (-1) fs = true by rw [← HP.out.1, List.drop_of_length_le (by omega)]; rfl)
      clear HP
      go_wp2_with fail
      go_ret
      exact ⟨by rw [HP2.out]; rfl, HB.out⟩
end Go.Proofs.Ytekojekgjfefkaa
