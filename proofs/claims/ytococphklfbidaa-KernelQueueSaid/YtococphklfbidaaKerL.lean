/- Before, the reference's Before, and the key of KernelBefore. -/
import Derived.Test.YtococphklfbidaaKerK
namespace Go.Proofs.Ytococphklfbidaa
open Go.RowKit Go.Maps

def ltB (a b : Ev) : Bool := decide (Lt a b)
theorem ltB_iff {a b : Ev} : ltB a b = true ↔ Lt a b := by unfold ltB; simp
theorem ltB_false {a b : Ev} : ltB a b = false ↔ ¬ Lt a b := by unfold ltB; simp
theorem before_any (a b : Ev) (w : World) : Calls Try.prog 16 #[.agg #[.int .i64 a.at', .int .i64 a.kind, .int .i64 a.node, .int .i64 a.number, .int .i64 a.arg], .agg #[.int .i64 b.at', .int .i64 b.kind, .int .i64 b.node, .int .i64 b.number, .int .i64 b.arg]] w fun e w' => e = .returned (.bool (ltB a b)) ∧ Below w.heap.size w w' := by
  have hc : ltB a b = decide (cmpE a b < 0) := by
    by_cases h : Lt a b
    · rw [ltB_iff.2 h, cmpE_neg h]; rfl
    · have := cmpE_nonneg h
      rw [ltB_false.2 h]; symm; simpa using this
  have HC := Lib.hid hc
  clear hc
  go_enter Try.func16, Try.ntmps16
  go_wp2_with fail
  refine (compareE_any a b _).mono ?_
  rintro e w1 ⟨rfl, hb⟩
  have HB := Lib.hid ((show Below w.heap.size w _ by (repeat (first | (with_reducible exact Below.refl _ _) | (with_reducible refine Bw.alloc ?_ _) | (with_reducible refine Bw.drewN ?_ _) | (with_reducible refine Bw.drew ?_)))).trans (hb.mono (by simp; omega))); clear hb
  go_wp2_with fail
  go_ret
  exact ⟨by rw [HC.out]; rfl, HB.out⟩
theorem refBefore_any (a b : Ev) (w : World) : Calls Try.prog 19 #[.agg #[.int .i64 a.at', .int .i64 a.kind, .int .i64 a.node, .int .i64 a.number, .int .i64 a.arg], .agg #[.int .i64 b.at', .int .i64 b.kind, .int .i64 b.node, .int .i64 b.number, .int .i64 b.arg]] w fun e w' => e = .returned (.bool (ltB a b)) ∧ Below w.heap.size w w' := by
  have hc : (a.at' < b.at' ∧ ltB a b = true) ∨ (b.at' < a.at' ∧ ltB a b = false) ∨ (a.at' = b.at' ∧ a.kind < b.kind ∧ ltB a b = true) ∨ (a.at' = b.at' ∧ b.kind < a.kind ∧ ltB a b = false) ∨ (a.at' = b.at' ∧ a.kind = b.kind ∧ a.node < b.node ∧ ltB a b = true) ∨
      (a.at' = b.at' ∧ a.kind = b.kind ∧ b.node < a.node ∧ ltB a b = false) ∨ (a.at' = b.at' ∧ a.kind = b.kind ∧ a.node = b.node ∧ a.number < b.number ∧ ltB a b = true) ∨ (a.at' = b.at' ∧ a.kind = b.kind ∧ a.node = b.node ∧ b.number ≤ a.number ∧ ltB a b = false) := by
    rcases Int.lt_trichotomy a.at' b.at' with g1 | g1 | g1
    · exact .inl ⟨g1, ltB_iff.2 (.inl g1)⟩
    · rcases Int.lt_trichotomy a.kind b.kind with g2 | g2 | g2
      · exact .inr (.inr (.inl ⟨g1, g2, ltB_iff.2 (.inr ⟨g1, .inl g2⟩)⟩))
      · rcases Int.lt_trichotomy a.node b.node with g3 | g3 | g3
        · exact .inr (.inr (.inr (.inr (.inl ⟨g1, g2, g3, ltB_iff.2 (.inr ⟨g1, .inr ⟨g2, .inl g3⟩⟩)⟩))))
        · rcases Int.lt_or_le a.number b.number with g4 | g4
          · exact .inr (.inr (.inr (.inr (.inr (.inr (.inl ⟨g1, g2, g3, g4, ltB_iff.2 (.inr ⟨g1, .inr ⟨g2, .inr ⟨g3, g4⟩⟩⟩)⟩))))))
          · exact .inr (.inr (.inr (.inr (.inr (.inr (.inr ⟨g1, g2, g3, g4, ltB_false.2 (by unfold Lt; omega)⟩))))))
        · exact .inr (.inr (.inr (.inr (.inr (.inl ⟨g1, g2, g3, ltB_false.2 (by unfold Lt; omega)⟩)))))
      · exact .inr (.inr (.inr (.inl ⟨g1, g2, ltB_false.2 (by unfold Lt; omega)⟩)))
    · exact .inr (.inl ⟨g1, ltB_false.2 (by unfold Lt; omega)⟩)
  rcases hc with ⟨g1, h1⟩ | ⟨g1, h1⟩ | ⟨g1, g2, h1⟩ | ⟨g1, g2, h1⟩ | ⟨g1, g2, g3, h1⟩ | ⟨g1, g2, g3, h1⟩ | ⟨g1, g2, g3, g4, h1⟩ | ⟨g1, g2, g3, g4, h1⟩
  case' inl => have t1 : (a.at' != b.at') = true := by (simp; omega)
  case' inr.inl => have t1 : (a.at' != b.at') = true := by (simp; omega)
  case' inr.inr.inl => have t1 : (a.kind != b.kind) = true := by (simp; omega)
  case' inr.inr.inr.inl => have t1 : (a.kind != b.kind) = true := by (simp; omega)
  case' inr.inr.inr.inr.inl => have t1 : (a.node != b.node) = true := by (simp; omega)
  case' inr.inr.inr.inr.inr.inl => have t1 : (a.node != b.node) = true := by (simp; omega)
  all_goals
    have H1 := Lib.hid h1
    clear h1
    go_enter Try.func19, Try.ntmps19
    go_wp2_with fail
    go_ret
    exact ⟨by rw [H1.out]; first | rfl | (congr 2; simp; omega), by (repeat (first | (with_reducible exact Below.refl _ _) | (with_reducible refine Bw.alloc ?_ _) | (with_reducible refine Bw.drewN ?_ _) | (with_reducible refine Bw.drew ?_)))⟩
theorem key_any (a : Ev) (w : World) : Calls Try.prog 18 #[.agg #[.int .i64 a.at', .int .i64 a.kind, .int .i64 a.node, .int .i64 a.number, .int .i64 a.arg]] w fun e w' => e = .returned (.agg #[.int .i64 a.at', .int .i64 a.kind, .int .i64 a.node, .int .i64 a.number, .int .i64 0]) ∧ Below w.heap.size w w' := by
  go_enter Try.func18, Try.ntmps18
  go_wp2_with fail
  exact bodyPost_ret (v := .agg #[.int .i64 a.at', .int .i64 a.kind, .int .i64 a.node, .int .i64 a.number, .int .i64 0]) (by simp [results, Try.results18, go_sem]) rfl ⟨rfl, by (repeat (first | (with_reducible exact Below.refl _ _) | (with_reducible refine Bw.alloc ?_ _) | (with_reducible refine Bw.drewN ?_ _) | (with_reducible refine Bw.drew ?_)))⟩
end Go.Proofs.Ytococphklfbidaa
