/- The reference's Push where it does not go. -/
import Derived.Test.YtococphklfbidaaKerR
namespace Go.Proofs.Ytococphklfbidaa
open Go.RowKit Go.Maps

set_option maxRecDepth 100000 in
set_option maxHeartbeats 8000000 in
theorem refPush_full (w : World) (now : Int) (last : Nat) (a : Option Addr) (m c : Nat) (hm : 10000 ≤ m) (t k n g : Int) (ho : okAt now t k n = true) :
    Calls Try.prog 22 #[.agg #[.int .i64 now, .int .i64 (last : Int), .slice a m c], .int .i64 t, .int .i64 k, .int .i64 n, .int .i64 g] w fun e w' =>
      e = .returned (.tuple #[.agg #[.int .i64 now, .int .i64 (last : Int), .slice a m c], .int .i64 0, .int .i64 5]) ∧ Below w.heap.size w w' := by
  obtain ⟨g1, g2, g3, g4, g5, g6⟩ := okAt_iff.1 ho
  clear ho
  go_enter Try.func22, Try.ntmps22
  go_wp2_with fail
  have hr := heap_alloc_at (w.alloc (.cells #[.int .i64 now, .int .i64 (last : Int), .slice a m c] 52)) (.cells #[.int .i64 now, .int .i64 (last : Int), .slice a m c] 52) (w.heap.size + 1) (by simp)
  obtain ⟨q0, q1, q2⟩ := refq_cells hr
  exact bodyPost_ret (v := .tuple #[.agg #[.int .i64 now, .int .i64 (last : Int), .slice a m c], .int .i64 0, .int .i64 5]) (by simp [results, Try.results22, go_sem, q0, q1, q2]) rfl ⟨rfl, by (repeat (first | (with_reducible exact Below.refl _ _) | (with_reducible refine Bw.alloc ?_ _) | (with_reducible refine Bw.drewN ?_ _) | (with_reducible refine Bw.drew ?_)))⟩
set_option maxRecDepth 100000 in
set_option maxHeartbeats 8000000 in
theorem refPush_range (w : World) (now : Int) (last : Nat) (a : Option Addr) (m c : Nat) (t k n g : Int) (ho : okAt now t k n = false) :
    Calls Try.prog 22 #[.agg #[.int .i64 now, .int .i64 (last : Int), .slice a m c], .int .i64 t, .int .i64 k, .int .i64 n, .int .i64 g] w fun e w' =>
      e = .returned (.tuple #[.agg #[.int .i64 now, .int .i64 (last : Int), .slice a m c], .int .i64 0, .int .i64 2]) ∧ Below w.heap.size w w' := by
  have ho' := okAt_false.1 ho
  have hc : t < now ∨ (now ≤ t ∧ 1073741824 < t) ∨ (now ≤ t ∧ t ≤ 1073741824 ∧ k < 0) ∨ (now ≤ t ∧ t ≤ 1073741824 ∧ 0 ≤ k ∧ 255 < k) ∨ (now ≤ t ∧ t ≤ 1073741824 ∧ 0 ≤ k ∧ k ≤ 255 ∧ n < 0) ∨ (now ≤ t ∧ t ≤ 1073741824 ∧ 0 ≤ k ∧ k ≤ 255 ∧ 0 ≤ n ∧ 16 ≤ n) := by omega
  clear ho ho'
  rcases hc with g1 | ⟨g1, g2⟩ | ⟨g1, g2, g3⟩ | ⟨g1, g2, g3, g4⟩ | ⟨g1, g2, g3, g4, g5⟩ | ⟨g1, g2, g3, g4, g5, g6⟩
  all_goals
    go_enter Try.func22, Try.ntmps22
    go_wp2_with fail
    have hr := heap_alloc_at (w.alloc (.cells #[.int .i64 now, .int .i64 (last : Int), .slice a m c] 52)) (.cells #[.int .i64 now, .int .i64 (last : Int), .slice a m c] 52) (w.heap.size + 1) (by simp)
    obtain ⟨q0, q1, q2⟩ := refq_cells hr
    exact bodyPost_ret (v := .tuple #[.agg #[.int .i64 now, .int .i64 (last : Int), .slice a m c], .int .i64 0, .int .i64 2]) (by simp [results, Try.results22, go_sem, q0, q1, q2]) rfl ⟨rfl, by (repeat (first | (with_reducible exact Below.refl _ _) | (with_reducible refine Bw.alloc ?_ _) | (with_reducible refine Bw.drewN ?_ _) | (with_reducible refine Bw.drew ?_)))⟩
end Go.Proofs.Ytococphklfbidaa
