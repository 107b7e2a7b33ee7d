/- The side of a link (linkup): New. -/
import Derived.Test.YtcocnfbhileheaaPorB
namespace Go.Proofs.Ytcocnfbhileheaa
open Go.RowKit

theorem newSide_any (m d : Nat) (w : World) (h1 : 1 ≤ m) (h2 : m ≤ 1099511627775) (h3 : 1 ≤ d) (h4 : d ≤ 1000) :
    Calls Try.prog 40 #[.int .i64 (m : Int), .int .i64 (d : Int)] w fun e w' => e = .returned (.tuple #[.pointer (some ⟨w.heap.size, 0, none⟩), .int .i64 0]) ∧ SideAt w' w.heap.size (newSide m d) ∧ Below w.heap.size w w' := by
  have hv : decide (1 ≤ (m : Int) ∧ (m : Int) ≤ 1099511627775) = true := by simp; omega
  go_enter Try.func40, Try.ntmps40
  go_wp2_with fail
  refine (incOk_any (m : Int) w).mono ?_
  rintro e w' ⟨rfl, rfl⟩
  rw [hv]
  go_wp2_with fail
  go_ret2
  exact ⟨rfl, ⟨0, heap_alloc_new w _⟩, by (repeat (first | (with_reducible exact Below.refl _ _) | (with_reducible refine Bw.alloc ?_ _) | (with_reducible refine Bw.drewN ?_ _) | (with_reducible refine Bw.drew ?_)))⟩
end Go.Proofs.Ytcocnfbhileheaa
