/- Credits in memory: the taker's Raise, Take, Left; a giver or taker that is held. -/
import Derived.Test.YtcocnfbhileheaaPorH
namespace Go.Proofs.Ytcocnfbhileheaa
open Go.RowKit

set_option maxRecDepth 100000 in
set_option maxHeartbeats 4000000 in
theorem raiseC_no (b o x : Nat) (l : Int) (w : World) (hx : w.heap[x]? = some (.cells #[.int .i64 l] 3)) (hl : l < 0 ∨ 1099511627776 < l) :
    Calls Try.prog 106 #[.pointer (some ⟨b, o, none⟩), .pointer (some ⟨x, 0, none⟩)] w fun e w' => ∃ m, e = .returned (.int .i64 m) ∧ Put0 w 2 m w' := by
  have c0 := blk_cell (i := 0) hx rfl
  clear hx
  have hl' : l < 0 ∨ (0 ≤ l ∧ 1099511627776 < l) := by omega
  clear hl
  rcases hl' with h1 | ⟨h1, h2⟩
  all_goals
    go_enter Try.func106, Try.ntmps106
    go_wp2_with fail
    go_ret
    exact ⟨_, rfl, rfl, Below.refl _ _⟩
set_option maxRecDepth 100000 in
set_option maxHeartbeats 4000000 in
theorem raiseC_yes (b o x t l : Nat) (w : World) (g1 : w.cell? ⟨b, o + 1, none⟩ = some (.int .i64 (t : Int))) (gf : ∀ j, w.frozen? ⟨b, j, none⟩ = false) (hx : w.heap[x]? = some (.cells #[.int .i64 (l : Int)] 3)) (hl : l ≤ 1099511627776) :
    Calls Try.prog 106 #[.pointer (some ⟨b, o, none⟩), .pointer (some ⟨x, 0, none⟩)] w fun e w' => ∃ m, e = .returned (.int .i64 m) ∧ Put1 b (o + 1) (.int .i64 ((max t l : Nat) : Int)) w 0 m w' := by
  have c0 := blk_cell (i := 0) hx rfl
  clear hx
  obtain ⟨mx, hmx⟩ : ∃ mx, max t l = mx := ⟨_, rfl⟩
  have hmi : max (t : Int) (l : Int) = (mx : Int) := by omega
  rw [hmx]
  have hl1 : (l : Int) ≤ 1099511627776 := by omega
  clear hmx
  go_enter Try.func106, Try.ntmps106
  go_wp2_with fail
  refine wp_region_still_tail 9 (by kernel_rfl) (by kernel_rfl) ?_
  simp only [List.take_succ_cons, List.take_zero, List.drop_succ_cons, List.drop_zero]
  change wpStill _ _ (World.drew _) (fun a' => wpList _ _ _ _ a' (World.drew _)) _ _
  repeat still_step
  refine wpStill_nil ?_
  go_wp2_with fail
  go_ret
  exact ⟨_, rfl, rfl, w.drew, below_drew w 1, rfl⟩
set_option maxRecDepth 100000 in
theorem takeC_yes (b o t l : Nat) (w : World) (g0 : w.cell? ⟨b, o, none⟩ = some (.int .i64 (t : Int))) (g1 : w.cell? ⟨b, o + 1, none⟩ = some (.int .i64 (l : Int))) (gf : ∀ j, w.frozen? ⟨b, j, none⟩ = false) (h3 : l ≤ 4000000000000) (hd : t < l) :
    Calls Try.prog 103 #[.pointer (some ⟨b, o, none⟩)] w fun e w' => ∃ m, e = .returned (.int .i64 m) ∧ Put1 b o (.int .i64 ((t : Int) + 1)) w 0 m w' := by
  have hle : decide (l ≤ t) = false := by simp; omega
  go_enter Try.func103, Try.ntmps103
  go_wp2_with fail
  go_quiet (fail)
  go_wp2_with fail
  go_ret
  exact ⟨_, rfl, rfl, _, below_drew w _, rfl⟩
set_option maxRecDepth 100000 in
theorem takeC_no (b o t l : Nat) (w : World) (g0 : w.cell? ⟨b, o, none⟩ = some (.int .i64 (t : Int))) (g1 : w.cell? ⟨b, o + 1, none⟩ = some (.int .i64 (l : Int))) (hd : ¬ t < l) :
    Calls Try.prog 103 #[.pointer (some ⟨b, o, none⟩)] w fun e w' => ∃ m, e = .returned (.int .i64 m) ∧ Put0 w 5 m w' := by
  have hle : decide (l ≤ t) = true := by simp; omega
  go_enter Try.func103, Try.ntmps103
  go_wp2_with fail
  go_quiet (fail)
  go_wp2_with fail
  go_ret
  exact ⟨_, rfl, rfl, below_drew w _⟩
set_option maxRecDepth 100000 in
theorem leftC_any (b o x t l : Nat) (w : World) (g0 : w.cell? ⟨b, o, none⟩ = some (.int .i64 (t : Int))) (g1 : w.cell? ⟨b, o + 1, none⟩ = some (.int .i64 (l : Int))) (hx : w.heap[x]? = some (.cells #[.int .i64 0] 3)) (ht : t ≤ 4000000000000) (hl : l ≤ 4000000000000) :
    Calls Try.prog 102 #[.pointer (some ⟨b, o, none⟩), .pointer (some ⟨x, 0, none⟩)] w fun e w' => ∃ m, e = .returned (.int .i64 m) ∧ w'.heap[x]? = some (.cells #[.int .i64 ((l : Int) - (t : Int))] 3) ∧ Fr (fun k => k = x) w w' := by
  have c0 := blk_cell (i := 0) hx rfl
  have cf := fun j => blk_free hx j
  have HX := Lib.hid hx
  clear hx
  go_enter Try.func102, Try.ntmps102
  go_wp2_with fail
  refine wp_region_still_tail 9 (by kernel_rfl) (by kernel_rfl) ?_
  simp only [List.take_succ_cons, List.take_zero, List.drop_succ_cons, List.drop_zero]
  change wpStill _ _ (World.drew _) (fun a' => wpList _ _ _ _ a' (World.drew _)) _ _
  repeat still_step
  refine wpStill_nil ?_
  go_wp2_with fail
  go_ret
  exact ⟨_, rfl, by (apply row_trans; focus (repeat (first | (with_reducible exact HX.out) | (with_reducible apply row_set) | (with_reducible apply row_drewN) | (with_reducible apply row_drew)))); rfl, by (repeat (first | (with_reducible exact Fr.refl _ _) | exact Or.inl rfl | (with_reducible refine Fr.setCell ?_ ?_ _) | (with_reducible refine Fr.drewN ?_ _) | (with_reducible refine Fr.drew ?_)))⟩
end Go.Proofs.Ytcocnfbhileheaa
