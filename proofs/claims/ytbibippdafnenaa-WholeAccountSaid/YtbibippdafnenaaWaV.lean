/- A ledger's New, and what a booking is tested for. -/
import Derived.Test.YtbibippdafnenaaWaA
import Derived.Test.YtbibippdafnenaaMgB
import Derived.Test.YtbibippdafnenaaRgl
import Derived.Deep.QuietTactic
import Derived.Deep.CutBlock
import Derived.Lib.MinMax
import Derived.StillTailTactics
namespace Go.Proofs.Ytbibippdafnenaa
open Go.RowKit Go.Maps
set_option maxRecDepth 100000

theorem newA_c (w : World) : Calls Try.prog 5 #[] w fun e w' => ∃ p, e = .returned (.pointer (some ⟨p, 0, none⟩)) ∧ Made w (tLed p Led.new) w' := by
  have hmm := @run_makeMap Try.prog
  go_enter Try.func5, Try.ntmps5
  go_wp2_with fail
  have H1 := (Held.start0 (fun _ => False) (fun _ => False) (fun _ f _ => f) w).mapNew (M := mBal) (q := 0) rfl
  have H2 := (H1.new (.cells #[.slice none 0 0, .map (some w.heap.size)] 74)).add (Below.refl _ _) (T := tSq eEnt 45 (.slice none 0 0) []) (Sq.nil _ _ _ _ _)
  have hs := World.size_alloc w (.map #[] 0)
  go_ret
  exact ⟨w.heap.size + 1, rfl, Made.of (Held.shut (f := ledThs (w.heap.size + 1) Led.new) (i := (.slice none 0 0, w.heap.size)) (by rw [hs] at H2; exact H2.pick [1, 2, 0] _ (by simp) rfl))⟩
theorem accIn_c (k : Int) (h0 : 0 ≤ k) (h1 : k < 5) (w : World) : Calls Try.prog 44 #[.int .i64 k] w fun e w' => e = .returned (.bool true) ∧ w = w' := by
  go_enter Try.func44, Try.ntmps44
  go_wp2_with fail
  go_ret
  exact ⟨by simp, rfl⟩
set_option maxHeartbeats 4000000 in
theorem inRange_c (t c k m n : Int) (h : 0 ≤ t ∧ t ≤ 1073741824 ∧ 0 ≤ c ∧ c < 1000 ∧ 0 ≤ k ∧ k < 5 ∧ 0 ≤ m ∧ m < 5 ∧ 1 ≤ n ∧ n ≤ 1048576) (w : World) : Calls Try.prog 25 #[.agg #[.int .i64 t, .int .i64 c, .int .i64 k, .int .i64 m, .int .i64 n]] w fun e w' => e = .returned (.bool true) ∧ Below w.heap.size w w' := by
  obtain ⟨h1, h2, h3, h4, h5, h6, h7, h8, h9, h10⟩ := h
  go_enter Try.func25, Try.ntmps25
  go_wp2_with (go_at_call 44; refine (accIn_c _ (by assumption) (by assumption) _).mono ?_; rintro e w' ⟨rfl, rfl⟩)
  go_ret
  exact ⟨rfl, by (with_reducible (repeat (first | exact Below.refl _ _ | refine Bw.alloc ?_ _ | refine Bw.drewN ?_ _ | refine Bw.drew ?_)))⟩
theorem permitted_c (k : Nat) (hk : k < 3) (m : Int) (hm : m = ((k + 1 : Nat) : Int)) (w : World) : Calls Try.prog 26 #[.int .i64 (k : Int), .int .i64 m] w fun e w' => e = .returned (.bool true) ∧ w = w' := by
  subst hm
  have hk' : k = 0 ∨ k = 1 ∨ k = 2 := by omega
  rcases hk' with rfl | rfl | rfl
  · show Calls Try.prog 26 #[.int .i64 0, .int .i64 1] w _
    go_enter Try.func26, Try.ntmps26
    go_wp2_with fail
    go_ret
    exact ⟨rfl, rfl⟩
  · show Calls Try.prog 26 #[.int .i64 1, .int .i64 2] w _
    go_enter Try.func26, Try.ntmps26
    go_wp2_with fail
    go_ret
    exact ⟨rfl, rfl⟩
  · show Calls Try.prog 26 #[.int .i64 2, .int .i64 3] w _
    go_enter Try.func26, Try.ntmps26
    go_wp2_with fail
    go_ret
    exact ⟨rfl, rfl⟩
end Go.Proofs.Ytbibippdafnenaa
