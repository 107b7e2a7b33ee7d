/- The arbiter in memory: New. -/
import Derived.Test.YtcocnfbhileheaaPorP
import Derived.Test.YtcocnfbhileheaaPorD
import Derived.Test.YtcocnfbhileheaaRetA
namespace Go.Proofs.Ytcocnfbhileheaa
open Go.RowKit

theorem slInt : SlT Try.prog 24 3 (.int .i64 0) 1 8 := ⟨Try.underlying24, info_parts (by kernel_rfl), rfl, by decide⟩
theorem slBool : SlT Try.prog 117 4 (.bool false) 1 1 := ⟨Try.underlying117, info_parts (by kernel_rfl), rfl, by decide⟩
abbrev arbRow (a : Arb) (v : Value) : Obj := .cells #[.int .i64 (a.ptr : Int), v] 132
/-- an arbiter -/
def tArb (p : Nat) (a : Arb) : Th := tEx fun v : Value => [tBlk p (arbRow a v), tSq eNat 3 v a.ages]
theorem newArb_any (n : Nat) (w : World) (h1 : 1 ≤ n) (h2 : n ≤ 64) :
    Calls Try.prog 41 #[.int .i64 (n : Int)] w fun e w' => ∃ p, e = .returned (.tuple #[.pointer (some ⟨p, 0, none⟩), .int .i64 0]) ∧ Made w (tArb p (newArb n)) w' := by
  go_enter Try.func41, Try.ntmps41
  go_wp2_with (at_make; refine wpList_mkH (E := eNat) slInt rfl (a0 := 0) (fun _ _ => rfl) rfl _ _ rfl n rfl rfl (by omega) (by unfold maxLen; omega) ?_; intro w1 hb1 hs1; have HB1 := Lib.hid hb1; have HS1 := Lib.hid hs1; clear hb1 hs1)
  go_ret2
  refine ⟨w1.heap.size, rfl, Made.of ?_⟩
  have h0 := (Held.start0 (fun _ => False) (fun _ => False) (fun _ f => f.elim) w).add HB1.out (T := tSq eNat 3 (.slice (some ⟨w.heap.size, 0, none⟩) n n) (List.replicate n 0)) HS1.out
  exact Held.shut (f := fun v : Value => [tBlk w1.heap.size (arbRow (newArb n) v), tSq eNat 3 v (newArb n).ages]) (ts := []) ((h0.new (arbRow (newArb n) (.slice (some ⟨w.heap.size, 0, none⟩) n n))).pick [1, 0] _ (by simp) rfl)
end Go.Proofs.Ytcocnfbhileheaa
