/- The walk of RetrySends, joined. -/
import Derived.Test.YtgpeekicpkgpmaaSendsWalk
namespace Go.Proofs.Ytgpeekicpkgpmaa
open Go.RowKit

set_option maxRecDepth 100000 in
set_option maxHeartbeats 4000000 in
theorem sends_bad (W : World) (wn tn : Int) (v : Value) (ops : List OpD) (h : Ops W v ops) (hb : wn < 1 ∨ 128 < wn ∨ tn < 1 ∨ 1000 < tn) :
    Calls Try.prog 5 #[.int .i64 wn, .int .i64 tn, v] W fun e w' => e = .returned (.bool true) ∧ Below W.heap.size W w' := by
  obtain ⟨a, cap, rfl, hm, _⟩ := h.cases
  have HO := Lib.hid h
  have HBAD := Lib.hid hb
  clear h
  go_enter Try.func5, Try.ntmps5
  go_wp2_with fail
  refine (awake_any W).mono ?_
  rintro e y1 ⟨rfl, hb⟩
  have HB1 := Lib.hid hb; have HO1 := Lib.hid (HO.out.below hb); have hz1 := hb.size; clear hb
  go_wp2_with fail
  refine (great_any _ ops y1 HO1.out).mono ?_
  rintro e y2 ⟨rfl, hb⟩
  have HB2 := Lib.hid (HB1.out.trans (hb.mono hz1)); clear hb HO1 HB1
  by_cases hg : greatB ops = true
  · go_wp2_with fail
    go_ret
    exact ⟨rfl, HB2.out⟩
  · have hg' : greatB ops = false := by simpa using hg
    clear hg
    go_wp2_with fail
    refine (newSender_bad wn tn y2 HBAD.out).mono ?_
    rintro e y3 ⟨rfl, rfl⟩
    rcases HBAD.out with h | h | h | h
    all_goals go_wp2_with fail
    all_goals go_ret
    all_goals exact ⟨rfl, HB2.out⟩
theorem walkRetrySends (W : World) (v0 v1 v2 : Value) (o0 : IsInt .i64 v0) (o1 : IsInt .i64 v1) (o2 : IsSl rOp W v2) :
    Calls Try.prog 5 #[v0, v1, v2] W fun e w' => e = .returned (.bool true) ∧ Below W.heap.size W w' := by
  obtain ⟨a, rfl, _⟩ := o0
  obtain ⟨b, rfl, _⟩ := o1
  obtain ⟨ops, h⟩ := o2
  by_cases hb : a < 1 ∨ 128 < a ∨ b < 1 ∨ 1000 < b
  · exact sends_bad W a b v2 ops h hb
  · obtain ⟨x, rfl⟩ := Int.eq_ofNat_of_zero_le (show 0 ≤ a by omega)
    obtain ⟨y, rfl⟩ := Int.eq_ofNat_of_zero_le (show 0 ≤ b by omega)
    exact sends_walk W x y v2 ops h (by omega) (by omega) (by omega) (by omega)
end Go.Proofs.Ytgpeekicpkgpmaa
