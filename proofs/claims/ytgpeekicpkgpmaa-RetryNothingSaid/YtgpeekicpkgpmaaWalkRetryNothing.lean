/- The walk of RetryNothing. -/
import Derived.Test.YtgpeekicpkgpmaaRetI
import Derived.Test.YtgpeekicpkgpmaaRow
namespace Go.Proofs.Ytgpeekicpkgpmaa
open Go.RowKit

theorem accept_nil (n : Int) (w : World) : Calls Try.prog 32 #[.pointer none, .int .i64 n] w fun e w' => e = .returned (.tuple #[.int .i64 0, .bool false]) ∧ w = w' := by
  go_enter Try.func32, Try.ntmps32
  go_wp2_with fail
  go_ret2
  exact ⟨rfl, rfl⟩
theorem ack_nil (n : Int) (w : World) : Calls Try.prog 17 #[.pointer none, .int .i64 n] w fun e w' => e = .returned (.int .i64 0) ∧ w = w' := by
  go_enter Try.func17, Try.ntmps17
  go_wp2_with fail
  refine (accept_nil n w).mono ?_
  rintro e w1 ⟨rfl, rfl⟩
  go_wp2_with fail
  go_ret
  exact ⟨rfl, rfl⟩
theorem nak_nil (n : Int) (w : World) : Calls Try.prog 16 #[.pointer none, .int .i64 n] w fun e w' => e = .returned (.int .i64 0) ∧ w = w' := by
  go_enter Try.func16, Try.ntmps16
  go_wp2_with fail
  refine (accept_nil n w).mono ?_
  rintro e w1 ⟨rfl, rfl⟩
  go_wp2_with fail
  go_ret
  exact ⟨rfl, rfl⟩
theorem offer_nil (v : Value) (d : Bytes) (w : World) (hv : By w v d) :
    Calls Try.prog 13 #[.pointer none, v] w fun e w' => e = .returned (.int .i64 1) ∧ w = w' := offer_none v d w hv
set_option maxHeartbeats 2000000 in
theorem walkRetryNothing (W : World) (v0 v1 : Value) (o0 : IsInt .i64 v0) (o1 : IsBytes W v1) :
    Calls Try.prog 10 #[v0, v1] W fun e w' => e = .returned (.bool true) ∧ Below W.heap.size W w' := by
  obtain ⟨n, rfl, hn⟩ := o0
  clear hn
  obtain ⟨d, hv⟩ := o1
  obtain ⟨a, cap, rfl⟩ := hv.slice
  have HV := Lib.hid hv; clear hv
  by_cases hbig : (100 : Int) < d.length
  · go_enter Try.func10, Try.ntmps10
    go_wp2_with fail
    refine (awake_any W).mono ?_
    rintro e w1 ⟨rfl, hb⟩
    have HB := Lib.hid hb; clear hb
    go_wp2_with fail
    go_ret
    exact ⟨rfl, HB.out⟩
  · go_enter Try.func10, Try.ntmps10
    go_wp2_with fail
    refine (awake_any W).mono ?_
    rintro e w1 ⟨rfl, hb⟩
    have HB := Lib.hid hb
    have HV1 := Lib.hid (HV.out.below hb); clear hb
    go_wp2_with fail
    refine (tick_nil w1).mono ?_
    rintro e w2 ⟨rfl, rfl⟩
    go_wp2_with fail
    refine (total_none w1).mono ?_
    rintro e w2 ⟨rfl, rfl⟩
    go_wp2_with fail
    refine (receive_nil n _ d w1 HV1.out).mono ?_
    rintro e w2 ⟨rfl, rfl⟩
    go_wp2_with fail
    refine (offer_nil _ d w1 HV1.out).mono ?_
    rintro e w2 ⟨rfl, rfl⟩
    go_wp2_with fail
    refine (ack_nil n w1).mono ?_
    rintro e w2 ⟨rfl, rfl⟩
    go_wp2_with fail
    refine (nak_nil n w1).mono ?_
    rintro e w2 ⟨rfl, rfl⟩
    go_wp2_with fail
    refine (kept_none w1).mono ?_
    rintro e w2 ⟨rfl, rfl⟩
    go_wp2_with fail
    refine (expected_nil w1).mono ?_
    rintro e w2 ⟨rfl, rfl⟩
    go_wp2_with fail
    refine (rtotal_nil w1).mono ?_
    rintro e w2 ⟨rfl, rfl⟩
    go_wp2_with fail
    go_ret
    exact ⟨rfl, HB.out⟩
end Go.Proofs.Ytgpeekicpkgpmaa
