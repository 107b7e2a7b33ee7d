/- The law's comparison of two lists of events. -/
import Derived.Test.YtococphklfbidaaKerW
namespace Go.Proofs.Ytococphklfbidaa
open Go.RowKit Go.Maps

theorem run_eqEvR (a b : Ev) (w : World) : (binOp .eql 44 (.agg #[.int .i64 a.at', .int .i64 a.kind, .int .i64 a.node, .int .i64 a.number, .int .i64 a.arg]) (.agg #[.int .i64 b.at', .int .i64 b.kind, .int .i64 b.node, .int .i64 b.number, .int .i64 b.arg])).run Try.prog w = .ok (.bool (eqB a b)) w := by
  have hS : Try.prog.underlying 44 = some (.struct (Try.prog.fieldsOf 44)) := by kernel_rfl
  have hp : Try.prog.stoodInHeld 44 = false := by kernel_rfl
  have u3 := Try.underlying3
  rw [run_eql_struct, show (10000 : Nat) = 9999 + 1 from rfl, run_equalIn_agg w 9999 44 _ _ hS hp]
  simp only [Program.fieldsOf, Try.underlying44]
  unfold eqB
  go_simp
  by_cases h1 : a.at' = b.at' <;> by_cases h2 : a.kind = b.kind <;> by_cases h3 : a.node = b.node <;> by_cases h4 : a.number = b.number <;> by_cases h5 : a.arg = b.arg <;> simp [h1, h2, h3, h4, h5]
theorem run_neqEvR (a b : Ev) (w : World) : (binOp .neq 44 (.agg #[.int .i64 a.at', .int .i64 a.kind, .int .i64 a.node, .int .i64 a.number, .int .i64 a.arg]) (.agg #[.int .i64 b.at', .int .i64 b.kind, .int .i64 b.node, .int .i64 b.number, .int .i64 b.arg])).run Try.prog w = .ok (.bool (!eqB a b)) w := by
  have h := run_eqEvR a b w
  rw [run_eql_struct] at h
  rw [run_neq_struct]
  cases hr : (Op.equalIn 10000 44 (.agg #[.int .i64 a.at', .int .i64 a.kind, .int .i64 a.node, .int .i64 a.number, .int .i64 a.arg]) (.agg #[.int .i64 b.at', .int .i64 b.kind, .int .i64 b.node, .int .i64 b.number, .int .i64 b.arg])).run Try.prog w with
  | ok v w' => rw [hr] at h; simp at h; simp [h]
  | _ => rw [hr] at h; simp at h
theorem run_neqSameR (a : Ev) (w : World) : (binOp .neq 44 (.agg #[.int .i64 a.at', .int .i64 a.kind, .int .i64 a.node, .int .i64 a.number, .int .i64 a.arg]) (.agg #[.int .i64 a.at', .int .i64 a.kind, .int .i64 a.node, .int .i64 a.number, .int .i64 a.arg])).run Try.prog w = .ok (.bool false) w := by rw [run_neqEvR, eqB_self]; rfl
theorem eqGuardEvR : Try.prog.eqGuardType Try.prog.depth 44 = false := by kernel_rfl
set_option maxHeartbeats 8000000 in
theorem same_any (xs : List Ev) (hl : xs.length ≤ 1000000) (a b : Option Addr) (ca cb : Nat) (w : World) (ha : EvR w (.slice a xs.length ca) xs) (hb : EvR w (.slice b xs.length cb) xs) :
    Calls Try.prog 26 #[.slice a xs.length ca, .slice b xs.length cb] w fun e w' => e = .returned (.bool true) ∧ ∃ n, w' = w.drewN n := by
  have HA := Lib.hid ha; have HB := Lib.hid hb
  clear ha hb
  have hG := eqGuardEvR
  go_enter Try.func26, Try.ntmps26
  go_wp2_with fail
  go_loopw [13] (fun i wr => ∃ j : Nat, j ≤ xs.length ∧ i = .int .i64 (j : Int) ∧ ∃ n, wr = w.drewN n) (fun i _ => xs.length - (intOf i).toNat)
  case atStart => exact ⟨0, by omega, rfl, 0, rfl⟩
  case round =>
    obtain ⟨j, hj, rfl, n, rfl⟩ := hrel
    by_cases hlt : j < xs.length
    · obtain ⟨x, hx⟩ : ∃ x, xs[j]? = some x := ⟨xs[j], List.getElem?_eq_getElem hlt⟩
      obtain ⟨ba, oa, rfl, a0, a1, a2, a3, a4⟩ := ev_at HA.out hx
      obtain ⟨bb, ob, rfl, b0, b1, b2, b3, b4⟩ := ev_at HB.out hx
      clear hx
      have hq := run_neqSameR x
      go_wp2_with fail
      go_quiet (fail)
      go_wp2_with fail
      go_roundw
      case rel => exact ⟨j + 1, by omega, by go_num, _, rfl⟩
      case measure => simp [intOf]; omega
    · obtain rfl : j = xs.length := by omega
      go_wp2_with fail
      go_ret
      exact ⟨rfl, _, rfl⟩
end Go.Proofs.Ytococphklfbidaa
