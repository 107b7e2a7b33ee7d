/- The contracts of Valid, of the frame and of its reference. No condition. -/
import Derived.Test.YtdmfjmdnkfeljaaDoorFrmC
namespace Go.Proofs.YtdmfjmdnkfeljaaDoor
open Go.RowKit

theorem ret_bool {a b : Bool} (h : a = b) : Ending.returned (.bool a) = .returned (.bool b) := by rw [h]
set_option maxHeartbeats 4000000 in
theorem valid_good (p : Pk) (a : Option Addr) (c : Nat) (w : World) (hg : Good p) :
    Calls Tryd.prog 18 #[.agg #[.int .u8 (U p.kind), .int .i64 p.cls, .int .i64 p.number, .int .i64 p.value, .slice a p.pay.length c]] w fun e w' => e = .returned (.bool true) ∧ Below w.heap.size w w' := by
  have h1 : (U p.kind != 0) = true := by have := U_ne_dec p.kind 0#8; rw [show U (0#8) = 0 by decide] at this; rw [this]; simpa using hg.kind
  have h2 := hg.c0; have h3 := hg.c1; have h4 := hg.n0; have h5 := hg.n1; have h6 := hg.v0; have h7 := hg.v1; have h8 := hg.pay
  clear hg
  go_enter Tryd.func18, Tryd.ntmps18
  go_wp2_with fail
  go_ret
  exact ⟨ret_bool (decide_eq_true (by omega)), by (repeat (first | (with_reducible exact Below.refl _ _) | (with_reducible refine Bw.alloc ?_ _) | (with_reducible refine Bw.drewN ?_ _) | (with_reducible refine Bw.drew ?_)))⟩
set_option maxHeartbeats 4000000 in
theorem valid_bad (p : Pk) (a : Option Addr) (c : Nat) (w : World) (hg : ¬ Good p) :
    Calls Tryd.prog 18 #[.agg #[.int .u8 (U p.kind), .int .i64 p.cls, .int .i64 p.number, .int .i64 p.value, .slice a p.pay.length c]] w fun e w' => e = .returned (.bool false) ∧ Below w.heap.size w w' := by
  have hcs : p.kind = 0 ∨ (p.kind ≠ 0 ∧ p.cls < 0) ∨ (p.kind ≠ 0 ∧ 0 ≤ p.cls ∧ 4 ≤ p.cls) ∨ (p.kind ≠ 0 ∧ 0 ≤ p.cls ∧ p.cls < 4 ∧ p.number < 0) ∨ (p.kind ≠ 0 ∧ 0 ≤ p.cls ∧ p.cls < 4 ∧ 0 ≤ p.number ∧ 1099511627776 ≤ p.number) ∨ (p.kind ≠ 0 ∧ 0 ≤ p.cls ∧ p.cls < 4 ∧ 0 ≤ p.number ∧ p.number < 1099511627776 ∧ p.value < 0) ∨ (p.kind ≠ 0 ∧ 0 ≤ p.cls ∧ p.cls < 4 ∧ 0 ≤ p.number ∧ p.number < 1099511627776 ∧ 0 ≤ p.value ∧ 1099511627776 ≤ p.value) ∨ (p.kind ≠ 0 ∧ 0 ≤ p.cls ∧ p.cls < 4 ∧ 0 ≤ p.number ∧ p.number < 1099511627776 ∧ 0 ≤ p.value ∧ p.value < 1099511627776 ∧ 64 < p.pay.length) := by
    by_cases hk : p.kind = 0
    · exact .inl hk
    · have : ¬ (0 ≤ p.cls ∧ p.cls < 4 ∧ 0 ≤ p.number ∧ p.number < 1099511627776 ∧ 0 ≤ p.value ∧ p.value < 1099511627776 ∧ p.pay.length ≤ 64) := fun ⟨b, c, d, e, f, g, h⟩ => hg ⟨hk, b, c, d, e, f, g, h⟩
      simp only [ne_eq, hk, not_false_eq_true, true_and, false_or]
      omega
  have hkk : p.kind ≠ 0 → (U p.kind != 0) = true := fun hk => by have := U_ne_dec p.kind 0#8; rw [show U (0#8) = 0 by decide] at this; rw [this]; simpa using hk
  have HKK := Lib.hid hkk
  clear hg hkk
  rcases hcs with h1 | ⟨h1, h2⟩ | ⟨h1, h2, h3⟩ | ⟨h1, h2, h3, h4⟩ | ⟨h1, h2, h3, h4, h5⟩ | ⟨h1, h2, h3, h4, h5, h6⟩ | ⟨h1, h2, h3, h4, h5, h6, h7⟩ | ⟨h1, h2, h3, h4, h5, h6, h7, h8⟩
  case' inl => have hz : (U p.kind != 0) = false := by rw [h1]; decide
  case' inr.inl => have hz := HKK.out h1
  case' inr.inr.inl => have hz := HKK.out h1
  case' inr.inr.inr.inl => have hz := HKK.out h1
  case' inr.inr.inr.inr.inl => have hz := HKK.out h1
  case' inr.inr.inr.inr.inr.inl => have hz := HKK.out h1
  case' inr.inr.inr.inr.inr.inr.inl => have hz := HKK.out h1
  case' inr.inr.inr.inr.inr.inr.inr => have hz := HKK.out h1
  all_goals
    clear h1
    go_enter Tryd.func18, Tryd.ntmps18
    go_wp2_with fail
    go_ret
    first
      | exact ⟨rfl, by (repeat (first | (with_reducible exact Below.refl _ _) | (with_reducible refine Bw.alloc ?_ _) | (with_reducible refine Bw.drewN ?_ _) | (with_reducible refine Bw.drew ?_)))⟩
      | exact ⟨ret_bool (decide_eq_false (by omega)), by (repeat (first | (with_reducible exact Below.refl _ _) | (with_reducible refine Bw.alloc ?_ _) | (with_reducible refine Bw.drewN ?_ _) | (with_reducible refine Bw.drew ?_)))⟩
set_option maxHeartbeats 4000000 in
theorem refValid_good (p : Pk) (a : Option Addr) (c : Nat) (w : World) (hg : Good p) :
    Calls Tryd.prog 15 #[.agg #[.int .u8 (U p.kind), .int .i64 p.cls, .int .i64 p.number, .int .i64 p.value, .slice a p.pay.length c]] w fun e w' => e = .returned (.bool true) ∧ Below w.heap.size w w' := by
  have h1 : (U p.kind != 0) = true := by have := U_ne_dec p.kind 0#8; rw [show U (0#8) = 0 by decide] at this; rw [this]; simpa using hg.kind
  have h2 := hg.c0; have h3 := hg.c1; have h4 := hg.n0; have h5 := hg.n1; have h6 := hg.v0; have h7 := hg.v1; have h8 := hg.pay
  clear hg
  go_enter Tryd.func15, Tryd.ntmps15
  go_wp2_with fail
  go_ret
  exact ⟨ret_bool (decide_eq_true (by omega)), by (repeat (first | (with_reducible exact Below.refl _ _) | (with_reducible refine Bw.alloc ?_ _) | (with_reducible refine Bw.drewN ?_ _) | (with_reducible refine Bw.drew ?_)))⟩
set_option maxHeartbeats 4000000 in
theorem refValid_bad (p : Pk) (a : Option Addr) (c : Nat) (w : World) (hg : ¬ Good p) :
    Calls Tryd.prog 15 #[.agg #[.int .u8 (U p.kind), .int .i64 p.cls, .int .i64 p.number, .int .i64 p.value, .slice a p.pay.length c]] w fun e w' => e = .returned (.bool false) ∧ Below w.heap.size w w' := by
  have hcs : p.kind = 0 ∨ (p.kind ≠ 0 ∧ p.cls < 0) ∨ (p.kind ≠ 0 ∧ 0 ≤ p.cls ∧ 4 ≤ p.cls) ∨ (p.kind ≠ 0 ∧ 0 ≤ p.cls ∧ p.cls < 4 ∧ p.number < 0) ∨ (p.kind ≠ 0 ∧ 0 ≤ p.cls ∧ p.cls < 4 ∧ 0 ≤ p.number ∧ 1099511627776 ≤ p.number) ∨ (p.kind ≠ 0 ∧ 0 ≤ p.cls ∧ p.cls < 4 ∧ 0 ≤ p.number ∧ p.number < 1099511627776 ∧ p.value < 0) ∨ (p.kind ≠ 0 ∧ 0 ≤ p.cls ∧ p.cls < 4 ∧ 0 ≤ p.number ∧ p.number < 1099511627776 ∧ 0 ≤ p.value ∧ 1099511627776 ≤ p.value) ∨ (p.kind ≠ 0 ∧ 0 ≤ p.cls ∧ p.cls < 4 ∧ 0 ≤ p.number ∧ p.number < 1099511627776 ∧ 0 ≤ p.value ∧ p.value < 1099511627776 ∧ 64 < p.pay.length) := by
    by_cases hk : p.kind = 0
    · exact .inl hk
    · have : ¬ (0 ≤ p.cls ∧ p.cls < 4 ∧ 0 ≤ p.number ∧ p.number < 1099511627776 ∧ 0 ≤ p.value ∧ p.value < 1099511627776 ∧ p.pay.length ≤ 64) := fun ⟨b, c, d, e, f, g, h⟩ => hg ⟨hk, b, c, d, e, f, g, h⟩
      simp only [ne_eq, hk, not_false_eq_true, true_and, false_or]
      omega
  have hkk : p.kind ≠ 0 → (U p.kind != 0) = true := fun hk => by have := U_ne_dec p.kind 0#8; rw [show U (0#8) = 0 by decide] at this; rw [this]; simpa using hk
  have HKK := Lib.hid hkk
  clear hg hkk
  rcases hcs with h1 | ⟨h1, h2⟩ | ⟨h1, h2, h3⟩ | ⟨h1, h2, h3, h4⟩ | ⟨h1, h2, h3, h4, h5⟩ | ⟨h1, h2, h3, h4, h5, h6⟩ | ⟨h1, h2, h3, h4, h5, h6, h7⟩ | ⟨h1, h2, h3, h4, h5, h6, h7, h8⟩
  case' inl => have hz : (U p.kind != 0) = false := by rw [h1]; decide
  case' inr.inl => have hz := HKK.out h1
  case' inr.inr.inl => have hz := HKK.out h1
  case' inr.inr.inr.inl => have hz := HKK.out h1
  case' inr.inr.inr.inr.inl => have hz := HKK.out h1
  case' inr.inr.inr.inr.inr.inl => have hz := HKK.out h1
  case' inr.inr.inr.inr.inr.inr.inl => have hz := HKK.out h1
  case' inr.inr.inr.inr.inr.inr.inr => have hz := HKK.out h1
  all_goals
    clear h1
    go_enter Tryd.func15, Tryd.ntmps15
    go_wp2_with fail
    go_ret
    first
      | exact ⟨rfl, by (repeat (first | (with_reducible exact Below.refl _ _) | (with_reducible refine Bw.alloc ?_ _) | (with_reducible refine Bw.drewN ?_ _) | (with_reducible refine Bw.drew ?_)))⟩
      | exact ⟨ret_bool (decide_eq_false (by omega)), by (repeat (first | (with_reducible exact Below.refl _ _) | (with_reducible refine Bw.alloc ?_ _) | (with_reducible refine Bw.drewN ?_ _) | (with_reducible refine Bw.drew ?_)))⟩
end Go.Proofs.YtdmfjmdnkfeljaaDoor
