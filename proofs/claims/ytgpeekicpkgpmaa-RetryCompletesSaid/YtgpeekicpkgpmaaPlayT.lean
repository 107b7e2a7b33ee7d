/- How often something arrives. -/
import Derived.Test.YtgpeekicpkgpmaaWire
namespace Go.Proofs.Ytgpeekicpkgpmaa
open Go.RowKit

theorem By.at {w : World} {a : Option Addr} {n c : Nat} {bs : Bytes} (h : By w (.slice a n c) bs) {i : Nat} {x : BitVec 8} (hi : bs[i]? = some x) : ∃ b off, a = some ⟨b, off, none⟩ ∧ w.cell? ⟨b, off + i, none⟩ = some (.int .u8 (U x)) := by
  obtain ⟨_, a', cap, e, h1, h2, h3, h4⟩ := h
  obtain ⟨rfl, rfl, rfl⟩ : a = a' ∧ n = bs.length ∧ c = cap := by simpa using e
  have hil : i < bs.length := by
    rcases Nat.lt_or_ge i bs.length with h | h
    · exact h
    · rw [List.getElem?_eq_none h] at hi; cases hi
  cases a with
  | none => have := (h3 rfl).1; omega
  | some b =>
    obtain ⟨b, off, spot⟩ := b
    have := h4 _ rfl i (.int .u8 (U x)) (by rw [cu, List.getElem?_map, hi]; rfl)
    obtain ⟨rfl, h5⟩ := this
    exact ⟨b, off, rfl, h5⟩
set_option maxHeartbeats 1000000 in
theorem times_any (v : Value) (l : Bytes) (t : Nat) (w : World) (hv : By w v l) : Calls Try.prog 36 #[v, .int .i64 (t : Int)] w fun e w' => e = .returned (.int .i64 (timesM l t : Nat)) ∧ w = w' := by
  obtain ⟨a, cap, rfl⟩ := hv.slice
  unfold timesM
  by_cases hlt : t < l.length
  · obtain ⟨x, hx⟩ : ∃ x, l[t]? = some x := ⟨l[t], List.getElem?_eq_getElem hlt⟩
    obtain ⟨b, off, rfl, hc⟩ := hv.at hx
    have hb : l.length ≤ maxLen := hv.cases.1
    unfold maxLen at hb
    rw [hx]
    have hU : U x = (x.toNat : Int) := rfl
    rw [hU] at hc
    have hlt8 : x.toNat < 256 := x.isLt
    dsimp only
    generalize x.toNat = y at *
    clear hx hv hU
    have i0 : ∀ w, (Instr.index 82 (.agg #[.int .i64 1, .int .i64 0, .int .i64 2]) (.int .u8 0)).run Try.prog w = .ok (.int .i64 1) w := fun _ => by kernel_rfl
    have i1 : ∀ w, (Instr.index 82 (.agg #[.int .i64 1, .int .i64 0, .int .i64 2]) (.int .u8 1)).run Try.prog w = .ok (.int .i64 0) w := fun _ => by kernel_rfl
    have i2 : ∀ w, (Instr.index 82 (.agg #[.int .i64 1, .int .i64 0, .int .i64 2]) (.int .u8 2)).run Try.prog w = .ok (.int .i64 2) w := fun _ => by kernel_rfl
    have hv0 : (if y % 3 = 0 then 1 else if y % 3 = 1 then 0 else 2) = (if y % 3 = 0 then 1 else if y % 3 = 1 then 0 else 2 : Nat) := rfl
    rcases (show y % 3 = 0 ∨ y % 3 = 1 ∨ y % 3 = 2 by omega) with h | h | h
    · rw [if_pos h]
      have h' : (y : Int) % 3 = 0 := by omega
      clear h hv0
      go_enter Try.func36, Try.ntmps36
      go_wp2_with fail
      go_ret
      exact ⟨rfl, rfl⟩
    · rw [if_neg (by omega), if_pos h]
      have h' : (y : Int) % 3 = 1 := by omega
      clear h hv0
      go_enter Try.func36, Try.ntmps36
      go_wp2_with fail
      go_ret
      exact ⟨rfl, rfl⟩
    · rw [if_neg (by omega), if_neg (by omega)]
      have h' : (y : Int) % 3 = 2 := by omega
      clear h hv0
      go_enter Try.func36, Try.ntmps36
      go_wp2_with fail
      go_ret
      exact ⟨rfl, rfl⟩
  · rw [List.getElem?_eq_none (by omega)]
    clear hv
    go_enter Try.func36, Try.ntmps36
    go_wp2_with fail
    go_ret
    exact ⟨rfl, rfl⟩
end Go.Proofs.Ytgpeekicpkgpmaa
