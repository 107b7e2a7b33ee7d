/- A cable without faults, in plain words. No condition on the program. -/
import Derived.Test.YtekojekgjfefkaaCabP
namespace Go.Proofs.Ytekojekgjfefkaa

section
variable {c : Cab} (hf : c.faults = [])
include hf
theorem fault0 : c.fault = Flt.zero := by unfold Cab.fault faultOf; rw [hf]; rfl
theorem copies0 : c.copies = 1 := by unfold Cab.copies; rw [fault0 hf]; rfl
theorem what0 (d : Byt) : c.what d = d := by unfold Cab.what; rw [fault0 hf]; rfl
theorem send_room (hu : c.up = true) (hr : c.flying.length < 64) (d : Byt) : c.send d = (0, { c with sent := c.sent + 1, flying := c.flying ++ [(c.ticks + c.delay, d)] }) := by
  unfold Cab.send
  rw [if_neg (by rw [hu, fault0 hf]; decide), if_neg (by rw [copies0 hf]; omega), copies0 hf, what0 hf]
  rfl
theorem send_no (hu : c.up = true) (hr : 64 ≤ c.flying.length) (d : Byt) : c.send d = (5, { c with sent := c.sent + 1, lost := c.lost + 1 }) := by
  unfold Cab.send
  rw [if_neg (by rw [hu, fault0 hf]; decide), if_pos (by rw [copies0 hf]; omega)]
end
theorem send_down {c : Cab} (hu : c.up = false) (d : Byt) : c.send d = (0, { c with sent := c.sent + 1, lost := c.lost + 1 }) := by
  unfold Cab.send; rw [if_pos (.inl hu)]
theorem tick_all {c : Cab} (h : ∀ x ∈ c.flying, x.1 ≤ c.ticks + 1) : c.tick = (c.flying.map (·.2), { c with ticks := c.ticks + 1, flying := [] }) := by
  have e : c.arrived = c.flying := by
    unfold Cab.arrived
    have : ∀ (l : List (Nat × Byt)), (∀ x ∈ l, x.1 ≤ c.ticks + 1) → l.takeWhile (fun x => decide (x.1 ≤ c.ticks + 1)) = l := by
      intro l
      induction l with
      | nil => intro _; rfl
      | cons a l ih =>
        intro h
        rw [List.takeWhile_cons, if_pos (by simpa using h a List.mem_cons_self), ih fun x hx => h x (List.mem_cons_of_mem _ hx)]
    exact this _ h
  unfold Cab.tick; rw [e, List.drop_length]
theorem tick_none {c : Cab} (h : ∀ x ∈ c.flying, c.ticks + 1 < x.1) : c.tick = ([], { c with ticks := c.ticks + 1 }) := by
  have e : c.arrived = [] := by
    unfold Cab.arrived
    cases hfl : c.flying with
    | nil => rfl
    | cons a l =>
      have := h a (by rw [hfl]; exact List.mem_cons_self)
      rw [List.takeWhile_cons, if_neg (by simp; omega)]
  unfold Cab.tick; rw [e]; rfl
/-! CableFull -/
def fullC (i : Nat) : Cab := ⟨1, [], true, 0, i, i - 64, (List.range (min i 64)).map fun k => (1, [BitVec.ofNat 8 k])⟩
theorem fullC_0 : fullC 0 = Cab.new 1 [] := rfl
theorem fullC_len (i : Nat) : (fullC i).flying.length = min i 64 := by simp [fullC]
theorem fullC_send (i : Nat) : (fullC i).send [BitVec.ofNat 8 i] = ((if i < 64 then 0 else 5), fullC (i + 1)) := by
  by_cases h : i < 64
  · rw [send_room rfl rfl (by rw [fullC_len]; omega), if_pos h]
    simp only [fullC, Prod.mk.injEq, true_and]
    rw [show min i 64 = i by omega, show min (i + 1) 64 = i + 1 by omega, List.range_succ, List.map_append]
    simp; omega
  · rw [send_no rfl rfl (by rw [fullC_len]; omega), if_neg h]
    simp only [fullC, Prod.mk.injEq, true_and]
    rw [show min i 64 = 64 by omega, show min (i + 1) 64 = 64 by omega]
    congr 1; omega
theorem fullC_ok (i : Nat) : (fullC i).Ok := ⟨by show 1 ≤ 1; omega, by show 1 ≤ 100; omega, fun i j f g _ h => by simp [fullC] at h, fun i f h => by simp [fullC] at h, by rw [fullC_len]; omega⟩
theorem fullC_tick (i : Nat) (h : 64 ≤ i) : (fullC i).tick.1 = (List.range 64).map (fun k => [BitVec.ofNat 8 k]) ∧ (fullC i).tick.2.lost = i - 64 := by
  rw [tick_all (fun x hx => by
    simp only [fullC, List.mem_map] at hx
    obtain ⟨k, _, rfl⟩ := hx
    exact Nat.le_refl _)]
  refine ⟨?_, rfl⟩
  simp only [fullC]
  rw [show min i 64 = 64 by omega, List.map_map]; rfl
/-! CableCuts -/
def cutA (i : Nat) : Cab := ⟨3, [], true, 0, i, 0, List.replicate i (3, [1#8])⟩
def cutB (a i : Nat) : Cab := ⟨3, [], false, 0, a + i, a + i, []⟩
def cutC (k i : Nat) : Cab := ⟨3, [], true, 0, k + i, k, List.replicate i (3, [3#8])⟩
theorem cutA_send (i : Nat) (h : i < 64) : (cutA i).send [1#8] = (0, cutA (i + 1)) := by
  rw [send_room rfl rfl (by simpa [cutA] using h)]; simp [cutA, List.replicate_succ']
theorem cutA_cut (i : Nat) : (cutA i).cut = cutB i 0 := by simp [cutA, cutB, Cab.cut]
theorem cutB_send (a i : Nat) : (cutB a i).send [2#8] = (0, cutB a (i + 1)) := by rw [send_down rfl]; rfl
theorem cutB_mend (a i : Nat) : (cutB a i).mend = cutC (a + i) 0 := by simp [cutB, cutC, Cab.mend]
theorem cutC_send (k i : Nat) (h : i < 64) : (cutC k i).send [3#8] = (0, cutC k (i + 1)) := by
  rw [send_room rfl rfl (by simpa [cutC] using h)]; simp [cutC, List.replicate_succ']; omega
theorem cut_ok' {c : Cab} (h1 : c.delay = 3) (h2 : c.faults = []) (h3 : c.flying.length ≤ 64) : c.Ok := ⟨by omega, by omega, fun i j f g _ h => by rw [h2] at h; simp at h, fun i f h => by rw [h2] at h; simp at h, h3⟩
theorem cutC_ticks (k i : Nat) : (cutC k i).tick.1 = [] ∧ (cutC k i).tick.2.tick.1 = [] ∧ (cutC k i).tick.2.tick.2.tick.1 = List.replicate i [3#8] := by
  have h1 : (cutC k i).tick = ([], { cutC k i with ticks := 1 }) := tick_none fun x hx => by
    have := List.eq_of_mem_replicate hx
    subst this; show 0 + 1 < 3; omega
  have h2 : ({ cutC k i with ticks := 1 } : Cab).tick = ([], { cutC k i with ticks := 2 }) := tick_none fun x hx => by
    have := List.eq_of_mem_replicate hx
    subst this; show 1 + 1 < 3; omega
  have h3 : ({ cutC k i with ticks := 2 } : Cab).tick = ((cutC k i).flying.map (·.2), { cutC k i with ticks := 3, flying := [] }) := tick_all fun x hx => by
    have := List.eq_of_mem_replicate hx
    subst this; show 3 ≤ 2 + 1; omega
  rw [h1]
  refine ⟨rfl, ?_, ?_⟩
  · show ({ cutC k i with ticks := 1 } : Cab).tick.1 = []
    rw [h2]
  · show ({ cutC k i with ticks := 1 } : Cab).tick.2.tick.1 = _
    rw [h2]
    show ({ cutC k i with ticks := 2 } : Cab).tick.1 = _
    rw [h3]; simp [cutC]
end Go.Proofs.Ytekojekgjfefkaa
