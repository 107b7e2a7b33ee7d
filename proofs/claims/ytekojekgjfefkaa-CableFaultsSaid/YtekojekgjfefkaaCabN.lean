/- A cable with one fault, at the second transmission, in plain words. No condition on the program. -/
import Derived.Test.YtekojekgjfefkaaCabJ
namespace Go.Proofs.Ytekojekgjfefkaa

theorem faultOf_one (k arg t : Int) : faultOf [⟨1, k, arg⟩] t = if t = 1 then ⟨1, k, arg⟩ else Flt.zero := by
  unfold faultOf
  by_cases h : t = 1
  · subst h; simp
  · rw [if_neg h, List.find?_cons_of_neg (by simp; omega)]; rfl
theorem send_clean {c : Cab} (hk : c.fault = Flt.zero) (hu : c.up = true) (hr : c.flying.length < 64) (d : Byt) : c.send d = (0, { c with sent := c.sent + 1, flying := c.flying ++ [(c.ticks + c.delay, d)] }) := by
  have hc : c.copies = 1 := by unfold Cab.copies; rw [hk]; rfl
  have hw : c.what d = d := by unfold Cab.what; rw [hk]; rfl
  unfold Cab.send
  rw [if_neg (by rw [hu, hk]; decide), if_neg (by rw [hc]; omega), hc, hw]
  rfl
def oneC (k arg : Int) (sent lost : Nat) (l : List Byt) : Cab := ⟨1, [⟨1, k, arg⟩], true, 0, sent, lost, l.map fun x => (1, x)⟩
theorem oneC_new (k arg : Int) : Cab.new 1 [⟨1, k, arg⟩] = oneC k arg 0 0 [] := rfl
theorem oneC_clean (k arg : Int) (sent lost : Nat) (l : List Byt) (hs : sent ≠ 1) (hl : l.length < 64) (d : Byt) : (oneC k arg sent lost l).send d = (0, oneC k arg (sent + 1) lost (l ++ [d])) := by
  rw [send_clean (by show faultOf [⟨1, k, arg⟩] (sent : Int) = _; rw [faultOf_one, if_neg (by omega)]) rfl (by simpa [oneC] using hl)]
  simp [oneC]
theorem oneC_drop (arg : Int) (lost : Nat) (l : List Byt) (d : Byt) : (oneC 1 arg 1 lost l).send d = (0, oneC 1 arg 2 (lost + 1) l) := by
  have hf : (oneC 1 arg 1 lost l).fault = ⟨1, 1, arg⟩ := by show faultOf [⟨1, 1, arg⟩] ((1 : Nat) : Int) = _; rw [faultOf_one]; rfl
  unfold Cab.send
  rw [if_pos (.inr (by rw [hf]))]
  rfl
theorem oneC_dbl (arg : Int) (lost : Nat) (l : List Byt) (hl : l.length < 60) (d : Byt) : (oneC 3 arg 1 lost l).send d = (0, oneC 3 arg 2 lost (l ++ [d, d])) := by
  have hf : (oneC 3 arg 1 lost l).fault = ⟨1, 3, arg⟩ := by show faultOf [⟨1, 3, arg⟩] ((1 : Nat) : Int) = _; rw [faultOf_one]; rfl
  have hc : (oneC 3 arg 1 lost l).copies = 2 := by unfold Cab.copies; rw [hf]; rfl
  have hw : (oneC 3 arg 1 lost l).what d = d := by unfold Cab.what; rw [hf]; rfl
  unfold Cab.send
  rw [if_neg (by rw [hf]; simp [oneC]), if_neg (by rw [hc]; simp [oneC]; omega), hc, hw]
  simp [oneC, List.replicate_succ]
theorem oneC_flip (arg : Int) (lost : Nat) (l : List Byt) (hl : l.length < 60) (d : Byt) : (oneC 2 arg 1 lost l).send d = (0, oneC 2 arg 2 lost (l ++ [flipB d arg])) := by
  have hf : (oneC 2 arg 1 lost l).fault = ⟨1, 2, arg⟩ := by show faultOf [⟨1, 2, arg⟩] ((1 : Nat) : Int) = _; rw [faultOf_one]; rfl
  have hc : (oneC 2 arg 1 lost l).copies = 1 := by unfold Cab.copies; rw [hf]; rfl
  have hw : (oneC 2 arg 1 lost l).what d = flipB d arg := by unfold Cab.what; rw [hf]; rfl
  unfold Cab.send
  rw [if_neg (by rw [hf]; simp [oneC]), if_neg (by rw [hc]; simp [oneC]; omega), hc, hw]
  simp [oneC]
theorem oneC_tick (k arg : Int) (sent lost : Nat) (l : List Byt) : (oneC k arg sent lost l).tick = (l, { oneC k arg sent lost [] with ticks := 1 }) := by
  rw [tick_all fun x hx => by
    simp only [oneC, List.mem_map] at hx
    obtain ⟨y, _, rfl⟩ := hx
    exact Nat.le_refl _]
  simp [oneC, Function.comp_def]
theorem oneC_ok {k arg : Int} (h1 : 1 ≤ k) (h2 : k ≤ 3) (h3 : 0 ≤ arg) (sent lost : Nat) (l : List Byt) (hl : l.length ≤ 64) : (oneC k arg sent lost l).Ok :=
  ⟨by show 1 ≤ 1; omega, by show 1 ≤ 100; omega, fun i j f g hij hf hg => by
    have : j < 1 := by
      rcases Nat.lt_or_ge j 1 with h | h
      · exact h
      · rw [show (oneC k arg sent lost l).faults = [⟨1, k, arg⟩] from rfl, List.getElem?_eq_none (by simpa using h)] at hg
        exact absurd hg (by simp)
    omega, fun i f hf => by
    rcases Nat.lt_or_ge i 1 with h | h
    · obtain rfl : i = 0 := by omega
      obtain rfl : (⟨1, k, arg⟩ : Flt) = f := by simpa [oneC] using hf
      exact ⟨h1, h2, h3⟩
    · rw [show (oneC k arg sent lost l).faults = [⟨1, k, arg⟩] from rfl, List.getElem?_eq_none (by simpa using h)] at hf
      exact absurd hf (by simp), by simpa [oneC] using hl⟩
/-- the bit that is inverted -/
theorem flip_get (d : Byt) (arg : Int) (h : d ≠ []) : ∃ i0 m : Nat, i0 < d.length ∧ m < 6 ∧ ∀ (i : Nat) x, d[i]? = some x → (flipB d arg)[i]? = some (if i = i0 then x ^^^ (1#8 <<< m) else x) := by
  have hl : 0 < d.length := by
    cases d with
    | nil => exact absurd rfl h
    | cons a l => simp
  have h0 : (0 : Int) < 6 * (d.length : Int) := by omega
  have hb := Int.emod_nonneg arg (b := 6 * (d.length : Int)) (by omega)
  have hb2 := Int.emod_lt_of_pos arg h0
  refine ⟨(arg % (6 * (d.length : Int))).toNat / 6, (arg % (6 * (d.length : Int))).toNat % 6, by omega, by omega, fun i x hx => ?_⟩
  unfold flipB
  rw [if_neg h, List.getElem?_modify, hx]
  by_cases e : (arg % (6 * (d.length : Int))).toNat / 6 = i
  · rw [if_pos e.symm]; simp only [Option.map_eq_map, Option.map_some]; rw [if_pos e]; rfl
  · rw [if_neg (fun h => e h.symm)]; simp only [Option.map_eq_map, Option.map_some]; rw [if_neg e]
end Go.Proofs.Ytekojekgjfefkaa
