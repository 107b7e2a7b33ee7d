/- What is in flight is in the order of its ticks: what the reference keeps is what the cable keeps. No condition on the program. -/
import Derived.Test.YtekojekgjfefkaaCabT
namespace Go.Proofs.Ytekojekgjfefkaa

/-- the dues ascend, lie ahead, and lie at most the delay ahead -/
structure Due (c : Cab) : Prop where
  asc : c.flying.Pairwise fun x y => x.1 ≤ y.1
  lo : ∀ x ∈ c.flying, c.ticks < x.1
  hi : ∀ x ∈ c.flying, x.1 ≤ c.ticks + c.delay
theorem tw_eq {t : Nat} : ∀ {l : List (Nat × Byt)}, l.Pairwise (fun x y => x.1 ≤ y.1) → (∀ x ∈ l, t < x.1) →
    l.takeWhile (fun x => decide (x.1 ≤ t + 1)) = l.filter (fun x => x.1 == t + 1) ∧ l.drop (l.takeWhile (fun x => decide (x.1 ≤ t + 1))).length = l.filter (fun x => !(x.1 == t + 1))
  | [], _, _ => by simp
  | a :: l, ha, hl => by
    rw [List.pairwise_cons] at ha
    have h0 := hl a (by simp)
    by_cases h : a.1 ≤ t + 1
    · have e : a.1 = t + 1 := by omega
      obtain ⟨i1, i2⟩ := tw_eq ha.2 fun x hx => hl x (by simp [hx])
      rw [List.takeWhile_cons, if_pos (by simpa using h), List.filter_cons_of_pos (by simpa using e), List.filter_cons_of_neg (by simp [e]), i1]
      refine ⟨rfl, ?_⟩
      rw [i1] at i2
      rw [List.length_cons, List.drop_succ_cons, i2]
    · have hn : ∀ x ∈ a :: l, ¬ x.1 = t + 1 := fun x hx => by
        rcases List.mem_cons.1 hx with rfl | hx
        · omega
        · have := ha.1 x hx; omega
      rw [List.takeWhile_cons, if_neg (by simpa using h)]
      refine ⟨?_, ?_⟩
      · rw [List.filter_eq_nil_iff.2 fun x hx => by simpa using hn x hx]
      · rw [List.filter_eq_self.2 fun x hx => by simpa using hn x hx]; rfl
theorem Due.tick_eq {c : Cab} (h : Due c) : rarr c c.flying.length = c.tick.1 ∧ rstay c c.flying.length = c.tick.2.flying := by
  obtain ⟨h1, h2⟩ := tw_eq h.asc h.lo
  unfold rarr rstay Cab.tick Cab.arrived
  rw [List.take_length]
  exact ⟨by rw [← h1], h2.symm⟩
theorem Due.tick {c : Cab} (h : Due c) : Due c.tick.2 := by
  have hs : c.tick.2.flying = c.flying.filter (fun x => !(x.1 == c.ticks + 1)) := by
    rw [← h.tick_eq.2]; unfold rstay; rw [List.take_length]
  refine ⟨by rw [hs]; exact h.asc.filter _, fun x hx => ?_, fun x hx => ?_⟩
  · rw [hs, List.mem_filter] at hx
    have := h.lo x hx.1
    have := hx.2
    simp at this
    show c.ticks + 1 < x.1
    omega
  · rw [hs, List.mem_filter] at hx
    have := h.hi x hx.1
    show x.1 ≤ c.ticks + 1 + c.delay
    omega
theorem Due.cut {c : Cab} : Due c.cut := ⟨List.Pairwise.nil, fun _ hx => (List.not_mem_nil hx).elim, fun _ hx => (List.not_mem_nil hx).elim⟩
theorem Due.mend {c : Cab} (h : Due c) : Due c.mend := ⟨h.asc, h.lo, h.hi⟩
theorem Due.new (d : Nat) (fs : List Flt) : Due (Cab.new d fs) := ⟨List.Pairwise.nil, fun _ hx => (List.not_mem_nil hx).elim, fun _ hx => (List.not_mem_nil hx).elim⟩
theorem Due.send {c : Cab} (h : Due c) (h1 : 1 ≤ c.delay) (d : Byt) : Due (c.send d).2 := by
  unfold Cab.send
  split
  · exact ⟨h.asc, h.lo, h.hi⟩
  · split
    · exact ⟨h.asc, h.lo, h.hi⟩
    · refine ⟨List.pairwise_append.2 ⟨h.asc, ?_, fun x hx y hy => ?_⟩, fun x hx => ?_, fun x hx => ?_⟩
      · exact List.pairwise_replicate.2 (.inr (Nat.le_refl _))
      · obtain rfl := List.eq_of_mem_replicate hy; exact h.hi x hx
      · rcases List.mem_append.1 hx with hx | hx
        · exact h.lo x hx
        · obtain rfl := List.eq_of_mem_replicate hx
          show c.ticks < c.ticks + c.delay; omega
      · rcases List.mem_append.1 hx with hx | hx
        · exact h.hi x hx
        · obtain rfl := List.eq_of_mem_replicate hx
          exact Nat.le_refl _
end Go.Proofs.Ytekojekgjfefkaa
