/- A region that draws its order and ends in one store: what is read ahead of the store is taken first, though the store changes it. No condition on the program. -/
import Derived.Test.YtbibippdafnenaaReg
namespace Go.Proofs.Ytbibippdafnenaa
open Go.RowKit
section
variable {P : Program} {ops : Array Oper} {Q : Exit → Act → World → Prop} {md : Region.Mode} {S : World → Prop} {last : Nat}
/-- whatever order is picked; S holds until the operation 'last' has come up -/
def wpAnyL (P : Program) (md : Region.Mode) (ops : Array Oper) (Q : Exit → Act → World → Prop) (S : World → Prop) (last : Nat) : Nat → Array Bool → Act → World → Prop
  | 0, listed, a, w => Region.ready md ops listed = [] ∧ Q .normal a w
  | fuel + 1, listed, a, w =>
    (Region.ready md ops listed = [] → Q .normal a w) ∧
    ∀ i ∈ Region.ready md ops listed, wpOp P ops Q i (fun a' w' => ((listed.setIfInBounds i true).getD last true = false → S w') ∧ wpAnyL P md ops Q S last fuel (listed.setIfInBounds i true) a' w') a w
theorem wpAnyL_any : ∀ (fuel : Nat) (listed : Array Bool) (a : Act) (w : World), wpAnyL P md ops Q S last fuel listed a w → wpAnyH P md ops Q (fun _ => True) fuel listed a w
  | 0, _, _, _, h => h
  | fuel + 1, _, _, _, h => ⟨h.1, fun i hi => wpOp_mono (fun a' w' h2 => ⟨trivial, wpAnyL_any fuel _ a' w' h2.2⟩) (h.2 i hi)⟩
theorem wp_region_lag (last : Nat) {id : Nat} {a : Act} {w : World} (hm : P.follows .mixedOrders = true) (hS : S w.drew)
    (h : S w.drew → wpAnyL P .any ops Q S last ops.size (Array.replicate ops.size false) a w.drew) : (Code.region id ops true).wp P Q a w :=
  wp_region_held_drew (S := fun _ => True) hm trivial fun _ => wpAnyL_any _ _ _ _ (h hS)
theorem ne_last {listed : Array Bool} {i : Nat} (h : (listed.setIfInBounds i true).getD last true = false) : i ≠ last ∧ listed.getD last true = false := by
  by_cases e : i = last
  · subst e
    rcases Nat.lt_or_ge i listed.size with h' | h'
    · simp [h'] at h
    · simp [h'] at h
  · rw [getD_set_ne true e] at h
    exact ⟨e, h⟩
/-- an operation that yields the same wherever it comes up (where S' holds; S' holds as long as `last` has not come up, if it must come ahead of it; else S' is nothing) -/
theorem wpAnyL_firstG {S' : World → Prop} {i : Nat} {oi : Oper} {v : Value} (hi : ops[i]? = some oi) (hsel : ∀ (j : Nat) (o : Oper) cs b, ops[j]? = some o → o.op ≠ .select cs b)
    (hQ : ∀ c a w, Q (.panic c) (a.put oi.dst v) w → Q (.panic c) a w) (hil : i ≠ last) (hla : (∀ w, S' w) ∨ (∀ w, S w → S' w) ∧ ∀ o, ops[last]? = some o → ∃ e ∈ o.after, Region.binds md e = true ∧ e.on = i) :
    ∀ (fuel : Nat) (listed : Array Bool) (a : Act) (w : World),
      (∀ j oj, ops[j]? = some oj → j ≠ i → listed.getD j true = false → (∀ e ∈ oj.after, Region.binds md e = true → e.on ≠ i) → oi.apart ops oj = true) →
      i ∈ Region.ready md ops listed → YieldsS P ops S' oi v a → (listed.getD last true = false → S w) → ((∀ w, S' w) ∨ listed.getD last true = false) →
      wpAnyL P md ops Q S last fuel (listed.setIfInBounds i true) (a.put oi.dst v) w → wpAnyL P md ops Q S last (fuel + 1) listed a w := by
  have hone : ∀ (w : World) (listed : Array Bool), (listed.getD last true = false → S w) → ((∀ w, S' w) ∨ listed.getD last true = false) → S' w := fun w listed hS h => h.elim (fun h => h w) fun h => hla.elim (fun h => h w) fun h2 => h2.1 w (hS h)
  intro fuel
  induction fuel with
  | zero =>
    intro listed a w _ hr hy hS hls H
    refine ⟨fun h => (by rw [h] at hr; cases hr), fun j hj => ?_⟩
    by_cases hji : j = i
    · subst hji; exact hy.wpOp hi (hone w _ hS hls) ⟨fun h => hS (ne_last h).2, H⟩
    · have := ready_mono hj hji
      rw [H.1] at this
      cases this
  | succ fuel ih =>
    intro listed a w hfree hr hy hS hls H
    refine ⟨fun h => (by rw [h] at hr; cases hr), fun j hj => ?_⟩
    by_cases hji : j = i
    · subst hji; exact hy.wpOp hi (hone w _ hS hls) ⟨fun h => hS (ne_last h).2, H⟩
    · have h1 := H.2 j (ready_mono hj hji)
      obtain ⟨hjun, oj, hoj, hall⟩ := mem_ready.1 hj
      have hnot : ∀ e ∈ oj.after, Region.binds md e = true → e.on ≠ i := fun e he hb heq => by
        have h1 := hall e he hb
        have h0 := (mem_ready.1 hr).1
        rw [heq] at h1
        rcases Nat.lt_or_ge i listed.size with h' | h'
        · simp [h'] at h0 h1; rw [h0] at h1; cases h1
        · simp [Array.getElem?_eq_none h'] at h1
      have hls' : (∀ w, S' w) ∨ (listed.setIfInBounds j true).getD last true = false := by
        rcases hla with h | ⟨_, hla⟩
        · exact .inl h
        · rcases hls with h | h
          · exact .inl h
          · refine .inr ?_
            have hjl : j ≠ last := fun e => by
              subst e
              obtain ⟨e, he, hb, ho⟩ := hla oj hoj
              exact hnot e he hb ho
            rw [getD_set_ne true hjl]; exact h
      have h2 := wpOp_putS hoj (hfree j oj hoj hji hjun hnot) (fun cs b => hsel i oi cs b hi) (fun cs b => hsel j oj cs b hoj) hQ hy h1
      have hfree' : ∀ k ok, ops[k]? = some ok → k ≠ i → (listed.setIfInBounds j true).getD k true = false →
          (∀ e ∈ ok.after, Region.binds md e = true → e.on ≠ i) → oi.apart ops ok = true := fun k ok hk hki hun hno => by
        refine hfree k ok hk hki ?_ hno
        by_cases hjk : j = k
        · subst hjk; exact hjun
        · rw [getD_set_ne true hjk] at hun; exact hun
      refine wpOp_mono (fun a' w' h3 => ?_) h2
      have hSj : (listed.setIfInBounds j true).getD last true = false → S w' := fun h => h3.2.1 (by
        rw [Array.setIfInBounds_comm _ _ (Ne.symm hji), getD_set_ne true hil]; exact h)
      refine ⟨hSj, ih (listed.setIfInBounds j true) a' w' hfree' (ready_mono hr (Ne.symm hji)) h3.1 hSj hls' ?_⟩
      rw [Array.setIfInBounds_comm _ _ hji]
      exact h3.2.2
theorem wpAnyL_firstS {i : Nat} {oi : Oper} {v : Value} (hi : ops[i]? = some oi) (hsel : ∀ (j : Nat) (o : Oper) cs b, ops[j]? = some o → o.op ≠ .select cs b)
    (hQ : ∀ c a w, Q (.panic c) (a.put oi.dst v) w → Q (.panic c) a w) (hil : i ≠ last) (hla : ∀ o, ops[last]? = some o → ∃ e ∈ o.after, Region.binds md e = true ∧ e.on = i) :
    ∀ (fuel : Nat) (listed : Array Bool) (a : Act) (w : World),
      (∀ j oj, ops[j]? = some oj → j ≠ i → listed.getD j true = false → (∀ e ∈ oj.after, Region.binds md e = true → e.on ≠ i) → oi.apart ops oj = true) →
      i ∈ Region.ready md ops listed → YieldsS P ops S oi v a → S w → listed.getD last true = false →
      wpAnyL P md ops Q S last fuel (listed.setIfInBounds i true) (a.put oi.dst v) w → wpAnyL P md ops Q S last (fuel + 1) listed a w :=
  fun fuel listed a w h1 h2 h3 h4 h5 h6 => wpAnyL_firstG hi hsel hQ hil (.inr ⟨fun _ h => h, hla⟩) fuel listed a w h1 h2 h3 (fun _ => h4) (.inr h5) h6
/-- a pure operation, that need not come ahead of the last -/
theorem wpAnyL_pure {l : List Oper} (i : Nat) {fuel : Nat} {listed : Array Bool} {a : Act} {w : World} {o : Oper} {rest : List Oper} (hs : (Region.noSelect l.toArray && firstsOK md l.toArray i 1 listed && decide (i ≠ last)) = true) (ho : l.drop i = o :: rest) (hS : listed.getD last true = false → S w) (hQ : ∀ c a w t v, Q (.panic c) (a.put (some t) v) w → Q (.panic c) a w)
    (h : wpFirst P l.toArray (fun _ => True) (fun a' => wpAnyL P md l.toArray Q S last fuel (listed.setIfInBounds i true) a' w) [o] a) : wpAnyL P md l.toArray Q S last (fuel + 1) listed a w := by
  simp only [Bool.and_eq_true, decide_eq_true_eq] at hs
  obtain ⟨⟨h1, h2⟩, h3⟩ := hs
  simp only [firstsOK, Bool.and_eq_true] at h2
  obtain ⟨⟨hf, hr⟩, _⟩ := h2
  have h0 : l.toArray[i]? = some o := by
    have : (l.drop i)[0]? = some o := by rw [ho]; rfl
    rw [List.getElem?_drop] at this
    simpa using this
  obtain ⟨v, hy, h⟩ := h
  exact wpAnyL_firstG h0 (Region.noSelect_spec h1) (fun c a w => by cases o.dst with | none => exact id | some t => exact hQ c a w t _) h3 (.inl fun _ => trivial) fuel listed a w (Region.free_spec h0 hf) (by simpa using hr) hy hS (.inl fun _ => trivial) h
/-- the operations lo .. lo+n-1 come ahead of the last -/
def aheadOK (md : Region.Mode) (ops : Array Oper) (last lo n : Nat) : Bool :=
  decide (lo + n ≤ last) && match ops[last]? with | some o => (List.range n).all fun j => o.after.any fun e => Region.binds md e && e.on == lo + j | none => true
theorem wpAnyL_firsts (hs : Region.noSelect ops = true) {w : World} (hS : S w) (hQ : ∀ c a w t v, Q (.panic c) (a.put (some t) v) w → Q (.panic c) a w) :
    ∀ (n lo fuel : Nat) (listed : Array Bool) (a : Act) (l : List Oper), (∀ j, j < n → ops[lo + j]? = l[j]?) → l.length = n → firstsOK md ops lo n listed = true → listed.getD last true = false → (∀ j, j < n → lo + j ≠ last ∧ ∀ o, ops[last]? = some o → ∃ e ∈ o.after, Region.binds md e = true ∧ e.on = lo + j) →
      wpFirst P ops S (fun a' => wpAnyL P md ops Q S last fuel (marks lo n listed) a' w) l a → wpAnyL P md ops Q S last (fuel + n) listed a w
  | 0, lo, fuel, listed, a, l, _, hl, _, _, _, h => by
    obtain rfl := List.length_eq_zero_iff.1 hl
    exact h
  | n + 1, lo, fuel, listed, a, [], _, hl, _, _, _, _ => by simp at hl
  | n + 1, lo, fuel, listed, a, o :: l, hj, hl, hok, hun, hla, ⟨v, hy, h⟩ => by
    simp only [firstsOK, Bool.and_eq_true] at hok
    obtain ⟨⟨hf, hr⟩, hok⟩ := hok
    have h0 : ops[lo]? = some o := by have := hj 0 (by omega); simpa using this
    refine wpAnyL_firstS h0 (Region.noSelect_spec hs) (fun c a w => by cases o.dst with | none => exact id | some t => exact hQ c a w t _) (by have := (hla 0 (by omega)).1; simpa using this) (by have := (hla 0 (by omega)).2; simpa using this) (fuel + n) listed a w (Region.free_spec h0 hf) (by simpa using hr) hy hS hun ?_
    exact wpAnyL_firsts hs hS hQ n (lo + 1) fuel _ _ l (fun j hjn => by have := hj (j + 1) (by omega); rw [show lo + 1 + j = lo + (j + 1) by omega, this]; rfl) (by simpa using hl) hok (by rw [getD_set_ne true (by have := (hla 0 (by omega)).1; simpa using this)]; exact hun) (fun j hjn => by have := hla (j + 1) (by omega); rwa [show lo + (j + 1) = lo + 1 + j by omega] at this) h
theorem wpAnyL_take_n {l : List Oper} (lo n : Nat) {fuel : Nat} {listed : Array Bool} {a : Act} {w : World} (hs : (Region.noSelect l.toArray && firstsOK md l.toArray lo n listed && decide (lo + n ≤ l.length) && aheadOK md l.toArray last lo n && !listed.getD last true) = true) (hS : S w) (hQ : ∀ c a w t v, Q (.panic c) (a.put (some t) v) w → Q (.panic c) a w)
    (h : wpFirst P l.toArray S (fun a' => wpAnyL P md l.toArray Q S last fuel (marks lo n listed) a' w) ((l.drop lo).take n) a) : wpAnyL P md l.toArray Q S last (fuel + n) listed a w := by
  simp only [Bool.and_eq_true, decide_eq_true_eq, aheadOK] at hs
  obtain ⟨⟨⟨⟨h1, h2⟩, h3⟩, h4, h5⟩, h6⟩ := hs
  refine wpAnyL_firsts h1 hS hQ n lo fuel listed a _ (fun j hj => ?_) ?_ h2 (by simpa using h6) (fun j hj => ⟨by omega, fun o ho => ?_⟩) h
  · rw [List.getElem?_take, if_pos hj, List.getElem?_drop]; simp
  · simp; omega
  · rw [ho] at h5
    obtain ⟨k, hk, he⟩ := Array.any_eq_true.1 (List.all_eq_true.1 h5 j (List.mem_range.2 hj))
    rw [Bool.and_eq_true, beq_iff_eq] at he
    exact ⟨_, Array.getElem_mem hk, he.1, he.2⟩
/-- one operation comes up; behind it S is shown anew, but for the last -/
theorem wpAnyL_one {l : List Oper} (i : Nat) {o : Oper} {rest : List Oper} {fuel : Nat} {listed : Array Bool} {a : Act} {w : World} (hr : Region.ready md l.toArray listed = [i]) (ho : l.drop i = o :: rest)
    (h : ∀ K : Act → World → Prop, Shut (∀ a w, (i ≠ last → S w) → wpAnyL P md l.toArray Q S last fuel (listed.setIfInBounds i true) a w → K a w) → if Region.wanted o (yielded l.toArray a.tmps) = true then Oper.wp P o a w K Q else K (a.put o.dst undef) w) :
    wpAnyL P md l.toArray Q S last (fuel + 1) listed a w := by
  have ho' : l.toArray[i]? = some o := by
    have : (l.drop i)[0]? = some o := by rw [ho]; rfl
    rw [List.getElem?_drop] at this
    simpa using this
  refine ⟨fun h => (by rw [hr] at h; cases h), fun k hk => ?_⟩
  rw [hr] at hk
  obtain rfl : k = i := by simpa using hk
  exact wpOp_step ho' fun K hK => h K fun a w hS hW => hK a w ⟨fun h => hS (ne_last h).1, hW⟩
/-- .. behind the last: nothing of S is asked -/
theorem wpAnyL_late {l : List Oper} (i : Nat) {o : Oper} {rest : List Oper} {fuel : Nat} {listed : Array Bool} {a : Act} {w : World} (hr : Region.ready md l.toArray listed = [i]) (ho : l.drop i = o :: rest) (hl : listed.getD last true = true)
    (h : ∀ K : Act → World → Prop, Shut (∀ a w, wpAnyL P md l.toArray Q S last fuel (listed.setIfInBounds i true) a w → K a w) → if Region.wanted o (yielded l.toArray a.tmps) = true then Oper.wp P o a w K Q else K (a.put o.dst undef) w) :
    wpAnyL P md l.toArray Q S last (fuel + 1) listed a w := by
  have ho' : l.toArray[i]? = some o := by
    have : (l.drop i)[0]? = some o := by rw [ho]; rfl
    rw [List.getElem?_drop] at this
    simpa using this
  refine ⟨fun h => (by rw [hr] at h; cases h), fun k hk => ?_⟩
  rw [hr] at hk
  obtain rfl : k = i := by simpa using hk
  exact wpOp_step ho' fun K hK => h K fun a w hW => hK a w ⟨fun h => absurd (hl.symm.trans (ne_last h).2) (by decide), hW⟩
theorem wpAnyL_done {listed : Array Bool} {a : Act} {w : World} (hr : Region.ready md ops listed = []) (h : Q .normal a w) (fuel : Nat) : wpAnyL P md ops Q S last fuel listed a w := by
  cases fuel with
  | zero => exact ⟨hr, h⟩
  | succ n => exact ⟨fun _ => h, fun i hi => by rw [hr] at hi; cases hi⟩
end
end Go.Proofs.Ytbibippdafnenaa
