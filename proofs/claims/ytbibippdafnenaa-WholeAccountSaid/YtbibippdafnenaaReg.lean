/- A region that draws its order: operations that yield their value in every world that meets S, calls that only read among them, are taken first, several at once, in the order of the text. No condition on the program. -/
import Derived.Test.YtbibippdafnenaaMgA
import Derived.Deep.RegionHeld
import Derived.Deep.RegionHeld3
import Derived.Still
namespace Go.Proofs.Ytbibippdafnenaa
open Go.RowKit
section
variable {P : Program} {ops : Array Oper} {Q : Exit → Act → World → Prop} {md : Region.Mode} {S : World → Prop}

/-- In state a, in every world that meets S, the operation yields v and leaves the world as it is. -/
def YieldsS (P : Program) (ops : Array Oper) (S : World → Prop) (o : Oper) (v : Value) (a : Act) : Prop :=
  YieldsIf P ops S o v a ∨ (Region.wanted o (yielded ops a.tmps) = true ∧ ∃ (f : FuncId) (args : Array Value), ∀ w, S w → (execOp a.eval o).run P w = .ok (.enter f args) w ∧ Calls P f args w (fun e w' => e = .returned v ∧ w = w'))
theorem YieldsS.wpOp {i : Nat} {o : Oper} {v : Value} {a : Act} (hi : ops[i]? = some o) (hy : YieldsS P ops S o v a)
    {K : Act → World → Prop} {w : World} (hS : S w) (h : K (a.put o.dst v) w) : wpOp P ops Q i K a w := by
  rcases hy with hy | ⟨hw, f, args, hv⟩
  · exact hy.wpOp hi hS h
  · unfold Go.wpOp
    simp only [hi]
    obtain ⟨h1, h2⟩ := hv w hS
    simp only [hw, if_true, Oper.wp, h1, Oper.upon]
    refine .inl (Calls.mono h2 fun e w' he => ?_)
    obtain ⟨rfl, rfl⟩ := he
    exact h
theorem YieldsS.of_same {o : Oper} {v : Value} {a a' : Act} (hy : YieldsS P ops S o v a) (he : execOp a'.eval o = execOp a.eval o)
    (hw : Region.wanted o (yielded ops a'.tmps) = Region.wanted o (yielded ops a.tmps)) : YieldsS P ops S o v a' := by
  unfold YieldsS YieldsIf at *
  rw [he, hw]
  exact hy
theorem wpOp_putS {j : Nat} {oi oj : Oper} {v : Value} (hj : ops[j]? = some oj) (hap : oi.apart ops oj = true)
    (hsi : ∀ cs b, oi.op ≠ .select cs b) (hsj : ∀ cs b, oj.op ≠ .select cs b)
    (hQ : ∀ c a w, Q (.panic c) (a.put oi.dst v) w → Q (.panic c) a w) {K : Act → World → Prop} {a : Act} {w : World}
    (hy : YieldsS P ops S oi v a) (h : wpOp P ops Q j K (a.put oi.dst v) w) :
    wpOp P ops Q j (fun a' w' => YieldsS P ops S oi v a' ∧ K (a'.put oi.dst v) w') a w := by
  obtain ⟨h1, h2, h3⟩ := Oper.apart_spec hap
  have keep : ∀ (a : Act), YieldsS P ops S oi v a → ∀ u, YieldsS P ops S oi v (a.put oj.dst u) := fun a hy u =>
    hy.of_same (execOp_put oi hsi a oj.dst u h3) (wanted_put oi a oj.dst u h3)
  have keepD : ∀ d, YieldsS P ops S oi v { a with defers := d :: a.defers } := fun d => hy.of_same rfl rfl
  unfold Go.wpOp at *
  simp only [hj] at *
  rw [wanted_put oj a oi.dst v h1] at h
  split
  · rename_i hw
    simp only [hw, if_true] at h
    rcases h with h | ⟨hasks, hlets⟩
    case inr => exact .inr ⟨by unfold Oper.asks at *; rw [execOp_put oj hsj a oi.dst v h1] at hasks; exact hasks, hlets⟩
    refine .inl ?_
    unfold Oper.wp at *
    rw [execOp_put oj hsj a oi.dst v h1] at h
    generalize (execOp a.eval oj).run P w = r at *
    cases r with
    | ok n w' =>
      cases n <;> simp only [Oper.upon] at h ⊢
      case value u => exact ⟨keep a hy u, by rw [← Act.put_comm a v u h2]; exact h⟩
      case skip => exact ⟨keep a hy _, by rw [← Act.put_comm a v undef h2]; exact h⟩
      case defer d =>
        refine ⟨keep _ (keepD d) _, ?_⟩
        rw [← Act.put_comm _ v undef h2, ← Act.put_defers]
        exact h
      case enter f args =>
        refine Calls.mono h fun e w'' he => ?_
        cases e with
        | returned u => exact ⟨keep a hy u, by rw [← Act.put_comm a v u h2]; exact he⟩
        | panicked c => exact hQ _ _ _ he
        | outgrown => exact he
      case row row args => exact Rows.mono h fun u w'' he => ⟨keep a hy u, by rw [← Act.put_comm a v u h2]; exact he⟩
    | halt x w' =>
      cases x <;> simp only [Oper.upon] at h ⊢
      case panic u => exact hQ _ _ _ h
  · rename_i hw
    simp only [hw] at h
    exact ⟨keep a hy _, by rw [← Act.put_comm a v undef h2]; exact h⟩
theorem wpAnyH_firstS {i : Nat} {oi : Oper} {v : Value} (hi : ops[i]? = some oi) (hsel : ∀ (j : Nat) (o : Oper) cs b, ops[j]? = some o → o.op ≠ .select cs b)
    (hQ : ∀ c a w, Q (.panic c) (a.put oi.dst v) w → Q (.panic c) a w) :
    ∀ (fuel : Nat) (listed : Array Bool) (a : Act) (w : World),
      (∀ j oj, ops[j]? = some oj → j ≠ i → listed.getD j true = false → (∀ e ∈ oj.after, Region.binds md e = true → e.on ≠ i) → oi.apart ops oj = true) →
      i ∈ Region.ready md ops listed → YieldsS P ops S oi v a → S w →
      wpAnyH P md ops Q S fuel (listed.setIfInBounds i true) (a.put oi.dst v) w → wpAnyH P md ops Q S (fuel + 1) listed a w := by
  intro fuel
  induction fuel with
  | zero =>
    intro listed a w _ hr hy hS H
    refine ⟨fun h => (by rw [h] at hr; cases hr), fun j hj => ?_⟩
    by_cases hji : j = i
    · subst hji; exact hy.wpOp hi hS ⟨hS, H⟩
    · have := ready_mono hj hji
      rw [H.1] at this
      cases this
  | succ fuel ih =>
    intro listed a w hfree hr hy hS H
    refine ⟨fun h => (by rw [h] at hr; cases hr), fun j hj => ?_⟩
    by_cases hji : j = i
    · subst hji; exact hy.wpOp hi hS ⟨hS, H⟩
    · have h1 := H.2 j (ready_mono hj hji)
      obtain ⟨hjun, oj, hoj, hall⟩ := mem_ready.1 hj
      have hnot : ∀ e ∈ oj.after, Region.binds md e = true → e.on ≠ i := fun e he hb heq => by
        have h1 := hall e he hb
        have h0 := (mem_ready.1 hr).1
        rw [heq] at h1
        rcases Nat.lt_or_ge i listed.size with h' | h'
        · simp [h'] at h0 h1; rw [h0] at h1; cases h1
        · simp [Array.getElem?_eq_none h'] at h1
      have h2 := wpOp_putS hoj (hfree j oj hoj hji hjun hnot) (fun cs b => hsel i oi cs b hi) (fun cs b => hsel j oj cs b hoj) hQ hy h1
      have hfree' : ∀ k ok, ops[k]? = some ok → k ≠ i → (listed.setIfInBounds j true).getD k true = false →
          (∀ e ∈ ok.after, Region.binds md e = true → e.on ≠ i) → oi.apart ops ok = true := fun k ok hk hki hun hno => by
        refine hfree k ok hk hki ?_ hno
        by_cases hjk : j = k
        · subst hjk; exact hjun
        · rw [getD_set_ne true hjk] at hun; exact hun
      refine wpOp_mono (fun a' w' h3 => ⟨h3.2.1, ih (listed.setIfInBounds j true) a' w' hfree' (ready_mono hr (Ne.symm hji)) h3.1 h3.2.1 ?_⟩) h2
      rw [Array.setIfInBounds_comm _ _ hji]
      exact h3.2.2

/-- The operations of a list, each in every world that meets S, one behind the other. -/
def wpFirst (P : Program) (ops : Array Oper) (S : World → Prop) (Q : Act → Prop) : List Oper → Act → Prop
  | [], a => Q a
  | o :: rest, a => ∃ v, YieldsS P ops S o v a ∧ wpFirst P ops S Q rest (a.put o.dst v)
theorem wpFirst_nil {Q : Act → Prop} {a : Act} (h : Q a) : wpFirst P ops S Q [] a := h
theorem wpFirst_val {Q : Act → Prop} {a : Act} {o : Oper} {rest : List Oper} {v : Value} (hw : Region.wanted o (yielded ops a.tmps) = true)
    (hv : ∀ w, S w → (execOp a.eval o).run P w = .ok (.value v) w) (h : wpFirst P ops S Q rest (a.put o.dst v)) : wpFirst P ops S Q (o :: rest) a :=
  ⟨v, .inl (.inl ⟨hw, hv⟩), h⟩
theorem wpFirst_un {Q : Act → Prop} {a : Act} {o : Oper} {rest : List Oper} (hw : Region.wanted o (yielded ops a.tmps) = false)
    (h : wpFirst P ops S Q rest (a.put o.dst undef)) : wpFirst P ops S Q (o :: rest) a :=
  ⟨undef, .inl (.inr ⟨hw, rfl⟩), h⟩
theorem wpFirst_call {Q : Act → Prop} {a : Act} {o : Oper} {rest : List Oper} {v : Value} {f : FuncId} {args : Array Value} (hw : Region.wanted o (yielded ops a.tmps) = true)
    (hv : ∀ w, (execOp a.eval o).run P w = .ok (.enter f args) w) (hc : ∀ w, S w → Calls P f args w (fun e w' => e = .returned v ∧ w = w')) (h : wpFirst P ops S Q rest (a.put o.dst v)) : wpFirst P ops S Q (o :: rest) a :=
  ⟨v, .inr ⟨hw, f, args, fun w hS => ⟨hv w, hc w hS⟩⟩, h⟩
/-- the operations lo .. lo+n-1 may be taken first, one behind the other -/
def firstsOK (md : Region.Mode) (ops : Array Oper) : Nat → Nat → Array Bool → Bool
  | _, 0, _ => true
  | lo, n + 1, listed => Region.free md ops listed lo && (Region.ready md ops listed).contains lo && firstsOK md ops (lo + 1) n (listed.setIfInBounds lo true)
def marks : Nat → Nat → Array Bool → Array Bool
  | _, 0, listed => listed
  | lo, n + 1, listed => marks (lo + 1) n (listed.setIfInBounds lo true)
theorem wpAnyH_firsts (hs : Region.noSelect ops = true) {w : World} (hS : S w) (hQ : ∀ c a w t v, Q (.panic c) (a.put (some t) v) w → Q (.panic c) a w) :
    ∀ (n lo fuel : Nat) (listed : Array Bool) (a : Act) (l : List Oper), (∀ j, j < n → ops[lo + j]? = l[j]?) → l.length = n → firstsOK md ops lo n listed = true →
      wpFirst P ops S (fun a' => wpAnyH P md ops Q S fuel (marks lo n listed) a' w) l a → wpAnyH P md ops Q S (fuel + n) listed a w
  | 0, lo, fuel, listed, a, l, _, hl, _, h => by
    obtain rfl := List.length_eq_zero_iff.1 hl
    exact h
  | n + 1, lo, fuel, listed, a, [], _, hl, _, _ => by simp at hl
  | n + 1, lo, fuel, listed, a, o :: l, hj, hl, hok, ⟨v, hy, h⟩ => by
    simp only [firstsOK, Bool.and_eq_true] at hok
    obtain ⟨⟨hf, hr⟩, hok⟩ := hok
    have h0 : ops[lo]? = some o := by have := hj 0 (by omega); simpa using this
    refine wpAnyH_firstS h0 (Region.noSelect_spec hs) (fun c a w => by cases o.dst with | none => exact id | some t => exact hQ c a w t _) (fuel + n) listed a w (Region.free_spec h0 hf) (by simpa using hr) hy hS ?_
    exact wpAnyH_firsts hs hS hQ n (lo + 1) fuel _ _ l (fun j hjn => by have := hj (j + 1) (by omega); rw [show lo + 1 + j = lo + (j + 1) by omega, this]; rfl) (by simpa using hl) hok h
/-- The moves as a walk uses them: n operations from lo on, of a region written out as a list. -/
theorem wpAnyH_take_n {l : List Oper} (lo n : Nat) {fuel : Nat} {listed : Array Bool} {a : Act} {w : World} (hs : (Region.noSelect l.toArray && firstsOK md l.toArray lo n listed && decide (lo + n ≤ l.length)) = true) (hS : S w) (hQ : ∀ c a w t v, Q (.panic c) (a.put (some t) v) w → Q (.panic c) a w)
    (h : wpFirst P l.toArray S (fun a' => wpAnyH P md l.toArray Q S fuel (marks lo n listed) a' w) ((l.drop lo).take n) a) : wpAnyH P md l.toArray Q S (fuel + n) listed a w := by
  simp only [Bool.and_eq_true, decide_eq_true_eq] at hs
  obtain ⟨⟨h1, h2⟩, h3⟩ := hs
  refine wpAnyH_firsts h1 hS hQ n lo fuel listed a _ (fun j hj => ?_) ?_ h2 h
  · rw [List.getElem?_take, if_pos hj, List.getElem?_drop]; simp
  · simp; omega
/-- a call of a Go function, as a step -/
theorem step_call {o : Oper} {a : Act} {w : World} {K : Act → World → Prop} {E : Prop} {f : FuncId} {args : Array Value} (hw : Region.wanted o (yielded ops a.tmps) = true) (hr : (execOp a.eval o).run P w = .ok (.enter f args) w)
    (hc : Calls P f args w (fun e w' => ∃ v, e = .returned v ∧ K (a.put o.dst v) w')) : if Region.wanted o (yielded ops a.tmps) = true then Oper.wp P o a w K Q else E := by
  rw [if_pos hw]
  unfold Oper.wp
  rw [hr]
  simp only [Oper.upon]
  refine Calls.mono hc fun e w' he => ?_
  obtain ⟨v, rfl, h⟩ := he
  exact h
/-- an operation that yields a value and leaves the world -/
theorem step_val {o : Oper} {a : Act} {w w' : World} {K : Act → World → Prop} {E : Prop} {v : Value} (hw : Region.wanted o (yielded ops a.tmps) = true) (hr : (execOp a.eval o).run P w = .ok (.value v) w') (hc : K (a.put o.dst v) w') : if Region.wanted o (yielded ops a.tmps) = true then Oper.wp P o a w K Q else E := by
  rw [if_pos hw]
  unfold Oper.wp
  rw [hr]
  exact hc
/-- one operation comes up; behind it S is shown anew -/
theorem wpAnyH_one {l : List Oper} (i : Nat) {o : Oper} {rest : List Oper} {fuel : Nat} {listed : Array Bool} {a : Act} {w : World} (hr : Region.ready md l.toArray listed = [i]) (ho : l.drop i = o :: rest)
    (h : ∀ K : Act → World → Prop, Shut (∀ a w, S w → wpAnyH P md l.toArray Q S fuel (listed.setIfInBounds i true) a w → K a w) → if Region.wanted o (yielded l.toArray a.tmps) = true then Oper.wp P o a w K Q else K (a.put o.dst undef) w) :
    wpAnyH P md l.toArray Q S (fuel + 1) listed a w := by
  have ho' : l.toArray[i]? = some o := by
    have : (l.drop i)[0]? = some o := by rw [ho]; rfl
    rw [List.getElem?_drop] at this
    simpa using this
  refine wpAnyH_all hr (by simp) fun k hk => ?_
  obtain rfl : k = i := by simpa using hk
  exact wpOp_step ho' fun K hK => h K fun a w hS hW => hK a w ⟨hS, hW⟩
theorem wpAnyH_two {l : List Oper} (i j : Nat) {o o' : Oper} {rest rest' : List Oper} {fuel : Nat} {listed : Array Bool} {a : Act} {w : World} (hr : Region.ready md l.toArray listed = [i, j]) (ho : l.drop i = o :: rest) (ho' : l.drop j = o' :: rest')
    (h : ∀ K : Act → World → Prop, Shut (∀ a w, S w → wpAnyH P md l.toArray Q S fuel (listed.setIfInBounds i true) a w → K a w) → if Region.wanted o (yielded l.toArray a.tmps) = true then Oper.wp P o a w K Q else K (a.put o.dst undef) w)
    (h' : ∀ K : Act → World → Prop, Shut (∀ a w, S w → wpAnyH P md l.toArray Q S fuel (listed.setIfInBounds j true) a w → K a w) → if Region.wanted o' (yielded l.toArray a.tmps) = true then Oper.wp P o' a w K Q else K (a.put o'.dst undef) w) :
    wpAnyH P md l.toArray Q S (fuel + 1) listed a w := by
  have hget : ∀ (k : Nat) (p : Oper) (r : List Oper), l.drop k = p :: r → l.toArray[k]? = some p := fun k p r hk => by
    have : (l.drop k)[0]? = some p := by rw [hk]; rfl
    rw [List.getElem?_drop] at this
    simpa using this
  refine wpAnyH_all hr (by simp) fun k hk => ?_
  rcases List.mem_cons.1 hk with rfl | hk
  · exact wpOp_step (hget _ _ _ ho) fun K hK => h K fun a w hS hW => hK a w ⟨hS, hW⟩
  · obtain rfl : k = j := by simpa using hk
    exact wpOp_step (hget _ _ _ ho') fun K hK => h' K fun a w hS hW => hK a w ⟨hS, hW⟩
end
end Go.Proofs.Ytbibippdafnenaa
