/- Errors in plain words: the counts by bytes and by bits are the same. No program in sight. -/
import Derived.Test.YtdmfjmdnkfeljaaDoorMgC
import Derived.Test.YtdmfjmdnkfeljaaDoorMgA
import Derived.Shelf.Small.Bits
namespace Go.Proofs.YtdmfjmdnkfeljaaDoor

def ones (d : BitVec 8) : Int := (Lib.onesCount (N d) : Nat)
def blen (d : BitVec 8) : Int := (Lib.bitLen (N d) : Nat)
def trail (d : BitVec 8) : Int := (Lib.trailingZeros8 (N d) : Nat)

/-- count, least, greatest after a byte's difference d at place i -/
def errStep (s : Int × Int × Int) (i : Nat) (d : BitVec 8) : Int × Int × Int :=
  if d = 0 then s else (s.1 + ones d, if s.1 = 0 then 8 * i + trail d else s.2.1, 8 * i + blen d - 1)
def errs (a b : List (BitVec 8)) : Nat → Int × Int × Int
  | 0 => (0, 0, -1)
  | k + 1 => errStep (errs a b k) k (a.getD k 0 ^^^ b.getD k 0)
/-- what Errors returns -/
def errors (a b : List (BitVec 8)) : Int × Int :=
  if a.length = b.length then ((errs a b a.length).1, (errs a b a.length).2.2 - (errs a b a.length).2.1 + 1) else (-1, -1)

/-- the reference: n, first, last after bit k of a difference d at place i -/
def refStep (d : BitVec 8) (i : Nat) (s : Int × Int × Int) (k : Nat) : Int × Int × Int :=
  if d.getLsbD k then (s.1 + 1, if s.2.1 < 0 then 8 * i + k else s.2.1, 8 * i + k) else s
def refBitsE (d : BitVec 8) (i : Nat) (s : Int × Int × Int) : Nat → Int × Int × Int
  | 0 => s
  | k + 1 => refStep d i (refBitsE d i s k) k
def refErrs (a b : List (BitVec 8)) : Nat → Int × Int × Int
  | 0 => (0, -1, -1)
  | k + 1 => refBitsE (a.getD k 0 ^^^ b.getD k 0) k (refErrs a b k) 8

/-- how many bits, and the least and greatest of them, among the first k -/
def rel (d : BitVec 8) : Nat → Nat × Option Nat × Option Nat
  | 0 => (0, none, none)
  | k + 1 => if d.getLsbD k then ((rel d k).1 + 1, some (((rel d k).2.1).getD k), some k) else rel d k
theorem refBitsE_rel (d : BitVec 8) (i : Nat) (s : Int × Int × Int) (k : Nat) :
    refBitsE d i s k = (s.1 + (rel d k).1, (match (rel d k).2.1 with | some f => if s.2.1 < 0 then 8 * (i : Int) + f else s.2.1 | none => s.2.1), (match (rel d k).2.2 with | some l => 8 * (i : Int) + l | none => s.2.2)) := by
  induction k with
  | zero => simp [refBitsE, rel]
  | succ k ih =>
    show refStep d i (refBitsE d i s k) k = _
    rw [ih]
    unfold refStep
    simp only [rel]
    by_cases h : d.getLsbD k
    · simp only [h, if_true]
      cases hf : (rel d k).2.1 with
      | none => simp only [Option.getD_none, Prod.mk.injEq, and_true]; omega
      | some f =>
        simp only [Option.getD_some, Prod.mk.injEq, and_true]
        refine ⟨by omega, ?_⟩
        by_cases h2 : s.2.1 < 0
        · simp only [h2, if_true]; rw [if_neg (by omega)]
        · simp only [h2, if_false]
    · simp [h]
theorem rel8 : ∀ d : BitVec 8, d ≠ 0 → ((rel d 8).1 : Int) = ones d ∧ 1 ≤ (rel d 8).1 ∧ (∃ f, (rel d 8).2.1 = some f ∧ (f : Int) = trail d) ∧ ∃ l, (rel d 8).2.2 = some l ∧ (l : Int) = blen d - 1 := by
  have h : ∀ d : BitVec 8, d ≠ 0 → (rel d 8).1 = Lib.onesCount (N d) ∧ 1 ≤ (rel d 8).1 ∧ (rel d 8).2.1 = some (Lib.trailingZeros8 (N d)) ∧ 1 ≤ Lib.bitLen (N d) ∧ (rel d 8).2.2 = some (Lib.bitLen (N d) - 1) := by decide +kernel
  intro d hd
  obtain ⟨h1, h2, h3, h4, h5⟩ := h d hd
  exact ⟨by rw [h1]; rfl, h2, ⟨_, h3, rfl⟩, ⟨_, h5, by unfold blen; omega⟩⟩
theorem rel8_zero : rel (0 : BitVec 8) 8 = (0, none, none) := by decide +kernel
theorem trail_nonneg (d : BitVec 8) : 0 ≤ trail d := by unfold trail; omega
theorem errs_refErrs (a b : List (BitVec 8)) (k : Nat) :
    (errs a b k).1 = (refErrs a b k).1 ∧ 0 ≤ (errs a b k).1 ∧
    (((errs a b k).1 = 0 ∧ errs a b k = (0, 0, -1) ∧ refErrs a b k = (0, -1, -1)) ∨
     (0 < (errs a b k).1 ∧ 0 ≤ (errs a b k).2.1 ∧ (errs a b k).2.1 = (refErrs a b k).2.1 ∧ (errs a b k).2.2 = (refErrs a b k).2.2)) := by
  induction k with
  | zero => exact ⟨rfl, Int.le_refl 0, .inl ⟨rfl, rfl, rfl⟩⟩
  | succ k ih =>
    obtain ⟨h1, h2, h3⟩ := ih
    show (errStep (errs a b k) k _).1 = (refBitsE _ k (refErrs a b k) 8).1 ∧ _
    have e1 : errs a b (k + 1) = errStep (errs a b k) k (a.getD k 0 ^^^ b.getD k 0) := rfl
    have e2 : refErrs a b (k + 1) = refBitsE (a.getD k 0 ^^^ b.getD k 0) k (refErrs a b k) 8 := rfl
    rw [e1, e2, refBitsE_rel]
    generalize a.getD k 0 ^^^ b.getD k 0 = d
    by_cases hd : d = 0
    · subst hd
      rw [rel8_zero]
      simp only [errStep, if_true, Int.natCast_zero, Int.add_zero]
      exact ⟨h1, h2, h3⟩
    · obtain ⟨r1, r2, ⟨f, r3, r4⟩, l, r5, r6⟩ := rel8 d hd
      have ht := trail_nonneg d
      simp only [errStep, if_neg hd, r3, r5]
      rw [r4, r6, ← r1]
      refine ⟨by omega, by omega, .inr ⟨by omega, ?_⟩⟩
      rcases h3 with ⟨g1, g2, g3⟩ | ⟨g1, g2, g3, g4⟩
      · rw [g2, g3]
        exact ⟨by simp; omega, by simp, Int.add_sub_assoc (8 * (k : Int)) (blen d) 1⟩
      · rw [if_neg (by omega), if_neg (by omega)]
        exact ⟨g2, g3, Int.add_sub_assoc (8 * (k : Int)) (blen d) 1⟩
/-- what the reference returns -/
def refErrors (a b : List (BitVec 8)) : Int × Int :=
  if (refErrs a b a.length).1 = 0 then (0, 0) else ((refErrs a b a.length).1, (refErrs a b a.length).2.2 - (refErrs a b a.length).2.1 + 1)
theorem errors_ref (a b : List (BitVec 8)) (h : a.length = b.length) : errors a b = refErrors a b := by
  obtain ⟨h1, h2, h3⟩ := errs_refErrs a b a.length
  unfold errors refErrors
  rw [if_pos h]
  rcases h3 with ⟨g1, g2, g3⟩ | ⟨g1, g2, g3, g4⟩
  · rw [g2, g3]; simp
  · rw [if_neg (by omega), h1, g3, g4]
theorem errs_symm (a b : List (BitVec 8)) (k : Nat) : errs a b k = errs b a k := by
  induction k with
  | zero => rfl
  | succ k ih => show errStep _ k _ = errStep _ k _; rw [ih, BitVec.xor_comm]
theorem errors_symm (a b : List (BitVec 8)) : errors a b = errors b a := by
  unfold errors
  by_cases h : a.length = b.length
  · rw [if_pos h, if_pos h.symm, h, errs_symm]
  · rw [if_neg h, if_neg (fun e => h e.symm)]
/-- bounds, for the walk -/
theorem bl : ∀ d : BitVec 8, Lib.onesCount (N d) ≤ 8 ∧ Lib.bitLen (N d) ≤ 8 ∧ Lib.trailingZeros8 (N d) ≤ 8 := by decide +kernel
theorem ones_bd (d : BitVec 8) : 0 ≤ ones d ∧ ones d ≤ 8 := by have := (bl d).1; unfold ones; omega
theorem blen_bd (d : BitVec 8) : 0 ≤ blen d ∧ blen d ≤ 8 := by have := (bl d).2.1; unfold blen; omega
theorem trail_bd (d : BitVec 8) : 0 ≤ trail d ∧ trail d ≤ 8 := by have := (bl d).2.2; unfold trail; omega
theorem errs_bd (a b : List (BitVec 8)) (k : Nat) : 0 ≤ (errs a b k).1 ∧ (errs a b k).1 ≤ 8 * k ∧ 0 ≤ (errs a b k).2.1 ∧ (errs a b k).2.1 ≤ 8 * k ∧ -1 ≤ (errs a b k).2.2 ∧ (errs a b k).2.2 ≤ 8 * k := by
  induction k with
  | zero => simp [errs]
  | succ k ih =>
    show 0 ≤ (errStep (errs a b k) k _).1 ∧ _
    have e1 : errs a b (k + 1) = errStep (errs a b k) k (a.getD k 0 ^^^ b.getD k 0) := rfl
    rw [e1]
    generalize a.getD k 0 ^^^ b.getD k 0 = d
    have h1 := ones_bd d
    have h2 := blen_bd d
    have h3 := trail_bd d
    unfold errStep
    split
    · omega
    · dsimp only
      split <;> omega
theorem refBits_bd (d : BitVec 8) (i : Nat) (s : Int × Int × Int) (k : Nat) (hk : k ≤ 8) (h : 0 ≤ s.1 ∧ s.1 ≤ 8 * i ∧ -1 ≤ s.2.1 ∧ s.2.1 ≤ 8 * i ∧ -1 ≤ s.2.2 ∧ s.2.2 ≤ 8 * i) :
    0 ≤ (refBitsE d i s k).1 ∧ (refBitsE d i s k).1 ≤ 8 * i + k ∧ -1 ≤ (refBitsE d i s k).2.1 ∧ (refBitsE d i s k).2.1 ≤ 8 * i + k ∧ -1 ≤ (refBitsE d i s k).2.2 ∧ (refBitsE d i s k).2.2 ≤ 8 * i + k := by
  induction k with
  | zero => simpa [refBitsE] using h
  | succ k ih =>
    have := ih (by omega)
    show 0 ≤ (refStep d i (refBitsE d i s k) k).1 ∧ _
    have e1 : refBitsE d i s (k + 1) = refStep d i (refBitsE d i s k) k := rfl
    rw [e1]
    unfold refStep
    split
    · dsimp only; split <;> omega
    · omega
theorem refErrs_bd (a b : List (BitVec 8)) (k : Nat) : 0 ≤ (refErrs a b k).1 ∧ (refErrs a b k).1 ≤ 8 * k ∧ -1 ≤ (refErrs a b k).2.1 ∧ (refErrs a b k).2.1 ≤ 8 * k ∧ -1 ≤ (refErrs a b k).2.2 ∧ (refErrs a b k).2.2 ≤ 8 * k := by
  induction k with
  | zero => simp [refErrs]
  | succ k ih =>
    have := refBits_bd (a.getD k 0 ^^^ b.getD k 0) k (refErrs a b k) 8 (by omega) ih
    have e2 : refErrs a b (k + 1) = refBitsE (a.getD k 0 ^^^ b.getD k 0) k (refErrs a b k) 8 := rfl
    rw [e2]; omega
end Go.Proofs.YtdmfjmdnkfeljaaDoor
