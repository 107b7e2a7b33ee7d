/- A cable in plain words: faults, transmissions in flight, what the operations do. No condition on the program. -/
import Derived.Test.YtekojekgjfefkaaBv
namespace Go.Proofs.Ytekojekgjfefkaa

structure Flt where
  at' : Int
  kind : Int
  arg : Int
def Flt.zero : Flt := ⟨0, 0, 0⟩
/-- in ascending order of the places -/
def Asc (fs : List Flt) : Prop := ∀ (i j : Nat) (f g : Flt), i < j → fs[i]? = some f → fs[j]? = some g → f.at' < g.at'
/-- the fault at a place -/
def faultOf (fs : List Flt) (t : Int) : Flt := match fs.find? (fun f => f.at' == t) with | some f => f | none => Flt.zero
/-- a valid list of faults behind a place -/
def okF : Int → List Flt → Bool
  | _, [] => true
  | last, f :: fs => decide (last < f.at') && decide (1 ≤ f.kind) && decide (f.kind ≤ 3) && decide (0 ≤ f.arg) && okF f.at' fs
theorem okF_asc : ∀ {fs : List Flt} {last : Int}, okF last fs = true → Asc fs ∧ (∀ (i : Nat) f, fs[i]? = some f → last < f.at' ∧ 1 ≤ f.kind ∧ f.kind ≤ 3 ∧ 0 ≤ f.arg)
  | [], _, _ => ⟨fun i j f g _ h => by simp at h, fun i f h => by simp at h⟩
  | a :: fs, last, h => by
    simp only [okF, Bool.and_eq_true, decide_eq_true_eq] at h
    obtain ⟨⟨⟨⟨h1, h2⟩, h3⟩, h4⟩, h5⟩ := h
    obtain ⟨ha, hb⟩ := okF_asc h5
    refine ⟨fun i j f g hij hf hg => ?_, fun i f hf => ?_⟩
    · match j, hg with
      | j + 1, hg =>
        have hg' : fs[j]? = some g := by simpa using hg
        match i, hf with
        | 0, hf =>
          obtain rfl : a = f := by simpa using hf
          exact (hb j g hg').1
        | i + 1, hf => exact ha i j f g (by omega) (by simpa using hf) hg'
    · match i, hf with
      | 0, hf =>
        obtain rfl : a = f := by simpa using hf
        exact ⟨h1, h2, h3, h4⟩
      | i + 1, hf =>
        have := hb i f (by simpa using hf)
        exact ⟨by omega, this.2⟩
/-- what a search finds -/
theorem faultOf_at {fs : List Flt} (ha : Asc fs) {t : Int} {i : Nat} {f : Flt} (hi : fs[i]? = some f) (ht : f.at' = t) : faultOf fs t = f := by
  have h : fs.find? (fun f => f.at' == t) = some f := by
    rw [List.find?_eq_some_iff_getElem]
    have hl : i < fs.length := by
      rcases Nat.lt_or_ge i fs.length with h | h
      · exact h
      · rw [List.getElem?_eq_none h] at hi; cases hi
    refine ⟨by simpa using ht, i, hl, ?_, fun j hj => ?_⟩
    · rw [List.getElem?_eq_getElem hl] at hi; exact Option.some.inj hi
    · have := ha j i _ f hj (List.getElem?_eq_getElem (by omega)) hi
      simp; omega
  unfold faultOf; rw [h]
theorem faultOf_none {fs : List Flt} {t : Int} (h : ∀ (i : Nat) f, fs[i]? = some f → f.at' ≠ t) : faultOf fs t = Flt.zero := by
  have h : fs.find? (fun f => f.at' == t) = none := by
    rw [List.find?_eq_none]
    intro f hf
    obtain ⟨i, hi⟩ := List.getElem?_of_mem hf
    simpa using h i f hi
  unfold faultOf; rw [h]
abbrev Byt := List (BitVec 8)
structure Cab where
  delay : Nat
  faults : List Flt
  up : Bool
  ticks : Nat
  sent : Nat
  lost : Nat
  flying : List (Nat × Byt)
/-- one bit inverted: bit arg, modulo the number of bits, six to a symbol -/
def flipB (d : Byt) (arg : Int) : Byt :=
  if d = [] then d else d.modify (((arg % (6 * d.length)).toNat) / 6) (fun x => x ^^^ (1 <<< (((arg % (6 * d.length)).toNat) % 6)))
theorem flipB_length (d : Byt) (a : Int) : (flipB d a).length = d.length := by unfold flipB; split <;> simp
def Cab.fault (c : Cab) : Flt := faultOf c.faults c.sent
def Cab.copies (c : Cab) : Nat := if c.fault.kind = 3 then 2 else 1
def Cab.what (c : Cab) (d : Byt) : Byt := if c.fault.kind = 2 then flipB d c.fault.arg else d
def Cab.send (c : Cab) (d : Byt) : Nat × Cab :=
  if c.up = false ∨ c.fault.kind = 1 then (0, { c with sent := c.sent + 1, lost := c.lost + 1 })
  else if 64 < c.flying.length + c.copies then (5, { c with sent := c.sent + 1, lost := c.lost + 1 })
  else (0, { c with sent := c.sent + 1, flying := c.flying ++ List.replicate c.copies (c.ticks + c.delay, c.what d) })
def Cab.arrived (c : Cab) : List (Nat × Byt) := c.flying.takeWhile (fun x => decide (x.1 ≤ c.ticks + 1))
def Cab.tick (c : Cab) : List Byt × Cab := (c.arrived.map (·.2), { c with ticks := c.ticks + 1, flying := c.flying.drop c.arrived.length })
def Cab.cut (c : Cab) : Cab := { c with up := false, lost := c.lost + c.flying.length, flying := [] }
def Cab.mend (c : Cab) : Cab := { c with up := true }
def Cab.new (delay : Nat) (fs : List Flt) : Cab := ⟨delay, fs, true, 0, 0, 0, []⟩
/-- small enough for the machine's numbers -/
structure Cab.Ok (c : Cab) : Prop where
  d1 : 1 ≤ c.delay
  d2 : c.delay ≤ 100
  asc : Asc c.faults
  each : ∀ (i : Nat) f, c.faults[i]? = some f → 1 ≤ f.kind ∧ f.kind ≤ 3 ∧ 0 ≤ f.arg
  fly : c.flying.length ≤ 64
theorem Cab.Ok.fault {c : Cab} (h : c.Ok) : 0 ≤ c.fault.kind ∧ c.fault.kind ≤ 3 ∧ 0 ≤ c.fault.arg := by
  unfold Cab.fault faultOf
  cases hf : c.faults.find? (fun f => f.at' == (c.sent : Int)) with
  | none => exact ⟨Int.le_refl _, by decide, Int.le_refl _⟩
  | some f =>
    obtain ⟨i, hi⟩ := List.getElem?_of_mem (List.mem_of_find?_eq_some hf)
    have := h.each i f hi
    show 0 ≤ f.kind ∧ f.kind ≤ 3 ∧ 0 ≤ f.arg
    exact ⟨by omega, this.2.1, this.2.2⟩
theorem Cab.copies_le (c : Cab) : 1 ≤ c.copies ∧ c.copies ≤ 2 := by unfold Cab.copies; split <;> omega
theorem Cab.new_ok {delay : Nat} {fs : List Flt} (h1 : 1 ≤ delay) (h2 : delay ≤ 100) (h : okF (-1) fs = true) : (Cab.new delay fs).Ok :=
  ⟨h1, h2, (okF_asc h).1, fun i f hi => ((okF_asc h).2 i f hi).2, Nat.zero_le _⟩
theorem Cab.send_ok {c : Cab} (h : c.Ok) (d : Byt) : (c.send d).2.Ok := by
  unfold Cab.send
  by_cases h1 : c.up = false ∨ c.fault.kind = 1
  · rw [if_pos h1]; exact ⟨h.d1, h.d2, h.asc, h.each, h.fly⟩
  · rw [if_neg h1]
    by_cases h2 : 64 < c.flying.length + c.copies
    · rw [if_pos h2]; exact ⟨h.d1, h.d2, h.asc, h.each, h.fly⟩
    · rw [if_neg h2]
      exact ⟨h.d1, h.d2, h.asc, h.each, by simp; omega⟩
theorem Cab.tick_ok {c : Cab} (h : c.Ok) : c.tick.2.Ok := ⟨h.d1, h.d2, h.asc, h.each, by have := h.fly; simp [Cab.tick]; omega⟩
theorem Cab.cut_ok {c : Cab} (h : c.Ok) : c.cut.Ok := ⟨h.d1, h.d2, h.asc, h.each, Nat.zero_le _⟩
theorem Cab.mend_ok {c : Cab} (h : c.Ok) : c.mend.Ok := ⟨h.d1, h.d2, h.asc, h.each, h.fly⟩
end Go.Proofs.Ytekojekgjfefkaa
