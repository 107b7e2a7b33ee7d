/- Blocks with labels: each block of memory belongs to one owner; a call on an owner's thing leaves the others' blocks as they were. No condition on the program. -/
import Derived.Test.YtdmfjmdnkfeljaaDoorSep
namespace Go.Proofs.YtdmfjmdnkfeljaaDoor
open Go.RowKit

abbrev Lab := Nat → Nat
def Lab.is (L : Lab) (i : Nat) : Nat → Prop := fun k => L k = i
/-- new blocks get the label i -/
def Lab.new (L : Lab) (w : World) (i : Nat) : Lab := fun k => if k < w.heap.size then L k else i
theorem Lab.new_old {L : Lab} {w : World} {i k : Nat} (h : k < w.heap.size) : L.new w i k = L k := if_pos h
theorem Lab.new_new {L : Lab} {w : World} {i k : Nat} (h : w.heap.size ≤ k) : L.new w i k = i := if_neg (by omega)
/-- a thing that lives in a set of blocks: it stands as long as these are as they were, and does not ask that the set be exact -/
structure Thing (O : World → (Nat → Prop) → Prop) : Prop where
  keep : ∀ {w w' F}, O w F → w.heap.size ≤ w'.heap.size → (∀ k, F k → k < w.heap.size → w'.heap[k]? = w.heap[k]?) → O w' (fun k => F k ∧ k < w.heap.size)
  mono : ∀ {w F G}, O w F → (∀ k, F k → G k) → O w G
theorem Thing.of {O : World → (Nat → Prop) → Prop} (T : Thing O) {w w' : World} {F G : Nat → Prop} (h : O w F) (hs : w.heap.size ≤ w'.heap.size) (hk : ∀ k, F k → k < w.heap.size → w'.heap[k]? = w.heap[k]?) (hG : ∀ k, F k → k < w.heap.size → G k) : O w' G :=
  T.mono (T.keep h hs hk) fun k ⟨a, b⟩ => hG k a b
/-- another's call -/
theorem Thing.stay {O : World → (Nat → Prop) → Prop} (T : Thing O) {w w' : World} {L : Lab} {i j m : Nat} (h : O w (L.is m)) (hf : Fr (L.is i) w w') (hm : m ≠ i) : O w' ((L.new w j).is m) :=
  T.of h hf.size (fun k e hl => hf.block k hl fun f => hm (e.symm.trans f)) fun _ e hl => (Lab.new_old hl).trans e
theorem Thing.below {O : World → (Nat → Prop) → Prop} (T : Thing O) {w w' : World} {L : Lab} {j m : Nat} (h : O w (L.is m)) (hf : Below w.heap.size w w') : O w' ((L.new w j).is m) :=
  T.of h hf.size (fun k _ hl => hf.block k hl) fun _ e hl => (Lab.new_old hl).trans e
/-- one's own call that may have taken new blocks -/
theorem Thing.mine {O : World → (Nat → Prop) → Prop} (T : Thing O) {w w' : World} {L : Lab} {i : Nat} (h : O w' (fun k => L.is i k ∨ w.heap.size ≤ k)) : O w' ((L.new w i).is i) :=
  T.mono h fun k e => by
    by_cases hl : k < w.heap.size
    · exact (Lab.new_old hl).trans (e.resolve_right (by omega))
    · exact Lab.new_new (by omega)
/-- .. that has not: its new blocks are somebody else's -/
theorem Thing.mine_old {O : World → (Nat → Prop) → Prop} (T : Thing O) {w' : World} {w : World} {L : Lab} {i j : Nat} (h : O w' (fun k => L.is i k ∧ k < w.heap.size)) : O w' ((L.new w j).is i) :=
  T.mono h fun _ ⟨e, hl⟩ => (Lab.new_old hl).trans e
/-- what a walk has done so far: blocks outside F are as they were, and bear the label 0 -/
structure Fl (F : Nat → Prop) (w0 w : World) (L : Lab) : Prop where
  fr : Fr F w0 w
  lab : ∀ k, k < w0.heap.size → ¬ F k → L k = 0
theorem Fl.call {F : Nat → Prop} {w0 w w' : World} {L : Lab} (h : Fl F w0 w L) {i : Nat} (hf : Fr (L.is i) w w') (hi : i ≠ 0) (j : Nat) : Fl F w0 w' (L.new w j) where
  fr := ⟨hf.os.trans h.fr.os, hf.tape.trans h.fr.tape, hf.output.trans h.fr.output, Nat.le_trans h.fr.size hf.size, fun k hl hn =>
    (hf.block k (Nat.lt_of_lt_of_le hl h.fr.size) fun e => hi (e.symm.trans (h.lab k hl hn))).trans (h.fr.block k hl hn)⟩
  lab k hl hn := (Lab.new_old (Nat.lt_of_lt_of_le hl h.fr.size)).trans (h.lab k hl hn)
theorem Fl.own {F : Nat → Prop} {w0 w w' : World} {L : Lab} (h : Fl F w0 w L) (hf : Below w.heap.size w w') (j : Nat) : Fl F w0 w' (L.new w j) where
  fr := h.fr.of_below hf
  lab k hl hn := (Lab.new_old (Nat.lt_of_lt_of_le hl h.fr.size)).trans (h.lab k hl hn)
theorem Fl.start {w : World} : Fl (fun _ => False) w w (fun _ => 0) := ⟨Fr.refl _ _, fun _ _ _ => rfl⟩
theorem Fl.end {w0 w : World} {L : Lab} (h : Fl (fun _ => False) w0 w L) : Below w0.heap.size w0 w := h.fr.below (Nat.le_refl _) fun _ f => f.elim
theorem below_alloc (w : World) (o : Obj) : Below w.heap.size w (w.alloc o) := (Below.refl _ _).alloc (Nat.le_refl _) _
theorem below_drew (w : World) (n : Nat) : Below w.heap.size w (w.drewN n) := ⟨rfl, rfl, rfl, Nat.le_refl _, fun _ _ => rfl⟩
/-- one block that is known whole -/
def Blk (p : Nat) (o : Obj) (w : World) (F : Nat → Prop) : Prop := w.heap[p]? = some o ∧ F p
theorem Blk.thing (p : Nat) (o : Obj) : Thing (Blk p o) := ⟨fun ⟨h, f⟩ _ hk => ⟨(hk p f (lt_of_block h)).trans h, f, lt_of_block h⟩, fun ⟨h, f⟩ hG => ⟨h, hG p f⟩⟩
end Go.Proofs.YtdmfjmdnkfeljaaDoor
