/- A list of transmissions copied into a new list. No condition on the program. -/
import Derived.Test.YtekojekgjfefkaaCabY
namespace Go.Proofs.Ytekojekgjfefkaa
open Go.RowKit

theorem set_same {ts : List Th} {i : Nat} {T : Th} (hi : ts[i]? = some T) : ts.set i T = ts := by
  apply List.ext_getElem?
  intro j
  rw [List.getElem?_set]
  split
  · rename_i hij
    subst hij
    rw [hi, if_pos (lt_of_get hi)]
  · rfl
theorem els_free {w : World} {Z : BS} : ∀ {D : BS} (G : BS) {us : List Value} {xs : List (Nat × Byt)}, Els eTr w D Z us xs → Els eTr w G Z us xs
  | _, _, _, [], h => h
  | _, G, _, _ :: _, ⟨cs, rest, _, _, e, _, _, _, h1, h2⟩ => ⟨cs, rest, fun _ => False, G, e, fun _ f => f.elim, fun _ h => h, fun _ f => f.elim, h1, els_free G h2⟩
theorem Held.copyTr {F Z : BS} {W wr : World} {ts : List Th} {T : TypeId} {av : Value} {xs : List (Nat × Byt)} (h : Held F Z W ts wr) (T2 : TypeId) (i : Nat) (hi : ts[i]? = some (tSq eTr T av xs)) :
    ∃ us, Rd wr 2 av xs.length us ∧ (∀ u ∈ us, u.oneCell' = true) ∧ ∀ (w2 : World) (v2 : Value), Below wr.heap.size wr w2 → Sl w2 (fun k => wr.heap.size ≤ k) T2 2 v2 xs.length us → Held F Z W (ts ++ [tSq eTr T2 v2 xs]) w2 := by
  obtain ⟨G, Y, hsq, hd, _, _, hb⟩ := h.use i hi
  have hsq0 : Sq eTr T wr G Y av xs := hsq
  obtain ⟨K, D, us, k1, k2, k3, hsl, hel⟩ := hsq0
  refine ⟨us, hsl.rd, hel.one, fun w2 v2 hbel hs2 => ?_⟩
  have hfr : Fr G wr w2 := ⟨hbel.os, hbel.tape, hbel.output, hbel.size, fun k hl _ => hbel.block k hl⟩
  have h1 : (tSq eTr T av xs).on w2 (fun k => G k ∧ k < wr.heap.size) (fun k => Y k ∧ k < wr.heap.size) := Sq.keep hsq hbel.size fun k _ hl => hbel.block k hl
  have h2 : (tSq eTr T2 v2 xs).on w2 (fun k => wr.heap.size ≤ k) (fun k => Y k ∧ k < wr.heap.size) :=
    ⟨fun k => wr.heap.size ≤ k ∧ k < w2.heap.size, fun _ => False, us, fun k hk => hk.elim (·.1) False.elim, fun _ _ f => f, fun k hk => hk.2, hs2.bound, els_free _ ((hel.keep hbel.size fun k _ hl => hbel.block k hl).mono (fun _ h => h) fun k h => h)⟩
  have := hb w2 (tSq eTr T av xs) [tSq eTr T2 v2 xs] ⟨hfr, fun k => Y k ∧ k < wr.heap.size, fun k hk => .inl hk.1, Star.cons (F := fun k => G k ∧ k < wr.heap.size) (G := fun k => wr.heap.size ≤ k) h1 (Star.one h2) (fun k a b => by have := a.2; omega) (fun k a => ⟨.inl a.1, fun y => hd k a.1 y.1⟩) fun k a => ⟨.inr a, fun y => by have := y.2; omega⟩⟩
  rw [set_same hi] at this
  exact this
end Go.Proofs.Ytekojekgjfefkaa
