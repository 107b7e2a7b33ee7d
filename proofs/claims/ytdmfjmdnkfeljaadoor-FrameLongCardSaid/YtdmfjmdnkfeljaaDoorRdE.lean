/- What an argument's reading gives, in the words of elements: everything old is the pool. No condition on the program. -/
import Derived.Test.YtdmfjmdnkfeljaaDoorEl
import Derived.Test.YtdmfjmdnkfeljaaDoorRd
namespace Go.Proofs.YtdmfjmdnkfeljaaDoor
open Go.RowKit

/-- the blocks that are there -/
def Old (W : World) : BS := fun k => k < W.heap.size
theorem At.cons {w : World} {b off : Nat} {cs ds : List Value} (h : At w b off cs) (k : At w b (off + cs.length) ds) : At w b off (cs ++ ds) := fun j u hj => by
  rw [List.getElem?_append] at hj
  split at hj
  · exact h j u hj
  · have := k _ u hj
    rwa [show off + cs.length + (j - cs.length) = off + j by omega] at this
theorem els_of {α : Type} {r : R α} {E : El α} (hsz : r.size = E.size) {W : World} (hr : ∀ cs a, r.rd W cs a → E.rd W (fun _ => False) (Old W) cs a) {b : Nat} : ∀ (xs : List α) (o : Nat), (∀ (i : Nat) x, xs[i]? = some x → ∃ us, At W b (o + i * r.size) us ∧ r.rd W us x) → ∃ vs, At W b o vs ∧ Els E W (fun _ => False) (Old W) vs xs
  | [], o, _ => ⟨[], fun j u h => by simp at h, rfl⟩
  | a :: xs, o, h => by
    obtain ⟨us, h1, h2⟩ := h 0 a rfl
    obtain ⟨vs, h3, h4⟩ := els_of hsz hr xs (o + r.size) fun i x hx => by
      obtain ⟨us, h5, h6⟩ := h (i + 1) x (by simpa using hx)
      exact ⟨us, by rwa [show o + r.size + i * r.size = o + (i + 1) * r.size by rw [Nat.add_mul]; omega], h6⟩
    have hl := r.len h2
    refine ⟨us ++ vs, At.cons (by simpa using h1) (by rw [hl]; exact h3), us, vs, fun _ => False, fun _ => False, rfl, fun _ f => f, fun _ f => f, fun _ f => f.elim, hr _ _ h2, h4⟩
theorem rdS_of {α : Type} {r : R α} {E : El α} (hsz : r.size = E.size) (_ : 0 < r.size) {W : World} (hr : ∀ cs a, r.rd W cs a → E.rd W (fun _ => False) (Old W) cs a) {v : Value} {xs : List α} (h : (rSlice r).rd W [v] xs) : RdS E W (Old W) v xs := by
  obtain ⟨a, cap, e, h1, h2, h3, h4⟩ := h
  obtain rfl : v = .slice a xs.length cap := by simpa using e
  cases a with
  | none =>
    have := h3 rfl
    have hx : xs = [] := List.eq_nil_of_length_eq_zero (by omega)
    subst hx
    exact ⟨[], ⟨by simp, none, cap, rfl, h1, h2, fun _ => ⟨rfl, this⟩, fun b hb => by cases hb⟩, rfl, fun h => by simp at h⟩
  | some ad =>
    by_cases h0 : xs = []
    · subst h0
      exact ⟨[], ⟨by simp, some ad, cap, rfl, h1, h2, (fun e => by cases e), fun b hb j u hj => by simp at hj⟩, rfl, fun h => by simp at h⟩
    · obtain ⟨x0, hx0⟩ : ∃ x, xs[0]? = some x := by cases xs with
        | nil => exact absurd rfl h0
        | cons a l => exact ⟨a, rfl⟩
      obtain ⟨b, off, us, e, _, _⟩ := h4 0 x0 hx0
      obtain rfl : ad = ⟨b, off, none⟩ := Option.some.inj e
      obtain ⟨vs, h5, h6⟩ := els_of hsz hr (b := b) xs off fun i x hx => by
        obtain ⟨b', off', us, e, h5, h6⟩ := h4 i x hx
        obtain ⟨rfl, rfl⟩ : b = b' ∧ off = off' := by simpa using e
        exact ⟨us, h5, h6⟩
      have hrd : Rd W E.size (.slice (some ⟨b, off, none⟩) xs.length cap) xs.length vs := ⟨h6.length, _, cap, rfl, h1, h2, (fun e => by cases e), fun b' hb j u hj => by
          obtain rfl := Option.some.inj hb
          exact ⟨rfl, h5 j u hj⟩⟩
      exact ⟨vs, hrd, h6, fun h0 b' hb => hrd.lt h0 hb⟩
theorem byZ_of {W : World} {v : Value} {bs : List (BitVec 8)} (h : By W v bs) : ByZ W (Old W) v bs := ⟨h, fun h0 b hb => Rd.lt h (by rwa [cu_length]) hb⟩
theorem eBy_of {W : World} {cs : List Value} {bs : List (BitVec 8)} (h : rBytes.rd W cs bs) : eBy.rd W (fun _ => False) (Old W) cs bs := by obtain ⟨v, e, h⟩ := h; exact ⟨v, e, byZ_of h⟩
end Go.Proofs.YtdmfjmdnkfeljaaDoor
