/- A queue of events in memory. -/
import Derived.Test.YtococphklfbidaaKerD
import Derived.Test.YtococphklfbidaaTh
import Derived.Maps.OwnSet
namespace Go.Proofs.Ytococphklfbidaa
open Go.RowKit Go.Maps

def evD (e : Ev) : DataW Unit := .agg [.lit (.int .i64 e.at'), .lit (.int .i64 e.kind), .lit (.int .i64 e.node), .lit (.int .i64 e.number), .lit (.int .i64 e.arg)]
/-- how an event reads, as an element of a map -/
def evOf : List Value → Option (DataW Unit × List MemPlace)
  | [.int .i64 a, .int .i64 b, .int .i64 c, .int .i64 d, .int .i64 e] => some (evD ⟨a, b, c, d, e⟩, [])
  | _ => none
def evElem : Value → Option (DataW Unit × List MemPlace)
  | .agg cs => evOf cs.toList
  | _ => none
theorem evElem_mk (e : Ev) : evElem (.agg #[.int .i64 e.at', .int .i64 e.kind, .int .i64 e.node, .int .i64 e.number, .int .i64 e.arg]) = some (evD e, []) := rfl
theorem evElem_inv {v : Value} {e : Ev} {ps : List MemPlace} (h : evElem v = some (evD e, ps)) : v = .agg #[.int .i64 e.at', .int .i64 e.kind, .int .i64 e.node, .int .i64 e.number, .int .i64 e.arg] := by
  cases v with
  | agg cs =>
    obtain ⟨cs⟩ := cs
    have h' : evOf cs = some (evD e, ps) := h
    unfold evOf at h'
    split at h'
    · obtain ⟨a, b, c, d, g⟩ := e
      simp [evD] at h'
      obtain ⟨⟨rfl, rfl, rfl, rfl, rfl⟩, _⟩ := h'
      rfl
    · cases h'
  | _ => cases h
/-- what a map by numbers says -/
def MapSays (D : DataW Unit) (l : List Ev) : Prop := IsMap D ∧ (∀ k : Int, has D (.int .i64 k) = l.any fun e => e.number == k) ∧ ∀ e ∈ l, ∀ z, D.atKey (.int .i64 e.number) z = evD e
theorem key_lit (k : Int) : WideAt.IsKeyLit (.int .i64 k) := trivial
theorem MapSays.nil : MapSays (.map []) [] := ⟨isMap_empty, fun _ => rfl, fun e h => by cases h⟩
theorem MapSays.put {D : DataW Unit} {l l' : List Ev} (h : MapSays D l) {e : Ev} (hn : ∀ x ∈ l, x.number ≠ e.number) (hl : ∀ x, x ∈ l' ↔ x = e ∨ x ∈ l) : MapSays (D.put (.int .i64 e.number) (evD e)) l' := by
  obtain ⟨h1, h2, h3⟩ := h
  refine ⟨h1.put _ _, fun k => ?_, fun x hx z => ?_⟩
  · by_cases hk : k = e.number
    · subst hk
      rw [has_put_same h1 (key_lit _)]
      symm; rw [List.any_eq_true]
      exact ⟨e, (hl e).2 (.inl rfl), by simp⟩
    · rw [has_put_other (by simpa using hk), h2 k, Bool.eq_iff_iff, List.any_eq_true, List.any_eq_true]
      constructor
      · rintro ⟨x, hx, hxk⟩; exact ⟨x, (hl x).2 (.inr hx), hxk⟩
      · rintro ⟨x, hx, hxk⟩
        rcases (hl x).1 hx with rfl | hx
        · exact absurd (by simpa using hxk) (Ne.symm hk)
        · exact ⟨x, hx, hxk⟩
  · rcases (hl x).1 hx with rfl | hx
    · exact atKey_put_same h1 (key_lit _) _ _
    · rw [atKey_put_other (by simpa using hn x hx)]
      exact h3 x hx z
theorem MapSays.del {D : DataW Unit} {l l' : List Ev} (h : MapSays D l) {k : Int} (hl : ∀ x, x ∈ l' ↔ x ∈ l ∧ x.number ≠ k) : MapSays (D.del (.int .i64 k)) l' := by
  obtain ⟨h1, h2, h3⟩ := h
  refine ⟨h1.del _, fun j => ?_, fun x hx z => ?_⟩
  · by_cases hk : j = k
    · subst hk
      rw [has_del_same]
      symm
      rw [List.any_eq_false]
      intro x hx
      simpa using ((hl x).1 hx).2
    · rw [has_del_other (by simpa using hk), h2 j, Bool.eq_iff_iff, List.any_eq_true, List.any_eq_true]
      constructor
      · rintro ⟨x, hx, hxk⟩
        have : x.number = j := by simpa using hxk
        exact ⟨x, (hl x).2 ⟨hx, by rw [this]; exact hk⟩, hxk⟩
      · rintro ⟨x, hx, hxk⟩; exact ⟨x, ((hl x).1 hx).1, hxk⟩
  · obtain ⟨hx, hne⟩ := (hl x).1 hx
    rw [atKey_del_other (by simpa using hne)]
    exact h3 x hx z
theorem MapSays.same {D : DataW Unit} {l l' : List Ev} (h : MapSays D l) (hl : ∀ x, x ∈ l' ↔ x ∈ l) : MapSays D l' :=
  ⟨h.1, fun k => (h.2.1 k).trans (by rw [Bool.eq_iff_iff, List.any_eq_true, List.any_eq_true]; simp only [hl]), fun e he => h.2.2 e ((hl e).1 he)⟩
def EvMap (w : World) (b n : Nat) (l : List Ev) : Prop := ∃ D, w.ownsMap Try.prog 3 evElem b n D ∧ MapSays D l
theorem EvMap.keep {w w' : World} {b n : Nat} {l : List Ev} (h : EvMap w b n l) (hk : w'.heap[b]? = w.heap[b]?) : EvMap w' b n l := by
  obtain ⟨D, ⟨es, clock, h1, h2⟩, h3⟩ := h
  exact ⟨D, ⟨es, clock, hk.trans h1, h2⟩, h3⟩
theorem EvMap.lt {w : World} {b n : Nat} {l : List Ev} (h : EvMap w b n l) : b < w.heap.size := by obtain ⟨D, h, _⟩ := h; exact h.lt
theorem keyed : Keyed Try.prog 3 := int_keyed Try.underlying3
def quCells (now : Int) (last : Nat) (lv : Value) (b : Nat) : Array Value := #[.int .i64 now, .int .i64 (last : Int), lv, .map (some b)]
/-- a queue at p: its block, its list, its map -/
def QuAt (p : Nat) (q : Qu) (w : World) (F _ : BS) : Prop := F p ∧ ∃ lv b, F b ∧ b ≠ p ∧ w.heap[p]? = some (.cells (quCells q.now q.last lv b) 64 (0, 0)) ∧ EvO w (fun k => F k ∧ k ≠ p ∧ k ≠ b) lv q.evs ∧ EvMap w b q.last q.evs
def tQu (p : Nat) (q : Qu) : Th where
  on := QuAt p q
  keep := fun ⟨h0, lv, b, h1, h2, h3, h4, h5⟩ _ hk => ⟨⟨h0, lt_of_block h3⟩, lv, b, ⟨h1, h5.lt⟩, h2, (hk p (.inl h0) (lt_of_block h3)).trans h3,
    Sl.mono (Sl.keep (Sl.bound h4) fun k hf hl => hk k (.inl hf.1.1) hl) fun _ h => ⟨⟨h.1.1, h.2⟩, h.1.2⟩, h5.keep (hk b (.inl h1) h5.lt)⟩
  mono := fun ⟨h0, lv, b, h1, h2, h3, h4, h5⟩ hF _ => ⟨hF p h0, lv, b, hF b h1, h2, h3, Sl.mono h4 fun k h => ⟨hF k h.1, h.2⟩, h5⟩
end Go.Proofs.Ytococphklfbidaa
