/- Lists in slices: elements of any number of cells, that may lead to blocks of their own. No condition on the program. -/
import Derived.Test.YtgpeekicpkgpmaaLab
namespace Go.Proofs.Ytgpeekicpkgpmaa
open Go.RowKit

/-- a kind of element: its cells, read with blocks in a set -/
structure El (α : Type) where
  size : Nat
  rd : World → (Nat → Prop) → List Value → α → Prop
  len : ∀ {w D cs a}, rd w D cs a → cs.length = size
  keep : ∀ {w w' D cs a}, rd w D cs a → (∀ k, D k → k < w.heap.size → w'.heap[k]? = w.heap[k]?) → rd w' D cs a
  mono : ∀ {w D G cs a}, rd w D cs a → (∀ k, D k → G k) → rd w G cs a
  one : ∀ {w D cs a}, rd w D cs a → ∀ u ∈ cs, u.oneCell' = true
/-- bytes in a slice -/
def eBytes : El (List (BitVec 8)) where
  size := 1
  rd w D cs bs := ∃ v, cs = [v] ∧ ByD w D v bs
  len h := by obtain ⟨v, h, _⟩ := h; rw [h]; rfl
  keep h k := by obtain ⟨v, e, h⟩ := h; exact ⟨v, e, h.keep k⟩
  mono h k := by obtain ⟨v, e, h⟩ := h; exact ⟨v, e, h.mono k⟩
  one h u hu := by
    obtain ⟨v, rfl, ⟨_, a, c, rfl, _⟩, _⟩ := h
    obtain rfl : u = _ := List.mem_singleton.1 hu
    rfl
/-- the elements, one behind another -/
def Els {α : Type} (E : El α) (w : World) (D : Nat → Prop) : List Value → List α → Prop
  | us, [] => us = []
  | us, a :: xs => ∃ cs rest, us = cs ++ rest ∧ E.rd w D cs a ∧ Els E w D rest xs
section
variable {α : Type} {E : El α} {w w' : World} {D G : Nat → Prop}
theorem Els.length : ∀ {us : List Value} {xs : List α}, Els E w D us xs → us.length = xs.length * E.size
  | _, [], h => by rw [show _ = [] from h]; simp
  | _, a :: xs, ⟨cs, rest, e, h1, h2⟩ => by rw [e, List.length_append, E.len h1, h2.length, List.length_cons, Nat.add_mul]; omega
theorem Els.keep : ∀ {us : List Value} {xs : List α}, Els E w D us xs → (∀ k, D k → k < w.heap.size → w'.heap[k]? = w.heap[k]?) → Els E w' D us xs
  | _, [], h, _ => h
  | _, _ :: _, ⟨cs, rest, e, h1, h2⟩, hk => ⟨cs, rest, e, E.keep h1 hk, h2.keep hk⟩
theorem Els.mono : ∀ {us : List Value} {xs : List α}, Els E w D us xs → (∀ k, D k → G k) → Els E w G us xs
  | _, [], h, _ => h
  | _, _ :: _, ⟨cs, rest, e, h1, h2⟩, hk => ⟨cs, rest, e, E.mono h1 hk, h2.mono hk⟩
theorem Els.one : ∀ {us : List Value} {xs : List α}, Els E w D us xs → ∀ u ∈ us, u.oneCell' = true
  | _, [], h, u, hu => by rw [show _ = [] from h] at hu; cases hu
  | _, a :: xs, ⟨cs, rest, e, h1, h2⟩, u, hu => by
    rw [e] at hu
    rcases List.mem_append.1 hu with hu | hu
    · exact E.one h1 u hu
    · exact h2.one u hu
theorem Els.append : ∀ {us vs : List Value} {xs ys : List α}, Els E w D us xs → Els E w D vs ys → Els E w D (us ++ vs) (xs ++ ys)
  | us, vs, [], ys, h, k => by rw [show us = [] from h]; exact k
  | us, vs, a :: xs, ys, ⟨cs, rest, e, h1, h2⟩, k => ⟨cs, rest ++ vs, by rw [e, List.append_assoc], h1, h2.append k⟩
theorem Els.single {cs : List Value} {a : α} (h : E.rd w D cs a) : Els E w D cs [a] := ⟨cs, [], by simp, h, rfl⟩
theorem Els.drop : ∀ {us : List Value} {xs : List α} (k : Nat), Els E w D us xs → Els E w D (us.drop (k * E.size)) (xs.drop k)
  | us, [], k, h => by rw [show us = [] from h]; simp; exact rfl
  | us, a :: xs, 0, h => by simpa using h
  | us, a :: xs, k + 1, ⟨cs, rest, e, h1, h2⟩ => by
    have := h2.drop k
    rw [e, List.drop_succ_cons]
    have e2 : (cs ++ rest).drop ((k + 1) * E.size) = rest.drop (k * E.size) := by
      rw [List.drop_append, E.len h1, List.drop_eq_nil_of_le (by rw [E.len h1, Nat.add_mul]; omega), List.nil_append]
      congr 1; rw [Nat.add_mul]; omega
    rw [e2]; exact this
theorem Els.get : ∀ {us : List Value} {xs : List α} {i : Nat} {a : α}, Els E w D us xs → xs[i]? = some a → ∃ cs, E.rd w D cs a ∧ ∀ j, j < E.size → us[i * E.size + j]? = cs[j]?
  | us, x :: xs, 0, a, ⟨cs, rest, e, h1, h2⟩, hi => by
    obtain rfl : x = a := by simpa using hi
    refine ⟨cs, h1, fun j hj => ?_⟩
    rw [e, Nat.zero_mul, Nat.zero_add, List.getElem?_append_left (by rw [E.len h1]; exact hj)]
  | us, x :: xs, i + 1, a, ⟨cs, rest, e, h1, h2⟩, hi => by
    obtain ⟨cs', h3, h4⟩ := h2.get (by simpa using hi)
    refine ⟨cs', h3, fun j hj => ?_⟩
    rw [← h4 j hj, e, List.getElem?_append_right (by rw [E.len h1, Nat.add_mul]; omega), E.len h1]
    congr 1; rw [Nat.add_mul]; omega
end
/-- v[k:], elements of any size -/
theorem Sl.dropG {w : World} {F : Nat → Prop} {e : TypeId} {s g off n cap : Nat} {us : List Value} (h : Sl w F e s (.slice (some ⟨g, off, none⟩) n cap) n us) {k : Nat} (hk : k ≤ n) :
    Sl w F e s (.slice (if cap = k then some ⟨g, off, none⟩ else some ⟨g, off + k * s, none⟩) (n - k) (cap - k)) (n - k) (us.drop (k * s)) := by
  obtain ⟨hl, ⟨h, _⟩ | ⟨g', off', cap', cur, e1, hF, hg, h1, h2, h3, h4⟩⟩ := h
  · cases h
  · obtain ⟨⟨rfl, rfl⟩, rfl⟩ : (g = g' ∧ off = off') ∧ cap = cap' := by simpa using e1
    have hm : (n - k) * s = n * s - k * s := Nat.sub_mul n k s
    have hm2 : (cap - k) * s = cap * s - k * s := Nat.sub_mul cap k s
    have hle : k * s ≤ n * s := Nat.mul_le_mul_right s hk
    have hle2 : n * s ≤ cap * s := Nat.mul_le_mul_right s h1
    refine ⟨by rw [List.length_drop, hl, hm], .inr ?_⟩
    by_cases hc : cap = k
    · rw [if_pos hc]
      have hn : n - k = 0 := by omega
      refine ⟨g, off, cap - k, cur, rfl, hF, hg, by omega, by omega, by rw [hm2]; omega, ?_⟩
      have : us.drop (k * s) = [] := List.drop_eq_nil_of_le (by rw [hl]; have : n = k := by omega
                                                                rw [this]; exact Nat.le_refl _)
      rw [this, hn]; simp
    · rw [if_neg hc]
      refine ⟨g, off + k * s, cap - k, cur, rfl, hF, hg, by omega, by omega, by rw [hm2]; omega, ?_⟩
      rw [← h4, List.drop_take, List.drop_drop]
      congr 1
theorem Sl.cellG {w : World} {F : Nat → Prop} {e : TypeId} {s : Nat} {g off n cap : Nat} {us : List Value} (h : Sl w F e s (.slice (some ⟨g, off, none⟩) n cap) n us) : ∀ j u, us[j]? = some u → w.cell? ⟨g, off + j, none⟩ = some u := by
  intro j u hj
  obtain ⟨hl, ⟨h, _⟩ | ⟨g', off', cap', cur, e1, hF, hg, h1, h2, h3, h4⟩⟩ := h
  · cases h
  · obtain ⟨⟨rfl, rfl⟩, rfl⟩ : (g = g' ∧ off = off') ∧ cap = cap' := by simpa using e1
    rw [← h4, List.getElem?_take] at hj
    split at hj
    · rw [List.getElem?_drop] at hj
      simp only [World.cell?, hg]
      simpa using hj
    · cases hj
/-- a slice that reads as xs; its own block and those that its elements lead to lie in D -/
def RdG {α : Type} (E : El α) (w : World) (D : Nat → Prop) (v : Value) (xs : List α) : Prop := ∃ us, Rd w E.size v xs.length us ∧ Els E w D us xs ∧ ∀ b, v.ownBlock = some b → D b
theorem RdG.keep {α : Type} {E : El α} {w w' : World} {D : Nat → Prop} {v : Value} {xs : List α} (h : RdG E w D v xs) (hk : ∀ k, D k → k < w.heap.size → w'.heap[k]? = w.heap[k]?) : RdG E w' D v xs := by
  obtain ⟨us, h1, h2, h3⟩ := h
  exact ⟨us, h1.keep fun k e hl => hk k (h3 k e) hl, h2.keep hk, h3⟩
theorem RdG.mono {α : Type} {E : El α} {w : World} {D G : Nat → Prop} {v : Value} {xs : List α} (h : RdG E w D v xs) (hk : ∀ k, D k → G k) : RdG E w G v xs := by
  obtain ⟨us, h1, h2, h3⟩ := h
  exact ⟨us, h1, h2.mono hk, fun b e => hk b (h3 b e)⟩
theorem RdG.nil {α : Type} (E : El α) (w : World) (D : Nat → Prop) : RdG E w D (.slice none 0 0) [] :=
  ⟨[], ⟨by simp, none, 0, rfl, Nat.le_refl _, Nat.zero_le _, fun _ => ⟨rfl, rfl⟩, fun b hb => by cases hb⟩, rfl, fun b hb => by cases hb⟩
theorem RdG.shape {α : Type} {E : El α} {w : World} {D : Nat → Prop} {v : Value} {xs : List α} (h : RdG E w D v xs) : ∃ a cap, v = .slice a xs.length cap ∧ xs.length ≤ cap ∧ cap ≤ maxLen := by
  obtain ⟨us, ⟨_, a, cap, e, h1, h2, _⟩, _⟩ := h; exact ⟨a, cap, e, h1, h2⟩
/-- element i of such a slice -/
theorem RdG.at {α : Type} {E : El α} {w : World} {D : Nat → Prop} {a : Option Addr} {n c : Nat} {xs : List α} (h : RdG E w D (.slice a n c) xs) (hpos : 0 < E.size) {i : Nat} {x : α} (hi : xs[i]? = some x) :
    ∃ b off cs, a = some ⟨b, off, none⟩ ∧ D b ∧ E.rd w D cs x ∧ ∀ j u, cs[j]? = some u → w.cell? ⟨b, off + i * E.size + j, none⟩ = some u := by
  obtain ⟨us, ⟨hl, a', cap, e, h1, h2, h3, h4⟩, h5, h6⟩ := h
  obtain ⟨rfl, rfl, rfl⟩ : a = a' ∧ n = xs.length ∧ c = cap := by simpa using e
  obtain ⟨cs, hr, hc⟩ := h5.get hi
  have hil : i < xs.length := by
    rcases Nat.lt_or_ge i xs.length with h | h
    · exact h
    · rw [List.getElem?_eq_none h] at hi; cases hi
  cases a with
  | none => have := (h3 rfl).1; omega
  | some b =>
    obtain ⟨b, off, spot⟩ := b
    have hcl := E.len hr
    have h0 : cs[0]? = some cs[0] := List.getElem?_eq_getElem (by omega)
    obtain rfl : spot = none := (h4 _ rfl _ _ ((hc 0 hpos).trans h0)).1
    refine ⟨b, off, cs, rfl, h6 b rfl, hr, fun j u hj => ?_⟩
    have hjl : j < E.size := by
      rw [← hcl]
      rcases Nat.lt_or_ge j cs.length with h | h
      · exact h
      · rw [List.getElem?_eq_none h] at hj; cases hj
    have := (h4 _ rfl _ _ ((hc j hjl).trans hj)).2
    rw [← Nat.add_assoc] at this; exact this
/-- slices of such elements are elements themselves -/
def eSl {α : Type} (E : El α) : El (List α) where
  size := 1
  rd w D cs xs := ∃ v, cs = [v] ∧ RdG E w D v xs
  len h := by obtain ⟨v, h, _⟩ := h; rw [h]; rfl
  keep h k := by obtain ⟨v, e, h⟩ := h; exact ⟨v, e, h.keep k⟩
  mono h k := by obtain ⟨v, e, h⟩ := h; exact ⟨v, e, h.mono k⟩
  one h u hu := by
    obtain ⟨v, rfl, _, ⟨_, a, c, rfl, _⟩, _⟩ := h
    obtain rfl : u = _ := List.mem_singleton.1 hu
    rfl
/-- a list in a slice that its owner may append to and cut: the array in K, what the elements lead to in D -/
def SeqG {α : Type} (E : El α) (T : TypeId) (w : World) (F : Nat → Prop) (v : Value) (xs : List α) : Prop :=
  ∃ K D us, (∀ k, K k ∨ D k → F k ∧ k < w.heap.size) ∧ Dj K D ∧ Sl w K T E.size v xs.length us ∧ Els E w D us xs
section
variable {α : Type} {E : El α} {T : TypeId} {w w' : World} {F G : Nat → Prop} {v : Value} {xs : List α}
theorem SeqG.keep (h : SeqG E T w F v xs) (hs : w.heap.size ≤ w'.heap.size) (hk : ∀ k, F k → k < w.heap.size → w'.heap[k]? = w.heap[k]?) : SeqG E T w' (fun k => F k ∧ k < w.heap.size) v xs := by
  obtain ⟨K, D, us, h1, h2, h3, h4⟩ := h
  exact ⟨K, D, us, fun k hkd => ⟨h1 k hkd, Nat.lt_of_lt_of_le (h1 k hkd).2 hs⟩, h2, h3.keep fun k hK hl => hk k (h1 k (.inl hK)).1 hl, h4.keep fun k hD hl => hk k (h1 k (.inr hD)).1 hl⟩
theorem SeqG.mono (h : SeqG E T w F v xs) (hG : ∀ k, F k → G k) : SeqG E T w G v xs := by
  obtain ⟨K, D, us, h1, h2, h3, h4⟩ := h
  exact ⟨K, D, us, fun k hkd => ⟨hG k (h1 k hkd).1, (h1 k hkd).2⟩, h2, h3, h4⟩
theorem SeqG.thing (E : El α) (T : TypeId) (v : Value) (xs : List α) : Thing (fun w F => SeqG E T w F v xs) := ⟨fun h hs hk => h.keep hs hk, fun h hG => h.mono hG⟩
theorem SeqG.nil (E : El α) (T : TypeId) (w : World) (F : Nat → Prop) : SeqG E T w F (.slice none 0 0) [] :=
  ⟨fun _ => False, fun _ => False, [], fun _ h => by rcases h with h | h <;> exact h.elim, fun _ h => h.elim, Sl.nil _ _ _ _, rfl⟩
theorem SeqG.shape (h : SeqG E T w F v xs) : ∃ a cap, v = .slice a xs.length cap := by obtain ⟨K, D, us, _, _, h3, _⟩ := h; exact h3.shape
theorem SeqG.rd (h : SeqG E T w F v xs) : RdG E w F v xs := by
  obtain ⟨K, D, us, h1, _, h3, h4⟩ := h
  refine ⟨us, h3.rd, h4.mono fun k hk => (h1 k (.inr hk)).1, fun b hb => ?_⟩
  obtain ⟨_, ⟨rfl, _⟩ | ⟨g, off, cap, cur, rfl, hK, _⟩⟩ := h3
  · cases hb
  · obtain rfl : g = b := by simpa [Value.ownBlock] using hb
    exact (h1 g (.inl hK)).1
theorem SeqG.drop {a : Option Addr} {n c : Nat} (h : SeqG E T w F (.slice a n c) xs) {k : Nat} (h0 : 0 < k) (hk : k ≤ xs.length) :
    ∃ g off, a = some ⟨g, off, none⟩ ∧ n = xs.length ∧ xs.length ≤ c ∧ SeqG E T w F (.slice (if c = k then some ⟨g, off, none⟩ else some ⟨g, off + k * E.size, none⟩) (xs.length - k) (c - k)) (xs.drop k) := by
  obtain ⟨K, D, us, h1, h2, h3, h4⟩ := h
  obtain ⟨g, off, cap, e, _, hc⟩ := h3.head (by omega)
  obtain ⟨rfl, rfl, rfl⟩ : a = some ⟨g, off, none⟩ ∧ n = xs.length ∧ c = cap := by simpa using e
  refine ⟨g, off, rfl, rfl, hc, K, D, us.drop (k * E.size), h1, h2, ?_, h4.drop k⟩
  rw [List.length_drop]
  exact h3.dropG hk
/-- behind an append of ys: w2 is the world behind it, w1 the one just before; what ys lead to is new -/
theorem SeqG.snoc {w1 w2 : World} {K D : Nat → Prop} {us news : List Value} {ys : List α} {u2 : Value} (hKD : ∀ k, K k ∨ D k → F k ∧ k < w.heap.size) (hdj : Dj K D) (hk : Els E w D us xs)
    (hz : w.heap.size ≤ w1.heap.size) (hd : Els E w2 (fun k => w.heap.size ≤ k ∧ k < w1.heap.size) news ys) (hsl : Sl w2 (fun k => K k ∨ w1.heap.size ≤ k) T E.size u2 (xs.length + ys.length) (us ++ news)) (hF : Fr K w w2) (hz2 : w1.heap.size ≤ w2.heap.size) :
    SeqG E T w2 (fun k => F k ∨ w.heap.size ≤ k) u2 (xs ++ ys) := by
  refine ⟨fun k => (K k ∨ w1.heap.size ≤ k) ∧ k < w2.heap.size, fun k => D k ∨ (w.heap.size ≤ k ∧ k < w1.heap.size), us ++ news, ?_, ?_, ?_, ?_⟩
  · rintro k (⟨h | h, h'⟩ | h | h)
    · exact ⟨.inl (hKD k (.inl h)).1, h'⟩
    · exact ⟨.inr (by omega), h'⟩
    · exact ⟨.inl (hKD k (.inr h)).1, by have := (hKD k (.inr h)).2; have := hF.size; omega⟩
    · exact ⟨.inr h.1, by omega⟩
  · rintro k ⟨h | h, h0⟩ (h' | h')
    · exact hdj k h h'
    · have := (hKD k (.inl h)).2; omega
    · have := (hKD k (.inr h')).2; omega
    · omega
  · rw [List.length_append]; exact hsl.bound
  · exact ((hk.keep fun k hD hl => hF.block k hl fun h => hdj k h hD).mono fun k h => .inl h).append (hd.mono fun k h => .inr h)
end
end Go.Proofs.Ytgpeekicpkgpmaa
