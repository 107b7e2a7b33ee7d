/- Elements: what a list of cells says, to the bottom; lists of them in slices. No condition on the program. -/
import Derived.Test.YtdmfjmdnkfeljaaDoorTh
namespace Go.Proofs.YtdmfjmdnkfeljaaDoor
open Go.RowKit

/-- a kind of element: its cells, its own blocks, the pool -/
structure El (α : Type) where
  size : Nat
  rd : World → BS → BS → List Value → α → Prop
  len : ∀ {w F Z cs a}, rd w F Z cs a → cs.length = size
  keep : ∀ {w w' : World} {F Z cs a}, rd w F Z cs a → w.heap.size ≤ w'.heap.size → (∀ k, F k ∨ Z k → k < w.heap.size → w'.heap[k]? = w.heap[k]?) → rd w' (fun k => F k ∧ k < w.heap.size) (fun k => Z k ∧ k < w.heap.size) cs a
  mono : ∀ {w F Z G Y cs a}, rd w F Z cs a → (∀ k, F k → G k) → (∀ k, Z k → Y k) → rd w G Y cs a
  one : ∀ {w F Z cs a}, rd w F Z cs a → ∀ u ∈ cs, u.oneCell' = true
/-- a number -/
def eInt (k : IntKind) : El Int where
  size := 1
  rd _ _ _ cs n := cs = [.int k n]
  len h := by rw [h]; rfl
  keep h _ _ := h
  mono h _ _ := h
  one h u hu := by rw [h] at hu; obtain rfl := List.mem_singleton.1 hu; rfl
/-- a number within its kind -/
def eIntW (k : IntKind) : El Int where
  size := 1
  rd _ _ _ cs n := cs = [.int k n] ∧ (Lit.int k n).wf = true
  len h := by rw [h.1]; rfl
  keep h _ _ := h
  mono h _ _ := h
  one h u hu := by rw [h.1] at hu; obtain rfl := List.mem_singleton.1 hu; rfl
def eNat : El Nat where
  size := 1
  rd _ _ _ cs n := cs = [.int .i64 (n : Int)]
  len h := by rw [h]; rfl
  keep h _ _ := h
  mono h _ _ := h
  one h u hu := by rw [h] at hu; obtain rfl := List.mem_singleton.1 hu; rfl
def eBool : El Bool where
  size := 1
  rd _ _ _ cs b := cs = [.bool b]
  len h := by rw [h]; rfl
  keep h _ _ := h
  mono h _ _ := h
  one h u hu := by rw [h] at hu; obtain rfl := List.mem_singleton.1 hu; rfl
/-- bytes that nobody writes -/
def ByZ (w : World) (Z : BS) (v : Value) (bs : List (BitVec 8)) : Prop := By w v bs ∧ (0 < bs.length → ∀ b, v.ownBlock = some b → Z b)
theorem Rd.lt {w : World} {s : Nat} {v : Value} {n : Nat} {us : List Value} (h : Rd w s v n us) (h0 : 0 < us.length) {b : Nat} (hb : v.ownBlock = some b) : b < w.heap.size := by
  obtain ⟨_, a, cap, rfl, _, _, _, h4⟩ := h
  cases a with
  | none => cases hb
  | some a =>
    obtain rfl : a.block = b := by simpa [Value.ownBlock] using hb
    obtain ⟨u, hu⟩ : ∃ u, us[0]? = some u := ⟨us[0], List.getElem?_eq_getElem h0⟩
    exact World.block_lt_of_cell? w ⟨a.block, a.off + 0, none⟩ (h4 a rfl 0 u hu).2
/-- a slice stays where its block does; an empty one stays anyway -/
theorem Rd.stay {w w' : World} {s : Nat} {v : Value} {n : Nat} {us : List Value} (h : Rd w s v n us) (hk : 0 < us.length → ∀ k, v.ownBlock = some k → k < w.heap.size → w'.heap[k]? = w.heap[k]?) : Rd w' s v n us := by
  by_cases h0 : 0 < us.length
  · exact h.keep (hk h0)
  · obtain ⟨hl, a, cap, rfl, h1, h2, h3, h4⟩ := h
    exact ⟨hl, a, cap, rfl, h1, h2, h3, fun b hb j u hj => by have : j < us.length := lt_of_get hj; omega⟩
theorem ByZ.stay {w w' : World} {Z : BS} {v : Value} {bs : List (BitVec 8)} (h : ByZ w Z v bs) (hk : ∀ k, Z k → k < w.heap.size → w'.heap[k]? = w.heap[k]?) : ByZ w' (fun k => Z k ∧ k < w.heap.size) v bs :=
  ⟨Rd.stay h.1 fun h0 k e hl => hk k (h.2 (by rwa [cu_length] at h0) k e) hl, fun h0 b hb => ⟨h.2 h0 b hb, Rd.lt h.1 (by rwa [cu_length]) hb⟩⟩
theorem ByZ.mono {w : World} {Z Y : BS} {v : Value} {bs : List (BitVec 8)} (h : ByZ w Z v bs) (hZ : ∀ k, Z k → Y k) : ByZ w Y v bs := ⟨h.1, fun h0 b e => hZ b (h.2 h0 b e)⟩
theorem ByZ.keep {w w' : World} {Z : BS} {v : Value} {bs : List (BitVec 8)} (h : ByZ w Z v bs) (hk : ∀ k, Z k → k < w.heap.size → w'.heap[k]? = w.heap[k]?) : ByZ w' Z v bs := (h.stay hk).mono fun _ h => h.1
theorem ByZ.below {w w' : World} {Z : BS} {v : Value} {bs : List (BitVec 8)} (h : ByZ w Z v bs) (hb : Below w.heap.size w w') : ByZ w' Z v bs := h.keep fun k _ hl => hb.block k hl
theorem ByZ.slice {w : World} {Z : BS} {v : Value} {bs : List (BitVec 8)} (h : ByZ w Z v bs) : ∃ a c, v = .slice a bs.length c := by obtain ⟨⟨_, a, c, e, _⟩, _⟩ := h; exact ⟨a, c, e⟩
theorem ByZ.nil (w : World) (Z : BS) : ByZ w Z (.slice none 0 0) [] := ⟨By.of_nil w, fun h => by simp at h⟩
def eBy : El (List (BitVec 8)) where
  size := 1
  rd w _ Z cs bs := ∃ v, cs = [v] ∧ ByZ w Z v bs
  len h := by obtain ⟨v, h, _⟩ := h; rw [h]; rfl
  keep h _ hk := by obtain ⟨v, e, h⟩ := h; exact ⟨v, e, h.stay fun k hz => hk k (.inr hz)⟩
  mono h _ hZ := by obtain ⟨v, e, h⟩ := h; exact ⟨v, e, h.mono hZ⟩
  one h u hu := by
    obtain ⟨v, rfl, ⟨_, a, c, rfl, _⟩, _⟩ := h
    obtain rfl : u = _ := List.mem_singleton.1 hu
    rfl
/-- two elements, one behind the other -/
def eProd {α β : Type} (A : El α) (B : El β) : El (α × β) where
  size := A.size + B.size
  rd w F Z cs x := ∃ c d G H, cs = c ++ d ∧ (∀ k, G k → F k) ∧ (∀ k, H k → F k) ∧ Dj G H ∧ A.rd w G Z c x.1 ∧ B.rd w H Z d x.2
  len h := by obtain ⟨c, d, G, H, rfl, _, _, _, h1, h2⟩ := h; rw [List.length_append, A.len h1, B.len h2]
  keep h hs hk := by
    obtain ⟨c, d, G, H, e, g1, g2, g3, h1, h2⟩ := h
    exact ⟨c, d, _, _, e, fun k h => ⟨g1 k h.1, h.2⟩, fun k h => ⟨g2 k h.1, h.2⟩, fun k a b => g3 k a.1 b.1, A.keep h1 hs fun k hh => hk k (hh.imp (g1 k) id), B.keep h2 hs fun k hh => hk k (hh.imp (g2 k) id)⟩
  mono h hF hZ := by
    obtain ⟨c, d, G, H, e, g1, g2, g3, h1, h2⟩ := h
    exact ⟨c, d, G, H, e, fun k h => hF k (g1 k h), fun k h => hF k (g2 k h), g3, A.mono h1 (fun _ h => h) hZ, B.mono h2 (fun _ h => h) hZ⟩
  one h u hu := by
    obtain ⟨c, d, G, H, rfl, _, _, _, h1, h2⟩ := h
    rcases List.mem_append.1 hu with hu | hu
    · exact A.one h1 u hu
    · exact B.one h2 u hu
def eMap {α β : Type} (A : El α) (f : α → β) : El β where
  size := A.size
  rd w F Z cs b := ∃ a, A.rd w F Z cs a ∧ f a = b
  len h := by obtain ⟨a, h, _⟩ := h; exact A.len h
  keep h hs hk := by obtain ⟨a, h, e⟩ := h; exact ⟨a, A.keep h hs hk, e⟩
  mono h hF hZ := by obtain ⟨a, h, e⟩ := h; exact ⟨a, A.mono h hF hZ, e⟩
  one h := by obtain ⟨a, h, _⟩ := h; exact A.one h
/-- elements, one behind another, each with blocks of its own -/
def Els {α : Type} (E : El α) (w : World) (F Z : BS) : List Value → List α → Prop
  | us, [] => us = []
  | us, a :: xs => ∃ cs rest A B, us = cs ++ rest ∧ (∀ k, A k → F k) ∧ (∀ k, B k → F k) ∧ Dj A B ∧ E.rd w A Z cs a ∧ Els E w B Z rest xs
section
variable {α : Type} {E : El α} {w w' : World} {F G Z Y : BS}
theorem Els.length : ∀ {F : BS} {us : List Value} {xs : List α}, Els E w F Z us xs → us.length = xs.length * E.size
  | _, _, [], h => by rw [show _ = [] from h]; simp
  | _, _, a :: xs, ⟨cs, rest, A, B, e, _, _, _, h1, h2⟩ => by rw [e, List.length_append, E.len h1, h2.length, List.length_cons, Nat.add_mul]; omega
theorem Els.keep : ∀ {F : BS} {us : List Value} {xs : List α}, Els E w F Z us xs → w.heap.size ≤ w'.heap.size → (∀ k, F k ∨ Z k → k < w.heap.size → w'.heap[k]? = w.heap[k]?) → Els E w' (fun k => F k ∧ k < w.heap.size) (fun k => Z k ∧ k < w.heap.size) us xs
  | _, _, [], h, _, _ => h
  | _, _, _ :: _, ⟨cs, rest, _, _, e, g1, g2, g3, h1, h2⟩, hs, hk => ⟨cs, rest, _, _, e, fun k h => ⟨g1 k h.1, h.2⟩, fun k h => ⟨g2 k h.1, h.2⟩, fun k a b => g3 k a.1 b.1, E.keep h1 hs fun k hh => hk k (hh.imp (g1 k) id), h2.keep hs fun k hh => hk k (hh.imp (g2 k) id)⟩
theorem Els.mono : ∀ {F G : BS} {us : List Value} {xs : List α}, Els E w F Z us xs → (∀ k, F k → G k) → (∀ k, Z k → Y k) → Els E w G Y us xs
  | _, _, _, [], h, _, _ => h
  | _, _, _, _ :: _, ⟨cs, rest, A, B, e, g1, g2, g3, h1, h2⟩, hF, hZ => ⟨cs, rest, A, B, e, fun k h => hF k (g1 k h), fun k h => hF k (g2 k h), g3, E.mono h1 (fun _ h => h) hZ, h2.mono (fun _ h => h) hZ⟩
theorem Els.one : ∀ {F : BS} {us : List Value} {xs : List α}, Els E w F Z us xs → ∀ u ∈ us, u.oneCell' = true
  | _, _, [], h, u, hu => by rw [show _ = [] from h] at hu; cases hu
  | _, _, a :: xs, ⟨cs, rest, A, B, e, _, _, _, h1, h2⟩, u, hu => by
    rw [e] at hu
    rcases List.mem_append.1 hu with hu | hu
    · exact E.one h1 u hu
    · exact h2.one u hu
theorem Els.append : ∀ {F G H : BS} {us vs : List Value} {xs ys : List α}, Els E w F Z us xs → Els E w G Z vs ys → Dj F G → (∀ k, F k → H k) → (∀ k, G k → H k) → Els E w H Z (us ++ vs) (xs ++ ys)
  | _, _, _, us, vs, [], ys, h, k, _, _, hG => by rw [show us = [] from h]; exact k.mono hG fun _ h => h
  | F, G, H, us, vs, a :: xs, ys, ⟨cs, rest, A, B, e, g1, g2, g3, h1, h2⟩, k, hd, hF, hG =>
    ⟨cs, rest ++ vs, A, fun k => B k ∨ G k, by rw [e, List.append_assoc], fun k a => hF k (g1 k a), fun k h => h.elim (fun b => hF k (g2 k b)) (hG k), fun k a h => h.elim (g3 k a) (hd k (g1 k a)), h1,
      Els.append h2 k (fun k b g => hd k (g2 k b) g) (fun _ b => .inl b) fun _ g => .inr g⟩
theorem Els.single {cs : List Value} {a : α} (h : E.rd w F Z cs a) : Els E w F Z cs [a] := ⟨cs, [], F, fun _ => False, by simp, fun _ h => h, fun _ f => f.elim, fun _ _ f => f, h, rfl⟩
theorem Els.drop : ∀ {F : BS} {us : List Value} {xs : List α} (k : Nat), Els E w F Z us xs → Els E w F Z (us.drop (k * E.size)) (xs.drop k)
  | _, us, [], k, h => by rw [show us = [] from h]; simp; exact rfl
  | _, us, a :: xs, 0, h => by simpa using h
  | F, us, a :: xs, k + 1, ⟨cs, rest, A, B, e, _, g2, _, h1, h2⟩ => by
    have := (h2.drop k).mono g2 fun _ h => h
    rw [e, List.drop_succ_cons]
    have e2 : (cs ++ rest).drop ((k + 1) * E.size) = rest.drop (k * E.size) := by
      rw [List.drop_append, E.len h1, List.drop_eq_nil_of_le (by rw [E.len h1, Nat.add_mul]; omega), List.nil_append]
      congr 1; rw [Nat.add_mul]; omega
    rw [e2]; exact this
theorem Els.take : ∀ {F : BS} {us : List Value} {xs : List α} (k : Nat), Els E w F Z us xs → Els E w F Z (us.take (k * E.size)) (xs.take k)
  | _, us, [], k, h => by rw [show us = [] from h]; simp; exact rfl
  | _, us, a :: xs, 0, h => by simp; exact rfl
  | F, us, a :: xs, k + 1, ⟨cs, rest, A, B, e, g1, g2, g3, h1, h2⟩ => by
    refine ⟨cs, rest.take (k * E.size), A, B, ?_, g1, g2, g3, h1, h2.take k⟩
    rw [e, List.take_append, List.take_of_length_le (by rw [E.len h1, Nat.add_mul]; omega), E.len h1]
    congr 2; rw [Nat.add_mul]; omega
theorem Els.get : ∀ {F : BS} {us : List Value} {xs : List α} {i : Nat} {a : α}, Els E w F Z us xs → xs[i]? = some a → ∃ cs A, E.rd w A Z cs a ∧ (∀ k, A k → F k) ∧ ∀ j, j < E.size → us[i * E.size + j]? = cs[j]?
  | _, us, x :: xs, 0, a, ⟨cs, rest, A, _, e, g1, _, _, h1, _⟩, hi => by
    obtain rfl : x = a := by simpa using hi
    refine ⟨cs, A, h1, g1, fun j hj => ?_⟩
    rw [e, Nat.zero_mul, Nat.zero_add, List.getElem?_append_left (by rw [E.len h1]; exact hj)]
  | _, us, x :: xs, i + 1, a, ⟨cs, rest, A, B, e, _, g2, _, h1, h2⟩, hi => by
    obtain ⟨cs', A', h3, h3', h4⟩ := h2.get (by simpa using hi)
    refine ⟨cs', A', h3, fun k h => g2 k (h3' k h), fun j hj => ?_⟩
    rw [← h4 j hj, e, List.getElem?_append_right (by rw [E.len h1, Nat.add_mul]; omega), E.len h1]
    congr 1; rw [Nat.add_mul]; omega
/-- one element in hand: taken out, changed by whatever leaves the others, and put back -/
theorem Els.focus : ∀ {F : BS} {us : List Value} {xs : List α} {i : Nat} {a : α}, Els E w F Z us xs → xs[i]? = some a → ∃ cs A B, E.rd w A Z cs a ∧ (∀ k, A k → F k) ∧ (∀ k, B k → F k) ∧ Dj A B ∧ us = us.take (i * E.size) ++ cs ++ us.drop ((i + 1) * E.size) ∧
    ∀ (w' : World) (cs' : List Value) (a' : α) (A' H Y : BS), w.heap.size ≤ w'.heap.size → (∀ k, B k ∨ Z k → k < w.heap.size → w'.heap[k]? = w.heap[k]?) → E.rd w' A' Y cs' a' → (∀ k, A' k → H k ∧ ¬ (B k ∧ k < w.heap.size)) → (∀ k, B k → k < w.heap.size → H k) → (∀ k, Z k → k < w.heap.size → Y k) →
      Els E w' H Y (us.take (i * E.size) ++ cs' ++ us.drop ((i + 1) * E.size)) (xs.set i a')
  | F, us, x :: xs, 0, a, ⟨cs, rest, A, B, e, g1, g2, g3, h1, h2⟩, hi => by
    obtain rfl : x = a := by simpa using hi
    have hd : (cs ++ rest).drop E.size = rest := by rw [← E.len h1]; exact List.drop_left
    refine ⟨cs, A, B, h1, g1, g2, g3, by rw [e]; simp [hd], fun w' cs' a' A' H Y hs hk hr hA hB hZ => ?_⟩
    refine ⟨cs', rest, A', fun k => B k ∧ k < w.heap.size, by rw [e]; simp [hd], fun k h => (hA k h).1, fun k h => hB k h.1 h.2, fun k a b => (hA k a).2 b, hr, ?_⟩
    exact (h2.keep hs hk).mono (fun _ h => h) fun k h => hZ k h.1 h.2
  | F, us, x :: xs, i + 1, a, ⟨cs, rest, A, B, e, g1, g2, g3, h1, h2⟩, hi => by
    obtain ⟨cs1, A1, B1, q1, q2, q3, q4, q5, q6⟩ := h2.focus (i := i) (by simpa using hi)
    have hl := E.len h1
    have e3 : ∀ n, (cs ++ rest).take ((n + 1) * E.size) = cs ++ rest.take (n * E.size) := fun n => by
      rw [List.take_append, List.take_of_length_le (by rw [hl, Nat.add_mul]; omega), hl]
      congr 2; rw [Nat.add_mul]; omega
    have e4 : ∀ n, (cs ++ rest).drop ((n + 1) * E.size) = rest.drop (n * E.size) := fun n => by
      rw [List.drop_append, List.drop_eq_nil_of_le (by rw [hl, Nat.add_mul]; omega), List.nil_append, hl]
      congr 1; rw [Nat.add_mul]; omega
    refine ⟨cs1, A1, fun k => A k ∨ B1 k, q1, fun k h => g2 k (q2 k h), fun k h => h.elim (g1 k) fun h => g2 k (q3 k h), fun k a b => b.elim (fun b => g3 k b (q2 k a)) (q4 k a), ?_, fun w' cs' a' A' H Y hs hk hr hA hB hZ => ?_⟩
    · rw [e, e3, e4, List.append_assoc, List.append_assoc]
      congr 1
      rw [← List.append_assoc]; exact q5
    · refine ⟨cs, rest.take (i * E.size) ++ cs' ++ rest.drop ((i + 1) * E.size), fun k => A k ∧ k < w.heap.size, fun k => H k ∧ ¬ (A k ∧ k < w.heap.size), by rw [e, e3, e4]; simp [List.append_assoc], fun k h => hB k (.inl h.1) h.2, fun k h => h.1, fun k a b => b.2 a, ?_, ?_⟩
      · exact E.mono (E.keep h1 hs fun k hh => hk k (hh.imp .inl id)) (fun _ h => h) fun k h => hZ k h.1 h.2
      · exact q6 w' cs' a' A' _ Y hs (fun k hh => hk k (hh.imp .inr id)) hr (fun k h => ⟨⟨(hA k h).1, fun h' => (hA k h).2 ⟨.inl h'.1, h'.2⟩⟩, fun h' => (hA k h).2 ⟨.inr h'.1, h'.2⟩⟩) (fun k h hl => ⟨hB k (.inr h) hl, fun h' => g3 k h'.1 (q3 k h)⟩) hZ
end
/-- v[k:], elements of any size -/
theorem Sl.dropG {w : World} {F : Nat → Prop} {e : TypeId} {s g off n cap : Nat} {us : List Value} (h : Sl w F e s (.slice (some ⟨g, off, none⟩) n cap) n us) {k : Nat} (hk : k ≤ n) :
    Sl w F e s (.slice (if cap = k then some ⟨g, off, none⟩ else some ⟨g, off + k * s, none⟩) (n - k) (cap - k)) (n - k) (us.drop (k * s)) := by
  obtain ⟨hl, ⟨h, _⟩ | ⟨g', off', cap', cur, e1, hF, hg, h1, h2, h3, h4⟩⟩ := h
  · cases h
  · obtain ⟨⟨rfl, rfl⟩, rfl⟩ : (g = g' ∧ off = off') ∧ cap = cap' := by simpa using e1
    have hm : (n - k) * s = n * s - k * s := Nat.sub_mul n k s
    have hm2 : (cap - k) * s = cap * s - k * s := Nat.sub_mul cap k s
    have hle : k * s ≤ n * s := Nat.mul_le_mul_right s hk
    have hle2 : n * s ≤ cap * s := Nat.mul_le_mul_right s h1
    refine ⟨by rw [List.length_drop, hl, hm], .inr ?_⟩
    by_cases hc : cap = k
    · rw [if_pos hc]
      have hn : n - k = 0 := by omega
      refine ⟨g, off, cap - k, cur, rfl, hF, hg, by omega, by omega, by rw [hm2]; omega, ?_⟩
      have : us.drop (k * s) = [] := List.drop_eq_nil_of_le (by rw [hl]; have : n = k := by omega
                                                                rw [this]; exact Nat.le_refl _)
      rw [this, hn]; simp
    · rw [if_neg hc]
      refine ⟨g, off + k * s, cap - k, cur, rfl, hF, hg, by omega, by omega, by rw [hm2]; omega, ?_⟩
      rw [← h4, List.drop_take, List.drop_drop]
      congr 1
/-- a slice in the pool that reads as xs -/
def RdS {α : Type} (E : El α) (w : World) (Z : BS) (v : Value) (xs : List α) : Prop := ∃ us, Rd w E.size v xs.length us ∧ Els E w (fun _ => False) Z us xs ∧ (0 < us.length → ∀ b, v.ownBlock = some b → Z b)
section
variable {α : Type} {E : El α} {w w' : World} {F G Z Y : BS} {v : Value} {xs : List α}
theorem RdS.stay (h : RdS E w Z v xs) (hs : w.heap.size ≤ w'.heap.size) (hk : ∀ k, Z k → k < w.heap.size → w'.heap[k]? = w.heap[k]?) : RdS E w' (fun k => Z k ∧ k < w.heap.size) v xs := by
  obtain ⟨us, h1, h2, h3⟩ := h
  exact ⟨us, h1.stay fun h0 k e hl => hk k (h3 h0 k e) hl, (h2.keep hs fun k hh => hk k (hh.resolve_left id)).mono (fun k h => h.1) fun _ h => h, fun h0 b hb => ⟨h3 h0 b hb, h1.lt h0 hb⟩⟩
theorem RdS.mono (h : RdS E w Z v xs) (hZ : ∀ k, Z k → Y k) : RdS E w Y v xs := by
  obtain ⟨us, h1, h2, h3⟩ := h
  exact ⟨us, h1, h2.mono (fun _ h => h) hZ, fun h0 b e => hZ b (h3 h0 b e)⟩
theorem RdS.keep (h : RdS E w Z v xs) (hs : w.heap.size ≤ w'.heap.size) (hk : ∀ k, Z k → k < w.heap.size → w'.heap[k]? = w.heap[k]?) : RdS E w' Z v xs := (h.stay hs hk).mono fun _ h => h.1
theorem RdS.below (h : RdS E w Z v xs) (hb : Below w.heap.size w w') : RdS E w' Z v xs := h.keep hb.size fun k _ hl => hb.block k hl
theorem RdS.nil (E : El α) (w : World) (Z : BS) : RdS E w Z (.slice none 0 0) [] :=
  ⟨[], ⟨by simp, none, 0, rfl, Nat.le_refl _, Nat.zero_le _, fun _ => ⟨rfl, rfl⟩, fun b hb => by cases hb⟩, rfl, fun h => by simp at h⟩
theorem RdS.shape (h : RdS E w Z v xs) : ∃ a cap, v = .slice a xs.length cap ∧ xs.length ≤ cap ∧ cap ≤ maxLen := by
  obtain ⟨us, ⟨_, a, cap, e, h1, h2, _⟩, _⟩ := h; exact ⟨a, cap, e, h1, h2⟩
/-- element i -/
theorem RdS.at {a : Option Addr} {n c : Nat} (h : RdS E w Z (.slice a n c) xs) (hpos : 0 < E.size) {i : Nat} {x : α} (hi : xs[i]? = some x) :
    ∃ b off cs, a = some ⟨b, off, none⟩ ∧ Z b ∧ E.rd w (fun _ => False) Z cs x ∧ ∀ j u, cs[j]? = some u → w.cell? ⟨b, off + i * E.size + j, none⟩ = some u := by
  obtain ⟨us, ⟨hl, a', cap, e, h1, h2, h3, h4⟩, h5, h6⟩ := h
  obtain ⟨rfl, rfl, rfl⟩ : a = a' ∧ n = xs.length ∧ c = cap := by simpa using e
  obtain ⟨cs, A, hr, hA, hc⟩ := h5.get hi
  have hil := lt_of_get hi
  have hul : 0 < us.length := by rw [hl]; exact Nat.mul_pos (by omega) hpos
  cases a with
  | none => have := (h3 rfl).1; omega
  | some b =>
    obtain ⟨b, off, spot⟩ := b
    have hcl := E.len hr
    have h0 : cs[0]? = some cs[0] := List.getElem?_eq_getElem (by omega)
    obtain rfl : spot = none := (h4 _ rfl _ _ ((hc 0 hpos).trans h0)).1
    refine ⟨b, off, cs, rfl, h6 hul b rfl, E.mono hr hA fun _ h => h, fun j u hj => ?_⟩
    have hjl : j < E.size := by rw [← hcl]; exact lt_of_get hj
    have := (h4 _ rfl _ _ ((hc j hjl).trans hj)).2
    rw [← Nat.add_assoc] at this; exact this
/-- v[:k] -/
theorem RdS.take {a : Option Addr} {n c : Nat} (h : RdS E w Z (.slice a n c) xs) {k : Nat} (hk : k ≤ n) : RdS E w Z (.slice a k c) (xs.take k) := by
  obtain ⟨us, ⟨hl, a', cap, e, h1, h2, h3, h4⟩, h5, h6⟩ := h
  obtain ⟨rfl, rfl, rfl⟩ : a = a' ∧ n = xs.length ∧ c = cap := by simpa using e
  have hlt : (xs.take k).length = k := by rw [List.length_take]; omega
  have hul : (us.take (k * E.size)).length = k * E.size := by rw [List.length_take, hl]; exact Nat.min_eq_left (Nat.mul_le_mul_right _ hk)
  refine ⟨us.take (k * E.size), ⟨by rw [hul, hlt], a, c, by rw [hlt], by omega, h2, fun e => ?_, fun b hb j u hj => h4 b hb j u ?_⟩, h5.take k, fun h0 b hb => h6 (by rw [List.length_take] at h0; omega) b (by cases a <;> exact hb)⟩
  · have := h3 e; omega
  · rw [List.getElem?_take] at hj
    split at hj
    · exact hj
    · cases hj
end
/-- a list in a slice that its owner may append to, cut and write: the array in K, what the elements own in D -/
def Sq {α : Type} (E : El α) (T : TypeId) (w : World) (F Z : BS) (v : Value) (xs : List α) : Prop :=
  ∃ K D us, (∀ k, K k ∨ D k → F k) ∧ Dj K D ∧ (∀ k, K k → k < w.heap.size) ∧ Sl w K T E.size v xs.length us ∧ Els E w D Z us xs
section
variable {α : Type} {E : El α} {T : TypeId} {w w' : World} {F G Z Y : BS} {v : Value} {xs : List α}
theorem Sq.keep (h : Sq E T w F Z v xs) (hs : w.heap.size ≤ w'.heap.size) (hk : ∀ k, F k ∨ Z k → k < w.heap.size → w'.heap[k]? = w.heap[k]?) : Sq E T w' (fun k => F k ∧ k < w.heap.size) (fun k => Z k ∧ k < w.heap.size) v xs := by
  obtain ⟨K, D, us, h1, h2, hK, h3, h4⟩ := h
  exact ⟨K, fun k => D k ∧ k < w.heap.size, us, fun k hkd => hkd.elim (fun h => ⟨h1 k (.inl h), hK k h⟩) fun h => ⟨h1 k (.inr h.1), h.2⟩, fun k a b => h2 k a b.1, fun k h => Nat.lt_of_lt_of_le (hK k h) hs, h3.keep fun k h hl => hk k (.inl (h1 k (.inl h))) hl,
    h4.keep hs fun k hh => hk k (hh.imp (fun h => h1 k (.inr h)) id)⟩
theorem Sq.mono (h : Sq E T w F Z v xs) (hG : ∀ k, F k → G k) (hZ : ∀ k, Z k → Y k) : Sq E T w G Y v xs := by
  obtain ⟨K, D, us, h1, h2, hK, h3, h4⟩ := h
  exact ⟨K, D, us, fun k hkd => hG k (h1 k hkd), h2, hK, h3, h4.mono (fun _ h => h) hZ⟩
theorem Sq.stay (h : Sq E T w F Z v xs) (hs : w.heap.size ≤ w'.heap.size) (hk : ∀ k, F k ∨ Z k → k < w.heap.size → w'.heap[k]? = w.heap[k]?) : Sq E T w' F Z v xs := (h.keep hs hk).mono (fun _ h => h.1) fun _ h => h.1
theorem Sq.nil (E : El α) (T : TypeId) (w : World) (F Z : BS) : Sq E T w F Z (.slice none 0 0) [] :=
  ⟨fun _ => False, fun _ => False, [], fun _ h => by rcases h with h | h <;> exact h.elim, fun _ h => h.elim, fun _ h => h.elim, Sl.nil _ _ _ _, rfl⟩
theorem Sq.shape (h : Sq E T w F Z v xs) : ∃ a cap, v = .slice a xs.length cap := by obtain ⟨K, D, us, _, _, _, h3, _⟩ := h; exact h3.shape
theorem Sq.le (h : Sq E T w F Z v xs) : ∃ a cap, v = .slice a xs.length cap ∧ xs.length ≤ cap ∧ cap ≤ maxLen ∧ (a = none → xs.length = 0 ∧ cap = 0) := by
  obtain ⟨K, D, us, _, _, _, h3, _⟩ := h
  obtain ⟨_, a, cap, e, h1, h2, h4, _⟩ := h3.rd
  exact ⟨a, cap, e, h1, h2, h4⟩
/-- element i, to read -/
theorem Sq.at {a : Option Addr} {n c : Nat} (h : Sq E T w F Z (.slice a n c) xs) (_ : 0 < E.size) {i : Nat} {x : α} (hi : xs[i]? = some x) :
    ∃ b off cs A, a = some ⟨b, off, none⟩ ∧ F b ∧ E.rd w A Z cs x ∧ (∀ k, A k → F k) ∧ ∀ j u, cs[j]? = some u → w.cell? ⟨b, off + i * E.size + j, none⟩ = some u := by
  obtain ⟨K, D, us, h1, h2, hK, h3, h4⟩ := h
  obtain ⟨cs, A, hr, hA, hc⟩ := h4.get hi
  have hil := lt_of_get hi
  obtain ⟨g, off, cap, e, hg, _⟩ := h3.head (by omega)
  obtain ⟨rfl, rfl, rfl⟩ : a = some ⟨g, off, none⟩ ∧ n = xs.length ∧ c = cap := by simpa using e
  refine ⟨g, off, cs, A, rfl, h1 g (.inl hg), hr, fun k h => h1 k (.inr (hA k h)), fun j u hj => ?_⟩
  have hjl : j < E.size := by rw [← E.len hr]; exact lt_of_get hj
  have := h3.cell (i * E.size + j) u ((hc j hjl).trans hj)
  rw [← Nat.add_assoc] at this; exact this
/-- v[k:] -/
theorem Sq.drop {a : Option Addr} {n c : Nat} (h : Sq E T w F Z (.slice a n c) xs) {k : Nat} (h0 : 0 < k) (hk : k ≤ xs.length) :
    ∃ g off, a = some ⟨g, off, none⟩ ∧ n = xs.length ∧ xs.length ≤ c ∧ Sq E T w F Z (.slice (if c = k then some ⟨g, off, none⟩ else some ⟨g, off + k * E.size, none⟩) (xs.length - k) (c - k)) (xs.drop k) := by
  obtain ⟨K, D, us, h1, h2, hK, h3, h4⟩ := h
  obtain ⟨g, off, cap, e, _, hc⟩ := h3.head (by omega)
  obtain ⟨rfl, rfl, rfl⟩ : a = some ⟨g, off, none⟩ ∧ n = xs.length ∧ c = cap := by simpa using e
  refine ⟨g, off, rfl, rfl, hc, K, D, us.drop (k * E.size), h1, h2, hK, ?_, h4.drop k⟩
  rw [List.length_drop]
  exact h3.dropG hk
/-- behind an append of ys: w2 is the world behind it, w1 the one just before; what ys lead to is new, or lies in the pool -/
theorem Sq.snoc {w1 w2 : World} {K D N : BS} {us news : List Value} {ys : List α} {u2 : Value} (hKD : ∀ k, K k ∨ D k → F k) (hdj : Dj K D) (hKs : ∀ k, K k → k < w.heap.size) (hKZ : Dj K Z) (hk : Els E w D Z us xs)
    (hz : w.heap.size ≤ w1.heap.size) (hd : Els E w2 N Y news ys) (hN : ∀ k, N k → w.heap.size ≤ k ∧ k < w1.heap.size) (hsl : Sl w2 (fun k => K k ∨ w1.heap.size ≤ k) T E.size u2 (xs.length + ys.length) (us ++ news)) (hF : Fr K w w2) (hz2 : w1.heap.size ≤ w2.heap.size) (hZY : ∀ k, Z k → k < w.heap.size → Y k) :
    Sq E T w2 (fun k => F k ∨ w.heap.size ≤ k) Y u2 (xs ++ ys) := by
  refine ⟨fun k => (K k ∨ w1.heap.size ≤ k) ∧ k < w2.heap.size, fun k => (D k ∧ k < w.heap.size) ∨ N k, us ++ news, ?_, ?_, fun k h => h.2, ?_, ?_⟩
  · rintro k (⟨h | h, h'⟩ | h | h)
    · exact .inl (hKD k (.inl h))
    · exact .inr (by omega)
    · exact .inl (hKD k (.inr h.1))
    · exact .inr (hN k h).1
  · rintro k ⟨h | h, h0⟩ (h' | h')
    · exact hdj k h h'.1
    · have := hKs k h; have := (hN k h').1; omega
    · omega
    · have := (hN k h').2; omega
  · rw [List.length_append]; exact hsl.bound
  · refine ((hk.keep (Nat.le_trans hz hz2) fun k hh hl => hF.block k hl fun h => hh.elim (fun d => hdj k h d) fun z => hKZ k h z).mono (fun _ h => h) fun k h => hZY k h.1 h.2).append hd (fun k a b => ?_) (fun k h => .inl h) fun k h => .inr h
    have := (hN k b).1; omega
/-- to give up writing -/
theorem Sq.rd (h : Sq E T w F Z v xs) (hc : ∀ {A B cs a}, E.rd w A B cs a → E.rd w (fun _ => False) (fun k => A k ∨ B k) cs a) : RdS E w (fun k => F k ∨ Z k) v xs := by
  obtain ⟨K, D, us, h1, h2, hK, h3, h4⟩ := h
  refine ⟨us, h3.rd, ?_, fun h0 b hb => ?_⟩
  · have hD := fun k (d : D k) => h1 k (.inr d)
    clear h1 h2 hK h3
    induction xs generalizing us D with
    | nil => exact h4
    | cons a xs ih =>
      obtain ⟨cs, rest, A, B, e, g1, g2, g3, q1, q2⟩ := h4
      exact ⟨cs, rest, _, _, e, fun _ h => h, fun _ h => h, fun _ f => f.elim, E.mono (hc q1) (fun _ h => h) (fun k h => h.imp (fun h => hD k (g1 k h)) id), ih B rest q2 fun k h => hD k (g2 k h)⟩
  · obtain ⟨_, ⟨rfl, _⟩ | ⟨g, off, cap, cur, rfl, hK, _⟩⟩ := h3
    · cases hb
    · obtain rfl : g = b := by simpa [Value.ownBlock] using hb
      exact .inl (h1 g (.inl hK))
end
/-- slices as elements: read-only, and owned -/
def eRd {α : Type} (E : El α) : El (List α) where
  size := 1
  rd w _ Z cs xs := ∃ v, cs = [v] ∧ RdS E w Z v xs
  len h := by obtain ⟨v, h, _⟩ := h; rw [h]; rfl
  keep h hs hk := by obtain ⟨v, e, h⟩ := h; exact ⟨v, e, h.stay hs fun k hz => hk k (.inr hz)⟩
  mono h _ hZ := by obtain ⟨v, e, h⟩ := h; exact ⟨v, e, h.mono hZ⟩
  one h u hu := by
    obtain ⟨v, rfl, h⟩ := h
    obtain ⟨a, c, rfl, _⟩ := h.shape
    obtain rfl : u = _ := List.mem_singleton.1 hu
    rfl
def eSq {α : Type} (E : El α) (T : TypeId) : El (List α) where
  size := 1
  rd w F Z cs xs := ∃ v, cs = [v] ∧ Sq E T w F Z v xs
  len h := by obtain ⟨v, h, _⟩ := h; rw [h]; rfl
  keep h hs hk := by obtain ⟨v, e, h⟩ := h; exact ⟨v, e, h.keep hs hk⟩
  mono h hF hZ := by obtain ⟨v, e, h⟩ := h; exact ⟨v, e, h.mono hF hZ⟩
  one h u hu := by
    obtain ⟨v, rfl, h⟩ := h
    obtain ⟨a, c, rfl⟩ := h.shape
    obtain rfl : u = _ := List.mem_singleton.1 hu
    rfl
/-- an object behind a pointer: its block, and what its cells lead to -/
def Ob {α : Type} (E : El α) (T : TypeId) (p : Nat) (a : α) (w : World) (F Z : BS) : Prop := F p ∧ ∃ cs, w.heap[p]? = some (.cells cs T (0, 0)) ∧ E.rd w (fun k => F k ∧ k ≠ p) Z cs.toList a
theorem Ob.keep {α : Type} {E : El α} {T : TypeId} {p : Nat} {a : α} {w w' : World} {F Z : BS} (h : Ob E T p a w F Z) (hs : w.heap.size ≤ w'.heap.size) (hk : ∀ k, F k ∨ Z k → k < w.heap.size → w'.heap[k]? = w.heap[k]?) : Ob E T p a w' (fun k => F k ∧ k < w.heap.size) (fun k => Z k ∧ k < w.heap.size) := by
  obtain ⟨h1, cs, h2, h3⟩ := h
  have hl := lt_of_block h2
  exact ⟨⟨h1, hl⟩, cs, (hk p (.inl h1) hl).trans h2, E.mono (E.keep h3 hs fun k hh => hk k (hh.imp (·.1) id)) (fun k h => ⟨⟨h.1.1, h.2⟩, h.1.2⟩) fun _ h => h⟩
theorem Ob.mono {α : Type} {E : El α} {T : TypeId} {p : Nat} {a : α} {w : World} {F Z G Y : BS} (h : Ob E T p a w F Z) (hF : ∀ k, F k → G k) (hZ : ∀ k, Z k → Y k) : Ob E T p a w G Y := by
  obtain ⟨h1, cs, h2, h3⟩ := h
  exact ⟨hF p h1, cs, h2, E.mono h3 (fun k h => ⟨hF k h.1, h.2⟩) hZ⟩
def tOb {α : Type} (E : El α) (T : TypeId) (p : Nat) (a : α) : Th := ⟨Ob E T p a, Ob.keep, Ob.mono⟩
def tSq {α : Type} (E : El α) (T : TypeId) (v : Value) (xs : List α) : Th := ⟨fun w F Z => Sq E T w F Z v xs, Sq.keep, Sq.mono⟩
def tRd {α : Type} (E : El α) (v : Value) (xs : List α) : Th := ⟨fun w _ Z => RdS E w Z v xs, fun h hs hk => h.stay hs fun k hz => hk k (.inr hz), fun h _ hZ => h.mono hZ⟩
def tBy (v : Value) (bs : List (BitVec 8)) : Th := ⟨fun w _ Z => ByZ w Z v bs, fun h _ hk => h.stay fun k hz => hk k (.inr hz), fun h _ hZ => h.mono hZ⟩
end Go.Proofs.YtdmfjmdnkfeljaaDoor
