/- Reading: what a list of cells holds, as data of Lean's own, to the bottom; how an argument's reading gives it. No condition on the program. -/
import Derived.Test.YtdmfjmdnkfeljaaDoorRow
import Derived.Deep.Slices
import Derived.ChangeSame
namespace Go.Proofs.YtdmfjmdnkfeljaaDoor
open Go.ChangeShapes Go.WideShapes Go.ChangeAt Go.RowKit

/-- a way to read cells: how many, what they say, and that this rests on old blocks alone -/
structure R (α : Type) where
  size : Nat
  rd : World → List Value → α → Prop
  len : ∀ {w cs a}, rd w cs a → cs.length = size
  keep : ∀ {w w' cs a}, rd w cs a → (∀ k, k < w.heap.size → w'.heap[k]? = w.heap[k]?) → rd w' cs a
def rInt (k : IntKind) : R Int where
  size := 1
  rd _ cs n := cs = [.int k n] ∧ (Lit.int k n).wf = true
  len h := by rw [h.1]; rfl
  keep h _ := h
def rBool : R Bool where
  size := 1
  rd _ cs b := cs = [.bool b]
  len h := by rw [h]; rfl
  keep h _ := h
def rStr : R ByteArray where
  size := 1
  rd _ cs s := cs = [.string s] ∧ s.size ≤ maxLen
  len h := by rw [h.1]; rfl
  keep h _ := h
def rBytes : R (List (BitVec 8)) where
  size := 1
  rd w cs bs := ∃ v, cs = [v] ∧ By w v bs
  len h := by obtain ⟨v, h, _⟩ := h; rw [h]; rfl
  keep h k := by obtain ⟨v, h, h'⟩ := h; exact ⟨v, h, Rd.keep h' fun b _ hl => k b hl⟩
def rPair {α β : Type} (r : R α) (s : R β) : R (α × β) where
  size := r.size + s.size
  rd w cs a := ∃ c1 c2, cs = c1 ++ c2 ∧ r.rd w c1 a.1 ∧ s.rd w c2 a.2
  len h := by obtain ⟨c1, c2, rfl, h1, h2⟩ := h; rw [List.length_append, r.len h1, s.len h2]
  keep h k := by obtain ⟨c1, c2, e, h1, h2⟩ := h; exact ⟨c1, c2, e, r.keep h1 k, s.keep h2 k⟩
def rMap {α β : Type} (r : R α) (f : α → β) : R β where
  size := r.size
  rd w cs b := ∃ a, r.rd w cs a ∧ f a = b
  len h := by obtain ⟨a, h, _⟩ := h; exact r.len h
  keep h k := by obtain ⟨a, h, e⟩ := h; exact ⟨a, r.keep h k, e⟩
/-- the cells from an address on -/
def At (w : World) (b off : Nat) (cs : List Value) : Prop := ∀ j u, cs[j]? = some u → w.cell? ⟨b, off + j, none⟩ = some u
theorem At.keep {w w' : World} {b off : Nat} {cs : List Value} (h : At w b off cs) (k : ∀ k, k < w.heap.size → w'.heap[k]? = w.heap[k]?) : At w' b off cs := fun j u hj => by
  have hc := h j u hj
  exact (World.cell?_of_block (a := ⟨b, off + j, none⟩) (k b (World.block_lt_of_cell? w _ hc))).trans hc
def rSlice {α : Type} (r : R α) : R (List α) where
  size := 1
  rd w cs xs := ∃ a cap, cs = [.slice a xs.length cap] ∧ xs.length ≤ cap ∧ cap ≤ maxLen ∧ (a = none → cap = 0) ∧
    ∀ i x, xs[i]? = some x → ∃ b off us, a = some ⟨b, off, none⟩ ∧ At w b (off + i * r.size) us ∧ r.rd w us x
  len h := by obtain ⟨a, cap, h, _⟩ := h; rw [h]; rfl
  keep h k := by
    obtain ⟨a, cap, e, h1, h2, h3, h4⟩ := h
    refine ⟨a, cap, e, h1, h2, h3, fun i x hx => ?_⟩
    obtain ⟨b, off, us, e, h5, h6⟩ := h4 i x hx
    exact ⟨b, off, us, e, h5.keep k, r.keep h6 k⟩

section
variable {H : Type} {enc : TypeId × Value → H} {P : Program} {W : World}
/-- every datum of type t that can be read is read by r -/
def Opens (enc : TypeId × Value → H) (P : Program) (W : World) {α : Type} (t : TypeId) (r : R α) : Prop :=
  P.cellsOf t = r.size ∧ ∀ fuel cs x, DataW.trod enc P W 0 (fun _ => true) true fuel t cs = some x → ∃ a, r.rd W cs a
theorem opens_int {t : TypeId} {k : IntKind} (ht : P.underlying t = some (.int k)) (hc : P.cellsOf t = 1) : Opens enc P W t (rInt k) :=
  ⟨hc, fun fuel cs x h => by obtain ⟨n, e, _, hw⟩ := DataW.trod_int ht h; exact ⟨n, e, hw⟩⟩
theorem opens_bool {t : TypeId} (ht : P.underlying t = some .bool) (hc : P.cellsOf t = 1) : Opens enc P W t rBool :=
  ⟨hc, fun fuel cs x h => by obtain ⟨n, e, _⟩ := DataW.trod_bool ht h; exact ⟨n, e⟩⟩
theorem opens_str {t : TypeId} (ht : P.underlying t = some .string) (hc : P.cellsOf t = 1) : Opens enc P W t rStr :=
  ⟨hc, fun fuel cs x h => by obtain ⟨n, e, _, hw⟩ := DataW.trod_string ht h; exact ⟨n, e, hw⟩⟩
theorem opens_map {α β : Type} {t : TypeId} {r : R α} (h : Opens enc P W t r) (f : α → β) : Opens enc P W t (rMap r f) :=
  ⟨h.1, fun fuel cs x hx => by obtain ⟨a, ha⟩ := h.2 fuel cs x hx; exact ⟨f a, a, ha, rfl⟩⟩
theorem choose_list {α : Type} {p : Nat → α → Prop} : ∀ n, (∀ i, i < n → ∃ a, p i a) → ∃ l : List α, l.length = n ∧ ∀ i a, l[i]? = some a → p i a
  | 0, _ => ⟨[], rfl, fun i a h => by simp at h⟩
  | n + 1, h => by
    obtain ⟨l, hl, h1⟩ := choose_list n fun i hi => h i (by omega)
    obtain ⟨a, ha⟩ := h n (by omega)
    refine ⟨l ++ [a], by simp [hl], fun i b hb => ?_⟩
    rw [List.getElem?_append] at hb
    split at hb
    · exact h1 i b hb
    · have : i - l.length = 0 := by
        rcases Nat.eq_zero_or_pos (i - l.length) with h | h
        · exact h
        · rw [List.getElem?_eq_none (by simp; omega)] at hb; cases hb
      rw [this] at hb
      obtain rfl : a = b := by simpa using hb
      obtain rfl : i = n := by omega
      exact ha
theorem opens_slice {α : Type} {t e : TypeId} {r : R α} (ht : P.underlying t = some (.slice e)) (hc : P.cellsOf t = 1) (he : Opens enc P W e r) (hpos : 0 < r.size) : Opens enc P W t (rSlice r) := by
  refine ⟨hc, fun fuel cs x h => ?_⟩
  rcases Go.Deep.open_slice ht h with ⟨rfl, rfl⟩ | ⟨a, len, cap, m, n, D, Pl, rfl, hb, hl, hm, hmm, rfl, hx⟩
  · exact ⟨[], none, 0, rfl, Nat.le_refl _, Nat.zero_le _, fun _ => rfl, fun i x h => by cases h⟩
  · simp only [if_true] at hmm
    obtain rfl : m = cap := hmm
    have hs0 : 0 < len → a.spot = none := fun hl0 => by
      obtain ⟨us, h1, h2⟩ := hx 0 (by omega)
      obtain ⟨_, hlen, hcell⟩ := World.cells?_some h1
      have h0 := hcell 0 (by rw [he.1]; exact hpos)
      rw [List.getElem?_eq_getElem (by rw [hlen, he.1]; exact hpos)] at h0
      have := World.cell?_spot h0
      simpa [Addr.add] using this
    obtain ⟨xs, hxl, hxs⟩ := choose_list (p := fun i x => ∃ us, a.spot = none ∧ At W a.block (a.off + i * r.size) us ∧ r.rd W us x) len fun i hi => by
      obtain ⟨us, h1, h2⟩ := hx i (by omega)
      obtain ⟨x, hx⟩ := he.2 _ _ _ h2
      obtain ⟨_, hlen, hcell⟩ := World.cells?_some h1
      rw [he.1] at hcell hlen
      have hs := hs0 (by omega)
      refine ⟨x, us, hs, fun j u hj => ?_, hx⟩
      have hj' : j < r.size := by
        rw [← hlen]
        rcases Nat.lt_or_ge j us.length with h | h
        · exact h
        · rw [List.getElem?_eq_none h] at hj; cases hj
      have h0 := hcell j hj'
      rw [hj, add_eq a _ hs, add_eq _ _ rfl] at h0
      exact h0
    refine ⟨xs, some a, m, by rw [hxl], by omega, hm, (fun e => by cases e), fun i x hi => ?_⟩
    obtain ⟨us, hs, h1, h2⟩ := hxs i x hi
    obtain ⟨b, off, spot⟩ := a
    obtain rfl : spot = none := hs
    exact ⟨b, off, us, rfl, h1, h2⟩
theorem opens_bytes {t e : TypeId} (ht : P.underlying t = some (.slice e)) (hc : P.cellsOf t = 1) (he : P.underlying e = some (.int .u8)) (hce : P.cellsOf e = 1) : Opens enc P W t rBytes := by
  refine ⟨hc, fun fuel cs x h => ?_⟩
  obtain ⟨xs, hx⟩ := (opens_slice (enc := enc) (W := W) ht hc (opens_int he hce) (by decide)).2 fuel cs x h
  obtain ⟨a, cap, rfl, h1, h2, h3, h4⟩ := hx
  have hwz : ∀ n ∈ xs, (Lit.int .u8 n).wf = true := fun n hn => by
    obtain ⟨i, hi⟩ := List.getElem?_of_mem hn
    obtain ⟨_, _, _, _, _, _, hw⟩ := h4 i n hi
    exact hw
  obtain ⟨bs, rfl⟩ := bytes_of hwz
  refine ⟨bs, _, rfl, ⟨by rw [cu_length, Nat.mul_one], a, cap, by rw [List.length_map], by simpa using h1, h2, fun e => ?_, fun b hb j u hj => ?_⟩⟩
  · have := h3 e; rw [List.length_map] at h1; exact ⟨by omega, this⟩
  · rw [cu, List.getElem?_map] at hj
    cases hx : bs[j]? with
    | none => rw [hx] at hj; cases hj
    | some y =>
      rw [hx] at hj
      obtain rfl := Option.some.inj hj
      obtain ⟨b', off, us, e, hat, rfl, _⟩ := h4 j (U y) (by rw [List.getElem?_map, hx]; rfl)
      obtain rfl : b = ⟨b', off, none⟩ := Option.some.inj (hb.symm.trans e)
      refine ⟨rfl, ?_⟩
      have := hat 0 _ rfl
      simpa [rInt] using this
/-- the fields of a struct, one behind another from place off on -/
inductive OpensF (enc : TypeId × Value → H) (P : Program) (W : World) : (off : Nat) → List Field → {α : Type} → R α → Prop
  | one {off : Nat} {f : Field} {α : Type} {r : R α} (h : Opens enc P W f.type r) (ho : f.offset = off) : OpensF enc P W off [f] r
  | cons {off : Nat} {f : Field} {fs : List Field} {α β : Type} {r : R α} {s : R β} (h : Opens enc P W f.type r) (ho : f.offset = off) (hs : OpensF enc P W (off + r.size) fs s) : OpensF enc P W off (f :: fs) (rPair r s)
theorem OpensF.reads {off : Nat} {fs : List Field} {α : Type} {r : R α} (h : OpensF enc P W off fs r) : ∀ (n : Nat) (cs : List Value), cs.length = off + r.size → (∀ f ∈ fs, ∃ x, DataW.trod enc P W 0 (fun _ => true) true n f.type ((cs.drop f.offset).take (P.cellsOf f.type)) = some x) →
    ∃ a, r.rd W (cs.drop off) a := by
  induction h with
  | one h ho =>
    intro n cs hl hf
    obtain ⟨x, hx⟩ := hf _ (List.mem_singleton.2 rfl)
    rw [ho, h.1, List.take_of_length_le (by rw [List.length_drop]; omega)] at hx
    exact h.2 _ _ _ hx
  | @cons off f fs α β r s h ho hs ih =>
    intro n cs hl hf
    have hl' : cs.length = off + (r.size + s.size) := hl
    obtain ⟨x, hx⟩ := hf _ (List.mem_cons_self)
    rw [ho, h.1] at hx
    obtain ⟨a, ha⟩ := h.2 _ _ _ hx
    obtain ⟨b, hb⟩ := ih n cs (by omega) fun g hg => hf g (List.mem_cons_of_mem _ hg)
    refine ⟨(a, b), (cs.drop off).take r.size, (cs.drop (off + r.size)), ?_, ha, hb⟩
    rw [← List.drop_drop, List.take_append_drop]
theorem opens_struct {t : TypeId} {fs : Array Field} {α : Type} {r : R α} (ht : P.underlying t = some (.struct fs)) (hc : P.cellsOf t = r.size) (h : OpensF enc P W 0 fs.toList r) : Opens enc P W t r := by
  refine ⟨hc, fun fuel cs x hx => ?_⟩
  obtain ⟨xs, n, rfl, _, hlen, hxl, hf⟩ := DataW.trod_struct ht hx
  have := h.reads n cs (by rw [hlen, hc, Nat.zero_add]) fun f hm => by
    obtain ⟨i, hi⟩ := List.getElem?_of_mem hm
    have hi' : fs[i]? = some f := by simpa using hi
    have hlt : i < xs.length := by
      rw [hxl]
      rcases Nat.lt_or_ge i fs.size with h | h
      · exact h
      · rw [Array.getElem?_eq_none h] at hi'; cases hi'
    exact ⟨xs[i], by rw [hf i f hi', List.getElem?_eq_getElem hlt]⟩
  simpa using this
/-- an argument that is read by r -/
def IsR {α : Type} (r : R α) (W : World) (v : Value) : Prop := ∃ a, r.rd W v.cells.toList a
theorem open_isR {α : Type} {t : TypeId} {v : Value} {d : DataW H} {ps : List MemPlace} {r : R α} (h : Opens enc P W t r) (hd : DataW.Trod enc P W 0 (fun _ => true) true t v d ps) : IsR r W v := by
  obtain ⟨fuel, hf⟩ := hd
  exact h.2 _ _ _ hf
end
/-- an argument that is a slice, read by r -/
def IsSl {α : Type} (r : R α) (W : World) (v : Value) : Prop := ∃ xs, (rSlice r).rd W [v] xs
theorem open_isSl {H : Type} {enc : TypeId × Value → H} {P : Program} {W : World} {α : Type} {t e : TypeId} {v : Value} {d : DataW H} {ps : List MemPlace} {r : R α} {q : Reach} {base : Nat} (ht : P.underlying t = some (.slice e)) (h : Opens enc P W t (rSlice r))
    (hval : Value.okWide P W q base t v) (hd : DataW.Trod enc P W 0 (fun _ => true) true t v d ps) : IsSl r W v := by
  obtain ⟨a, len, cap, rfl⟩ := okWide_slice ht hval
  obtain ⟨xs, hx⟩ := open_isR h hd
  exact ⟨xs, hx⟩
/-- a value of one cell is that cell -/
theorem one_cell {v u : Value} {W : World} {P : Program} {r : Reach} {base : Nat} {t : TypeId} (h : v.cells.toList = [u]) (hv : Value.okWide P W r base t v) (ht : ∀ cs, v ≠ .agg cs) : v = u := by
  cases v <;> first | (simp [Value.cells] at h; exact h) | exact absurd rfl (ht _)
end Go.Proofs.YtdmfjmdnkfeljaaDoor
