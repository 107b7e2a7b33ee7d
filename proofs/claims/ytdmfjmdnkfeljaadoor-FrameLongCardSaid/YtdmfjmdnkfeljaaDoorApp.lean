/- An append to a list that is held. No condition on the program. -/
import Derived.Test.YtdmfjmdnkfeljaaDoorEl
import Derived.Test.YtdmfjmdnkfeljaaDoorRw
namespace Go.Proofs.YtdmfjmdnkfeljaaDoor
open Go.RowKit

section
variable {F Z : BS} {W wr : World} {ts : List Th}
/-- what the other things say, with the one pool -/
def Others (ts : List Th) (i : Nat) (w : World) (Y : BS) : Prop := ∀ j (T' : Th), j ≠ i → ts[j]? = some T' → ∃ H, Dj H Y ∧ T'.on w H Y
theorem Held.app {α : Type} {E : El α} {T : TypeId} {av : Value} {xs : List α} (h : Held F Z W ts wr) (i : Nat) (hi : ts[i]? = some (tSq E T av xs)) :
    ∃ K us, Sl wr K T E.size av xs.length us ∧ (∀ (b : Nat) (j : Nat) (T' : Th), j ≠ i → ts[j]? = some T' → (∀ H Y, T'.on wr H Y → H b ∨ Y b) → ¬ K b) ∧
      ∀ (w1 w2 : World) (news : List Value) (ys : List α) (u2 : Value), Below wr.heap.size wr w1 → Sl w2 (fun k => K k ∨ w1.heap.size ≤ k) T E.size u2 (xs.length + ys.length) (us ++ news) → Fr K w1 w2 →
        (∀ Y : BS, Others ts i wr Y → ∃ N X : BS, (∀ k, N k → wr.heap.size ≤ k) ∧ (∀ k, X k → Y k ∨ wr.heap.size ≤ k) ∧ Dj N X ∧ Els E w1 N X news ys) → Held F Z W (ts.set i (tSq E T u2 (xs ++ ys))) w2 := by
  obtain ⟨G, Y, ⟨K, D, us, hKD, hdj, hKs, hsl, hel⟩, hd, _, hoth, hback⟩ := h.use i hi
  refine ⟨K, us, hsl, fun b j T' hj hT hb hK => ?_, fun w1 w2 news ys u2 hb hsl2 hf hnew => ?_⟩
  · obtain ⟨H, h1, _, h3⟩ := hoth j T' hj hT
    exact (hb H Y h3).elim (fun hh => h1 b (hKD b (.inl hK)) hh) fun hy => hd b (hKD b (.inl hK)) hy
  · obtain ⟨N, X, n1, n2, n3, n4⟩ := hnew Y fun j T' hj hT => by obtain ⟨H, _, h2, h3⟩ := hoth j T' hj hT; exact ⟨H, h2, h3⟩
    have hs1 := hb.size
    have hs2 := hf.size
    have hfw : Fr K wr w2 := ⟨hf.os.trans hb.os, hf.tape.trans hb.tape, hf.output.trans hb.output, Nat.le_trans hs1 hs2, fun k hl hn => (hf.block k (by omega) hn).trans (hb.block k hl)⟩
    have hn4 : Els E w2 (fun k => N k ∧ k < w1.heap.size) (fun k => X k ∧ k < w1.heap.size) news ys := n4.keep hs2 fun k hh hl => hf.block k hl fun hK => by
      have hkl := hKs k hK
      rcases hh with hh | hh
      · have := n1 k hh; omega
      · rcases n2 k hh with hy | hy
        · exact hd k (hKD k (.inl hK)) hy
        · omega
    have hsq' : Sq E T w2 (fun k => (G k ∨ wr.heap.size ≤ k) ∧ ¬ ((Y k ∧ k < wr.heap.size) ∨ (X k ∧ k < w1.heap.size))) (fun k => (Y k ∧ k < wr.heap.size) ∨ (X k ∧ k < w1.heap.size)) u2 (xs ++ ys) := by
      obtain ⟨K', D', us', k1, k2, k3, k4, k5⟩ : Sq E T w2 (fun k => (K k ∨ w1.heap.size ≤ k) ∨ ((D k ∧ k < wr.heap.size) ∨ (N k ∧ k < w1.heap.size))) (fun k => (Y k ∧ k < wr.heap.size) ∨ (X k ∧ k < w1.heap.size)) u2 (xs ++ ys) := by
        refine ⟨fun k => (K k ∨ w1.heap.size ≤ k) ∧ k < w2.heap.size, fun k => (D k ∧ k < wr.heap.size) ∨ (N k ∧ k < w1.heap.size), us ++ news, ?_, ?_, fun k h => h.2, ?_, ?_⟩
        · rintro k (h | h)
          · exact .inl h.1
          · exact .inr h
        · rintro k ⟨h | h, h0⟩ (h' | h')
          · exact hdj k h h'.1
          · have := hKs k h; have := n1 k h'.1; omega
          · omega
          · omega
        · rw [List.length_append]; exact hsl2.bound
        · refine ((hel.keep hfw.size fun k hh hl => hfw.block k hl fun h => hh.elim (fun d => hdj k h d) fun z => hd k (hKD k (.inl h)) z).mono (fun _ h => h) fun k h => .inl h).append (hn4.mono (fun _ h => h) fun k h => .inr h) (fun k a b => ?_) (fun k h => .inl h) fun k h => .inr h
          have := n1 k b.1; omega
      refine ⟨K', D', us', fun k hk => ⟨?_, ?_⟩, k2, k3, k4, k5⟩
      · rcases k1 k hk with (h | h) | h | h
        · exact .inl (hKD k (.inl h))
        · exact .inr (by omega)
        · exact .inl (hKD k (.inr h.1))
        · exact .inr (n1 k h.1)
      · rcases k1 k hk with (h | h) | h | h
        · have hkl := hKs k h
          rintro (⟨hy, _⟩ | ⟨hx, _⟩)
          · exact hd k (hKD k (.inl h)) hy
          · rcases n2 k hx with hy | hy
            · exact hd k (hKD k (.inl h)) hy
            · omega
        · rintro (⟨_, hl⟩ | ⟨_, hl⟩) <;> omega
        · rintro (⟨hy, _⟩ | ⟨hx, _⟩)
          · exact hd k (hKD k (.inr h.1)) hy
          · rcases n2 k hx with hy | hy
            · exact hd k (hKD k (.inr h.1)) hy
            · omega
        · have hn := n1 k h.1
          rintro (⟨_, hl⟩ | ⟨hx, _⟩)
          · omega
          · exact n3 k h.1 hx
    have hg : Fr G wr w2 := hfw.mono fun k hk => hKD k (.inl hk)
    have := hback w2 (tSq E T u2 (xs ++ ys)) [] ⟨hg, _, fun k hk => ?_, Star.one hsq'⟩
    · rwa [List.append_nil] at this
    · rcases hk with hk | hk
      · exact .inl hk.1
      · rcases n2 k hk.1 with hy | hy
        · exact .inl hy
        · exact .inr (.inr hy)
end
end Go.Proofs.YtdmfjmdnkfeljaaDoor
