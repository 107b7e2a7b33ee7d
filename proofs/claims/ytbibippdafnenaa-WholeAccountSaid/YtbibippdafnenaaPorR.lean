/- Things in hand: the last one to the front; an append whose other things are known ahead; more of a list's elements read. No condition on the program. -/
import Derived.Test.YtbibippdafnenaaPorD
namespace Go.Proofs.Ytbibippdafnenaa
open Go.RowKit

section
variable {F Z : BS} {W w wr : World} {ts : List Th}
theorem Held.front {T : Th} (h : Held F Z W (ts ++ [T]) w) : Held F Z W (T :: ts) w := by
  obtain ⟨L, h1, h2, h3⟩ := h
  obtain ⟨L', hL⟩ : ∃ L' : Lab, ∀ k, L' k = if L k ≤ 1 then L k else if L k = ts.length + 2 then 2 else if L k < ts.length + 2 then L k + 1 else 0 := ⟨_, fun _ => rfl⟩
  have hz : ∀ k, L.is 1 k → L'.is 1 k := fun k hk => by
    have hk' : L k = 1 := hk
    show L' k = 1
    rw [hL, if_pos (by omega), hk']
  refine ⟨L', h1, fun k hk hF => ?_, fun j T' hj => ?_⟩
  · have := h2 k hk hF
    rw [show L' k = L k by rw [hL, if_pos (by have := this.1; omega)]]; exact this
  · match j, hj with
    | 0, hj =>
      obtain rfl : T = T' := by simpa using hj
      refine T.mono (h3 ts.length T (by simp)) (fun k hk => ?_) hz
      have hk' : L k = ts.length + 2 := hk
      show L' k = 0 + 2
      rw [hL, if_neg (by omega), if_pos hk']
    | j + 1, hj =>
      have hj' : ts[j]? = some T' := by simpa using hj
      have hjl := lt_of_get hj'
      refine T'.mono (h3 j T' (by rw [List.getElem?_append_left hjl]; exact hj')) (fun k hk => ?_) hz
      have hk' : L k = j + 2 := hk
      show L' k = j + 1 + 2
      rw [hL, if_neg (by omega), if_neg (by omega), if_pos (by omega), hk']
theorem Held.rear {T : Th} (h : Held F Z W (T :: ts) w) : Held F Z W (ts ++ [T]) w := by
  obtain ⟨L, h1, h2, h3⟩ := h
  obtain ⟨L', hL⟩ : ∃ L' : Lab, ∀ k, L' k = if L k ≤ 1 then L k else if L k = 2 then ts.length + 2 else L k - 1 := ⟨_, fun _ => rfl⟩
  have hz : ∀ k, L.is 1 k → L'.is 1 k := fun k hk => by
    have hk' : L k = 1 := hk
    show L' k = 1
    rw [hL, if_pos (by omega), hk']
  refine ⟨L', h1, fun k hk hF => ?_, fun j T' hj => ?_⟩
  · have := h2 k hk hF
    rw [show L' k = L k by rw [hL, if_pos (by have := this.1; omega)]]; exact this
  · by_cases hjl : j < ts.length
    · rw [List.getElem?_append_left hjl] at hj
      refine T'.mono (h3 (j + 1) T' (by simpa using hj)) (fun k hk => ?_) hz
      have hk' : L k = j + 1 + 2 := hk
      show L' k = j + 2
      rw [hL, if_neg (by omega), if_neg (by omega), hk']; omega
    · rw [List.getElem?_append_right (Nat.le_of_not_lt hjl)] at hj
      obtain ⟨rfl, rfl⟩ : j = ts.length ∧ T = T' := by
        have h0 : j - ts.length = 0 := by have := lt_of_get hj; simp at this; omega
        rw [h0] at hj
        exact ⟨by omega, by simpa using hj⟩
      refine T.mono (h3 0 T rfl) (fun k hk => ?_) hz
      have hk' : L k = 0 + 2 := hk
      show L' k = ts.length + 2
      rw [hL, if_neg (by omega), if_pos (by omega)]
/-- the first thing dropped -/
theorem Held.tail {T : Th} (h : Held F Z W (T :: ts) w) : Held F Z W ts w := by
  obtain ⟨L, h1, h2, h3⟩ := h
  obtain ⟨L', hL⟩ : ∃ L' : Lab, ∀ k, L' k = if L k ≤ 1 then L k else if L k = 2 then 0 else L k - 1 := ⟨_, fun _ => rfl⟩
  refine ⟨L', h1, fun k hk hF => ?_, fun j T' hj => ?_⟩
  · have := h2 k hk hF
    rw [show L' k = L k by rw [hL, if_pos (by have := this.1; omega)]]; exact this
  · refine T'.mono (h3 (j + 1) T' (by simpa using hj)) (fun k hk => ?_) fun k hk => ?_
    · have hk' : L k = j + 1 + 2 := hk
      show L' k = j + 2
      rw [hL, if_neg (by omega), if_neg (by omega), hk']; omega
    · have hk' : L k = 1 := hk
      show L' k = 1
      rw [hL, if_pos (by omega), hk']
theorem Held.appY {α : Type} {E : El α} {T : TypeId} {av : Value} {xs : List α} (h : Held F Z W ts wr) (i : Nat) (hi : ts[i]? = some (tSq E T av xs)) :
    ∃ K us Y, Sl wr K T E.size av xs.length us ∧ (∀ (b : Nat) (j : Nat) (T' : Th), j ≠ i → ts[j]? = some T' → (∀ H Y, T'.on wr H Y → H b ∨ Y b) → ¬ K b) ∧ Others ts i wr Y ∧
      ∀ (w1 w2 : World) (news : List Value) (ys : List α) (u2 : Value), Below wr.heap.size wr w1 → Sl w2 (fun k => K k ∨ w1.heap.size ≤ k) T E.size u2 (xs.length + ys.length) (us ++ news) → Fr K w1 w2 →
        (∃ N X : BS, (∀ k, N k → wr.heap.size ≤ k) ∧ (∀ k, X k → Y k ∨ wr.heap.size ≤ k) ∧ Dj N X ∧ Els E w1 N X news ys) → Held F Z W (ts.set i (tSq E T u2 (xs ++ ys))) w2 := by
  obtain ⟨G, Y, ⟨K, D, us, hKD, hdj, hKs, hsl, hel⟩, hd, _, hoth, hback⟩ := h.use i hi
  refine ⟨K, us, Y, hsl, fun b j T' hj hT hb hK => ?_, fun j T' hj hT => by obtain ⟨H, _, h2, h3⟩ := hoth j T' hj hT; exact ⟨H, h2, h3⟩, fun w1 w2 news ys u2 hb hsl2 hf hnew => ?_⟩
  · obtain ⟨H, h1, _, h3⟩ := hoth j T' hj hT
    exact (hb H Y h3).elim (fun hh => h1 b (hKD b (.inl hK)) hh) fun hy => hd b (hKD b (.inl hK)) hy
  · obtain ⟨N, X, n1, n2, n3, n4⟩ := hnew
    have hs1 := hb.size
    have hs2 := hf.size
    have hfw : Fr K wr w2 := ⟨hf.os.trans hb.os, hf.tape.trans hb.tape, hf.output.trans hb.output, Nat.le_trans hs1 hs2, fun k hl hn => (hf.block k (by omega) hn).trans (hb.block k hl)⟩
    have hn4 : Els E w2 (fun k => N k ∧ k < w1.heap.size) (fun k => X k ∧ k < w1.heap.size) news ys := n4.keep hs2 fun k hh hl => hf.block k hl fun hK => by
      have hkl := hKs k hK
      rcases hh with hh | hh
      · have := n1 k hh; omega
      · rcases n2 k hh with hy | hy
        · exact hd k (hKD k (.inl hK)) hy
        · omega
    have hsq' : Sq E T w2 (fun k => (G k ∨ wr.heap.size ≤ k) ∧ ¬ ((Y k ∧ k < wr.heap.size) ∨ (X k ∧ k < w1.heap.size))) (fun k => (Y k ∧ k < wr.heap.size) ∨ (X k ∧ k < w1.heap.size)) u2 (xs ++ ys) := by
      refine ⟨fun k => (K k ∨ w1.heap.size ≤ k) ∧ k < w2.heap.size, fun k => (D k ∧ k < wr.heap.size) ∨ (N k ∧ k < w1.heap.size), us ++ news, ?_, ?_, fun k h => h.2, ?_, ?_⟩
      · rintro k (⟨h | h, _⟩ | h | h)
        · have hkl := hKs k h
          refine ⟨.inl (hKD k (.inl h)), ?_⟩
          rintro (⟨hy, _⟩ | ⟨hx, _⟩)
          · exact hd k (hKD k (.inl h)) hy
          · rcases n2 k hx with hy | hy
            · exact hd k (hKD k (.inl h)) hy
            · omega
        · refine ⟨.inr (by omega), ?_⟩
          rintro (⟨_, hl⟩ | ⟨_, hl⟩) <;> omega
        · refine ⟨.inl (hKD k (.inr h.1)), ?_⟩
          rintro (⟨hy, _⟩ | ⟨hx, _⟩)
          · exact hd k (hKD k (.inr h.1)) hy
          · rcases n2 k hx with hy | hy
            · exact hd k (hKD k (.inr h.1)) hy
            · omega
        · have hn := n1 k h.1
          refine ⟨.inr hn, ?_⟩
          rintro (⟨_, hl⟩ | ⟨hx, _⟩)
          · omega
          · exact n3 k h.1 hx
      · rintro k ⟨h | h, h0⟩ (h' | h')
        · exact hdj k h h'.1
        · have := hKs k h; have := n1 k h'.1; omega
        · omega
        · omega
      · rw [List.length_append]; exact hsl2.bound
      · refine ((hel.keep hfw.size fun k hh hl => hfw.block k hl fun h => hh.elim (fun d => hdj k h d) fun z => hd k (hKD k (.inl h)) z).mono (fun _ h => h) fun k h => .inl h).append (hn4.mono (fun _ h => h) fun k h => .inr h) (fun k a b => ?_) (fun k h => .inl h) fun k h => .inr h
        have := n1 k b.1; omega
    have hg : Fr G wr w2 := hfw.mono fun k hk => hKD k (.inl hk)
    have := hback w2 (tSq E T u2 (xs ++ ys)) [] ⟨hg, _, fun k hk => ?_, Star.one hsq'⟩
    · rwa [List.append_nil] at this
    · rcases hk with hk | hk
      · exact .inl hk.1
      · rcases n2 k hk.1 with hy | hy
        · exact .inl hy
        · exact .inr (.inr hy)
end
theorem Held.pickL {F Z : BS} {W w : World} {us vs ts : List Th} (h : Held F Z W (us ++ ts) w) (js : List Nat) (hn : js.Nodup) (he : js.map (fun j => us[j]?) = vs.map some) : Held F Z W (vs ++ ts) w := by
  have hlt : ∀ j ∈ js, j < us.length := fun j hj => by
    have hm : us[j]? ∈ vs.map some := by rw [← he]; exact List.mem_map.2 ⟨j, hj, rfl⟩
    obtain ⟨v, _, e⟩ := List.mem_map.1 hm
    exact lt_of_get e.symm
  refine h.pick (js ++ (List.range ts.length).map (· + us.length)) (vs ++ ts) ?_ ?_
  · rw [List.nodup_append]
    refine ⟨hn, ?_, fun x hx y hy e => ?_⟩
    · rw [List.Nodup, List.pairwise_map]
      exact List.nodup_range.imp fun h e => h (by omega)
    · obtain ⟨i, _, rfl⟩ := List.mem_map.1 hy
      have := hlt x hx
      omega
  · rw [List.map_append, List.map_append, ← he]
    congr 1
    · refine List.map_congr_left fun j hj => ?_
      rw [List.getElem?_append_left (hlt j hj)]
    · rw [List.map_map]
      apply List.ext_getElem?
      intro i
      rw [List.getElem?_map, List.getElem?_map]
      by_cases hi : i < ts.length
      · rw [List.getElem?_range hi, List.getElem?_eq_getElem hi]
        simp only [Option.map_some, Function.comp]
        rw [List.getElem?_append_right (by omega), Nat.add_sub_cancel, List.getElem?_eq_getElem hi]
      · rw [List.getElem?_eq_none (by simpa using hi), List.getElem?_eq_none (by omega)]; rfl
theorem Els.later {α : Type} {E : El α} {w w' : World} {F Z : BS} {us : List Value} {xs : List α} (h : Els E w F Z us xs) (hb : Below w.heap.size w w') : Els E w' F Z us xs :=
  (h.keep hb.size fun k _ hl => hb.block k hl).mono (fun _ h => h.1) fun _ h => h.1
/-- byte strings own nothing -/
theorem els_by {w : World} {Z : BS} : ∀ {F : BS} {us : List Value} {xs : List (List (BitVec 8))}, Els eBy w F Z us xs → Els eBy w (fun _ => False) Z us xs
  | _, _, [], h => h
  | _, _, _ :: _, ⟨cs, rest, _, _, e, _, _, _, h1, h2⟩ => ⟨cs, rest, fun _ => False, fun _ => False, e, fun _ f => f, fun _ f => f, fun _ f => f.elim, h1, els_by h2⟩
end Go.Proofs.Ytbibippdafnenaa
