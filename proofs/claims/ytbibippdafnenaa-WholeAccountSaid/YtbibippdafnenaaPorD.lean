/- Lists of records in memory, written cell by cell; a list of lists with one list out of hand. No condition on the program. -/
import Derived.Test.YtbibippdafnenaaMgB
namespace Go.Proofs.Ytbibippdafnenaa
open Go.RowKit

/-- an element that is its own cells -/
def ePure {α : Type} (s : Nat) (f : α → List Value) (hl : ∀ a, (f a).length = s) (h1 : ∀ a, ∀ u ∈ f a, u.oneCell' = true) : El α where
  size := s
  rd _ _ _ cs a := cs = f a
  len h := by rw [h, hl]
  keep h _ _ := h
  mono h _ _ := h
  one h u hu := h1 _ u (h ▸ hu)
def Pure {α : Type} (E : El α) (f : α → List Value) : Prop := ∀ w F Z cs a, E.rd w F Z cs a ↔ cs = f a
theorem pure_nat : Pure eNat (fun n => [.int .i64 (n : Int)]) := fun _ _ _ _ _ => Iff.rfl
section
variable {α : Type} {E : El α} {f : α → List Value} {w : World} {F Z : BS}
theorem Pure.len (hp : Pure E f) (a : α) : (f a).length = E.size := E.len ((hp default (fun _ => False) (fun _ => False) (f a) a).2 rfl)
theorem Pure.els (hp : Pure E f) : ∀ {F : BS} {us : List Value} {xs : List α}, Els E w F Z us xs → us = xs.flatMap f
  | _, _, [], h => h
  | _, _, a :: xs, ⟨cs, rest, _, _, e, _, _, _, h1, h2⟩ => by rw [e, (hp _ _ _ _ _).1 h1, hp.els h2, List.flatMap_cons]
theorem Pure.of (hp : Pure E f) : ∀ (F : BS) (xs : List α), Els E w F Z (xs.flatMap f) xs
  | _, [] => rfl
  | F, a :: xs => ⟨f a, xs.flatMap f, fun _ => False, F, List.flatMap_cons, fun _ h => h.elim, fun _ h => h, fun _ h => h.elim, (hp _ _ _ _ _).2 rfl, hp.of F xs⟩
theorem flatMap_set {s : Nat} (hl : ∀ a, (f a).length = s) {a a' : α} {u : Value} {j : Nat} (hj : j < s) (he : (f a).set j u = f a') : ∀ {xs : List α} {c : Nat}, xs[c]? = some a → (xs.flatMap f).set (c * s + j) u = (xs.set c a').flatMap f
  | x :: xs, 0, hc => by
    obtain rfl : x = a := by simpa using hc
    rw [List.flatMap_cons, List.set_cons_zero, List.flatMap_cons, ← he, List.set_append_left _ _ (by rw [hl]; omega), Nat.zero_mul, Nat.zero_add]
  | x :: xs, c + 1, hc => by
    rw [List.flatMap_cons, List.set_cons_succ, List.flatMap_cons, ← flatMap_set hl hj he (xs := xs) (c := c) (by simpa using hc), List.set_append_right _ _ (by rw [hl, Nat.add_mul]; omega), hl]
    congr 2
    rw [Nat.add_mul]; omega
theorem Sl.put {w : World} {K : BS} {T : TypeId} {s b off n cap : Nat} {us : List Value} (h : Sl w K T s (.slice (some ⟨b, off, none⟩) n cap) n us) (q : Nat) (u : Value) :
    Sl (w.setCell ⟨b, off + q, none⟩ u) K T s (.slice (some ⟨b, off, none⟩) n cap) n (us.set q u) := by
  obtain ⟨hl, ⟨h, _⟩ | ⟨b', off', cap', cur, e, hK, hg, h1, h2, h3, h4⟩⟩ := h
  · cases h
  · obtain ⟨⟨rfl, rfl⟩, rfl⟩ : (b = b' ∧ off = off') ∧ cap = cap' := by simpa using e
    refine ⟨by rw [List.length_set, hl], .inr ⟨b, off, cap, cur.setIfInBounds (off + q) u, rfl, hK, heap_setCell_same w b (off + q) cur T u hg, h1, h2, by rw [Array.size_setIfInBounds]; exact h3, ?_⟩⟩
    rw [Array.toList_setIfInBounds, List.drop_set, if_neg (by omega), List.take_set, ← h4]
    congr 1; omega
theorem Sl.free {w : World} {K : BS} {T : TypeId} {s b off n cap : Nat} {us : List Value} (h : Sl w K T s (.slice (some ⟨b, off, none⟩) n cap) n us) : K b ∧ b < w.heap.size ∧ ∀ j, w.frozen? ⟨b, j, none⟩ = false := by
  obtain ⟨hl, ⟨h, _⟩ | ⟨b', off', cap', cur, e, hK, hg, h1, h2, h3, h4⟩⟩ := h
  · cases h
  · obtain ⟨⟨rfl, rfl⟩, rfl⟩ : (b = b' ∧ off = off') ∧ cap = cap' := by simpa using e
    exact ⟨hK, lt_of_block hg, fun j => frozen_of_row w b j cur T hg⟩
theorem Sq.free {T : TypeId} {b off n cap : Nat} {xs : List α} (h : Sq E T w F Z (.slice (some ⟨b, off, none⟩) n cap) xs) : n = xs.length ∧ F b ∧ b < w.heap.size ∧ ∀ j, w.frozen? ⟨b, j, none⟩ = false := by
  obtain ⟨a, c, e⟩ := h.shape
  obtain ⟨_, rfl, _⟩ : some (⟨b, off, none⟩ : Addr) = a ∧ n = xs.length ∧ cap = c := by simpa using e
  obtain ⟨K, D, us, h1, h2, hK, h3, h4⟩ := h
  obtain ⟨q1, q2, q3⟩ := h3.free
  exact ⟨rfl, h1 b (.inl q1), q2, q3⟩
/-- one cell of one record is written -/
theorem Sq.put {T : TypeId} {b off n cap : Nat} {xs : List α} (hp : Pure E f) (h : Sq E T w F Z (.slice (some ⟨b, off, none⟩) n cap) xs) {c j : Nat} {a a' : α} {u : Value} (hc : xs[c]? = some a) (hj : j < E.size) (he : (f a).set j u = f a') :
    Sq E T (w.setCell ⟨b, off + (c * E.size + j), none⟩ u) F Z (.slice (some ⟨b, off, none⟩) n cap) (xs.set c a') ∧ Fr F w (w.setCell ⟨b, off + (c * E.size + j), none⟩ u) := by
  obtain ⟨rfl, hFb, _, _⟩ := h.free
  obtain ⟨K, D, us, h1, h2, hK, h3, h4⟩ := h
  refine ⟨⟨K, D, us.set (c * E.size + j) u, h1, h2, fun k hk => by simpa using hK k hk, ?_, ?_⟩, (Fr.refl _ _).setCell (p := ⟨b, _, none⟩) (.inl hFb) _⟩
  · rw [List.length_set]; exact h3.put _ _
  · rw [hp.els h4, flatMap_set hp.len hj he hc]
    exact hp.of _ _
theorem Held.put {W : World} {ts : List Th} {T : TypeId} {b off n cap : Nat} {xs : List α} (h : Held F Z W ts w) (hp : Pure E f) (i : Nat) (hi : ts[i]? = some (tSq E T (.slice (some ⟨b, off, none⟩) n cap) xs)) {c j : Nat} {a a' : α} {u : Value} (hc : xs[c]? = some a) (hj : j < E.size) (he : (f a).set j u = f a') :
    Held F Z W (ts.set i (tSq E T (.slice (some ⟨b, off, none⟩) n cap) (xs.set c a'))) (w.setCell ⟨b, off + (c * E.size + j), none⟩ u) :=
  h.upd i hi fun _ _ hon _ => Sq.put hp hon hc hj he
/-- an element that may be out of hand -/
def eOpt (E : El α) : El (Option α) where
  size := E.size
  rd w F Z cs o := cs.length = E.size ∧ (∀ u ∈ cs, u.oneCell' = true) ∧ ∀ a, o = some a → E.rd w F Z cs a
  len h := h.1
  keep h hs hk := ⟨h.1, h.2.1, fun a e => E.keep (h.2.2 a e) hs hk⟩
  mono h hF hZ := ⟨h.1, h.2.1, fun a e => E.mono (h.2.2 a e) hF hZ⟩
  one h := h.2.1
theorem Els.some' : ∀ {F : BS} {us : List Value} {xs : List α}, Els E w F Z us xs → Els (eOpt E) w F Z us (xs.map some)
  | _, _, [], h => h
  | _, _, _ :: _, ⟨cs, rest, A, B, e, g1, g2, g3, h1, h2⟩ => ⟨cs, rest, A, B, e, g1, g2, g3, ⟨E.len h1, E.one h1, fun a e => by cases e; exact h1⟩, h2.some'⟩
theorem Els.unsome : ∀ {F : BS} {us : List Value} {xs : List α}, Els (eOpt E) w F Z us (xs.map some) → Els E w F Z us xs
  | _, _, [], h => h
  | _, _, a :: _, ⟨cs, rest, A, B, e, g1, g2, g3, h1, h2⟩ => ⟨cs, rest, A, B, e, g1, g2, g3, h1.2.2 a rfl, Els.unsome h2⟩
/-- two things taken for one -/
theorem Held.join {W : World} {ts : List Th} {A B : Th} (h : Held F Z W (ts ++ [B]) w) (i : Nat) (hi : ts[i]? = some A) : Held F Z W (ts.set i (tStar [A, B])) w := by
  obtain ⟨L, h1, h2, h3⟩ := h
  have hil := lt_of_get hi
  obtain ⟨L', hL⟩ : ∃ L' : Lab, ∀ k, L' k = if L k = ts.length + 2 then i + 2 else L k := ⟨_, fun _ => rfl⟩
  have hz : ∀ k, L.is 1 k → L'.is 1 k := fun k hk => by
    have hk' : L k = 1 := hk
    show L' k = 1
    rw [hL, if_neg (by omega), hk']
  refine ⟨L', h1, fun k hk hF => ?_, fun j T hj => ?_⟩
  · have := h2 k hk hF
    rw [show L' k = L k by rw [hL, if_neg (by have := this.1; omega)]]; exact this
  · have hjl : j < ts.length := by have := lt_of_get hj; simpa using this
    by_cases hji : j = i
    · subst hji
      rw [List.getElem?_set_self hil] at hj
      obtain rfl := Option.some.inj hj
      have hA := h3 j A (by rw [List.getElem?_append_left hil]; exact hi)
      have hB := h3 ts.length B (by simp)
      refine Star.two (A.mono hA (fun _ h => h) hz) (B.mono hB (fun _ h => h) hz) (fun k a b => ?_) (fun k hk => ?_) fun k hk => ?_
      · have a' : L k = j + 2 := a
        have b' : L k = ts.length + 2 := b
        omega
      · have hk' : L k = j + 2 := hk
        show L' k = j + 2
        rw [hL, if_neg (by omega), hk']
      · have hk' : L k = ts.length + 2 := hk
        show L' k = j + 2
        rw [hL, if_pos hk']
    · rw [List.getElem?_set_ne (fun e => hji e.symm)] at hj
      refine T.mono (h3 j T (by rw [List.getElem?_append_left hjl]; exact hj)) (fun k hk => ?_) hz
      have hk' : L k = j + 2 := hk
      show L' k = j + 2
      rw [hL, if_neg (by omega), hk']
/-- one of the lists taken in hand -/
theorem Held.out {W : World} {ts : List Th} {T1 T2 : TypeId} {b off n cap : Nat} {xss : List (List α)} {xs : List α} (h : Held F Z W ts w) (i : Nat) (hi : ts[i]? = some (tSq (eSq E T1) T2 (.slice (some ⟨b, off, none⟩) n cap) xss)) {c : Nat} (hc : xss[c]? = some xs) :
    ∃ vc, w.cell? ⟨b, off + c, none⟩ = some vc ∧ Held F Z W (ts.set i (tSq (eOpt (eSq E T1)) T2 (.slice (some ⟨b, off, none⟩) n cap) ((xss.map some).set c none)) ++ [tSq E T1 vc xs]) w := by
  obtain ⟨G, Y, hon, hd, _, _, hback⟩ := h.use i hi
  obtain ⟨hn, _, _, _⟩ := Sq.free hon
  subst hn
  obtain ⟨K, D, us, h1, h2, hK, h3, h4⟩ := hon
  obtain ⟨cs, A, B, q1, q2, q3, q4, q5, q6⟩ := h4.some'.focus (i := c) (a := some xs) (by rw [List.getElem?_map, hc]; rfl)
  obtain ⟨vc, rfl, hsq⟩ := q1.2.2 xs rfl
  have q5' : us = us.take c ++ [vc] ++ us.drop (c + 1) := by have := q5; simpa [eOpt, eSq] using this
  have hcl : c < xss.length := lt_of_get hc
  have hul : us.length = xss.length := by have := h3.1; rwa [show (eSq E T1).size = 1 from rfl, Nat.mul_one] at this
  have huc : us[c]? = some vc := by
    rw [q5', List.append_assoc, List.getElem?_append_right (by rw [List.length_take]; omega), List.length_take, Nat.min_eq_left (by omega), Nat.sub_self]; rfl
  refine ⟨vc, h3.cell c vc huc, ?_⟩
  refine hback w _ _ ⟨Fr.refl _ _, Y, fun k h => .inl h, Star.two (G := fun k => K k ∨ B k) (H := A) ?_ hsq (fun k a b => a.elim (fun a => h2 k a (q2 k b)) fun a => q4 k b a) (fun k a => ?_) fun k a => ?_⟩
  · refine ⟨K, B, us, fun k hk => hk, fun k a b => h2 k a (q3 k b), hK, by rw [List.length_set, List.length_map]; exact h3, ?_⟩
    have := q6 w [vc] none (fun _ => False) B Y (Nat.le_refl _) (fun _ _ _ => rfl) ⟨rfl, q1.2.1, fun a e => by cases e⟩ (fun _ f => f.elim) (fun _ h _ => h) fun _ h _ => h
    rwa [← q5] at this
  · have hg := a.elim (fun a => h1 k (.inl a)) fun a => h1 k (.inr (q3 k a))
    exact ⟨.inl hg, fun y => hd k hg y⟩
  · have hg := h1 k (.inr (q2 k a))
    exact ⟨.inl hg, fun y => hd k hg y⟩
/-- .. and put back -/
theorem Held.back {W : World} {ts : List Th} {T1 T2 : TypeId} {b off n cap : Nat} {os : List (Option (List α))} {xs : List α} {yss : List (List α)} {vc : Value} (h : Held F Z W (ts ++ [tSq E T1 vc xs]) w) (i : Nat) (hi : ts[i]? = some (tSq (eOpt (eSq E T1)) T2 (.slice (some ⟨b, off, none⟩) n cap) os)) {c : Nat} (hc : c < os.length) (hos : os.set c (some xs) = yss.map some) :
    Held F Z W (ts.set i (tSq (eSq E T1) T2 (.slice (some ⟨b, off, none⟩) n cap) yss)) (w.setCell ⟨b, off + c, none⟩ vc) := by
  have hj := h.join i hi
  have hil := lt_of_get hi
  have := hj.upd i (T' := tSq (eSq E T1) T2 (.slice (some ⟨b, off, none⟩) n cap) yss) (w' := w.setCell ⟨b, off + c, none⟩ vc) (by rw [List.getElem?_set_self hil]) fun G Y hon hd => ?_
  · rwa [List.set_set] at this
  · obtain ⟨GA, GB, hA, hB, hdab, hGA, hGB⟩ := Star.uncons hon
    have hB := hB.get (i := 0) rfl
    obtain ⟨hn, hGb, _, _⟩ := Sq.free hA
    subst hn
    obtain ⟨K, D, us, h1, h2, hK, h3, h4⟩ := hA
    have hKb := h3.free.1
    obtain ⟨o, ho⟩ : ∃ o, os[c]? = some o := ⟨_, List.getElem?_eq_getElem hc⟩
    obtain ⟨cs, A, B, q1, q2, q3, q4, q5, q6⟩ := h4.focus ho
    have hkeep : ∀ k, k ≠ b → (w.setCell ⟨b, off + c, none⟩ vc).heap[k]? = w.heap[k]? := fun k hk => heap_setCell_other w ⟨b, off + c, none⟩ k vc hk
    have hne : ∀ k, D k ∨ Y k → k ≠ b := fun k hk e => by subst e; exact hk.elim (fun d => h2 k hKb d) fun y => hd k (hGA k (h1 k (.inl hKb))) y
    have hneB : ∀ k, GB k ∨ Y k → k ≠ b := fun k hk e => by subst e; exact hk.elim (fun d => hdab k hGb d) fun y => hd k (hGA k hGb) y
    have hsz : (w.setCell ⟨b, off + c, none⟩ vc).heap.size = w.heap.size := by simp
    have hB' : Sq E T1 (w.setCell ⟨b, off + c, none⟩ vc) GB Y vc xs := Sq.stay hB (Nat.le_of_eq hsz.symm) fun k hk _ => hkeep k (hneB k hk)
    have hone : vc.oneCell' = true := by obtain ⟨a, cp, rfl⟩ := Sq.shape hB; rfl
    have hnew := q6 (w.setCell ⟨b, off + c, none⟩ vc) [vc] (some xs) GB (fun k => B k ∨ GB k) Y (Nat.le_of_eq hsz.symm) (fun k hk _ => hkeep k (hne k (hk.imp (q3 k) id))) ⟨rfl, fun u hu => by rw [List.mem_singleton.1 hu]; exact hone, fun a e => by cases e; exact ⟨vc, rfl, hB'⟩⟩
      (fun k g => ⟨.inr g, fun h => hdab k (h1 k (.inr (q3 k h.1))) g⟩) (fun k h _ => .inl h) fun k h _ => h
    have hul : us.length = os.length := by have := h3.1; rwa [show (eOpt (eSq E T1)).size = 1 from rfl, Nat.mul_one] at this
    have e1 : us.take (c * (eOpt (eSq E T1)).size) ++ [vc] ++ us.drop ((c + 1) * (eOpt (eSq E T1)).size) = us.set c vc := by
      show us.take (c * 1) ++ [vc] ++ us.drop ((c + 1) * 1) = _
      rw [Nat.mul_one, Nat.mul_one, List.set_eq_take_append_cons_drop, if_pos (by omega), List.append_assoc]; rfl
    rw [e1, hos] at hnew
    have hyl : os.length = yss.length := by have := congrArg List.length hos; simpa using this
    refine ⟨⟨K, fun k => B k ∨ GB k, us.set c vc, fun k hk => ?_, fun k a b => b.elim (fun b => h2 k a (q3 k b)) fun b => hdab k (h1 k (.inl a)) b, fun k hk => by rw [hsz]; exact hK k hk, ?_, Els.unsome hnew⟩, (Fr.refl _ _).setCell (p := ⟨b, _, none⟩) (.inl (hGA b hGb)) _⟩
    · rcases hk with hk | hk | hk
      · exact hGA k (h1 k (.inl hk))
      · exact hGA k (h1 k (.inr (q3 k hk)))
      · exact hGB k hk
    · rw [← hyl]; exact h3.put _ _
theorem set_gap {xss : List (List α)} {c : Nat} {ys : List α} : ((xss.map some).set c none).set c (some ys) = (xss.set c ys).map some := by
  rw [List.set_set, List.map_set]
/-- .. looked at, cut (or otherwise changed without a word to memory), and put back -/
theorem Held.inner {W : World} {ts : List Th} {T1 T2 : TypeId} {b off n cap : Nat} {xss : List (List α)} {xs : List α} (h : Held F Z W ts w) (i : Nat) (hi : ts[i]? = some (tSq (eSq E T1) T2 (.slice (some ⟨b, off, none⟩) n cap) xss)) {c : Nat} (hc : xss[c]? = some xs) :
    ∃ vc, w.cell? ⟨b, off + c, none⟩ = some vc ∧ (∃ G Y, Sq E T1 w G Y vc xs) ∧ ∀ (nv : Value) (ys : List α), (∀ G Y, Sq E T1 w G Y vc xs → Sq E T1 w G Y nv ys) → Held F Z W (ts.set i (tSq (eSq E T1) T2 (.slice (some ⟨b, off, none⟩) n cap) (xss.set c ys))) (w.setCell ⟨b, off + c, none⟩ nv) := by
  obtain ⟨vc, hv, hout⟩ := h.out i hi hc
  obtain ⟨G, Y, hsq⟩ := hout.get ts.length (T := tSq E T1 vc xs) (by simp)
  refine ⟨vc, hv, ⟨G, Y, hsq⟩, fun nv ys k => ?_⟩
  have h1 := hout.upd ts.length (T := tSq E T1 vc xs) (T' := tSq E T1 nv ys) (w' := w) (by simp) fun G Y hon _ => ⟨k G Y hon, Fr.refl _ _⟩
  rw [List.set_append_right _ _ (by simp), List.length_set, Nat.sub_self, List.set_cons_zero] at h1
  have h2 := Held.back (c := c) (yss := xss.set c ys) h1 i (List.getElem?_set_self (lt_of_get hi)) (by rw [List.length_set, List.length_map]; exact lt_of_get hc) set_gap
  rwa [List.set_set] at h2
end
/-- a thing made of others, with something of its own choice -/
def tEx {ι : Type} (f : ι → List Th) : Th :=
  ⟨fun w F Z => ∃ i, Star (f i) w F Z, fun ⟨i, h⟩ hs hk => ⟨i, h.keep hs hk⟩, fun ⟨i, h⟩ hF hZ => ⟨i, h.mono hF hZ⟩⟩
section
variable {F Z : BS} {W w w' : World} {ts : List Th} {ι : Type} {f : ι → List Th}
theorem Held.swap {T : Th} {P : ι → Th} (h : Held F Z W ts w) (i : Nat) (hi : ts[i]? = some T) (k : ∀ G Y, T.on w G Y → ∃ x, (P x).on w G Y) : ∃ x, Held F Z W (ts.set i (P x)) w := by
  obtain ⟨L, h1, h2, h3⟩ := h
  obtain ⟨x, hx⟩ := k _ _ (h3 i T hi)
  refine ⟨x, L, h1, h2, fun j T' hj => ?_⟩
  by_cases hji : j = i
  · subst hji
    rw [List.getElem?_set_self (lt_of_get hi)] at hj
    obtain rfl := Option.some.inj hj
    exact hx
  · rw [List.getElem?_set_ne (fun e => hji e.symm)] at hj
    exact h3 j T' hj
theorem Held.opens (h : Held F Z W (tEx f :: ts) w) : ∃ i, Held F Z W (f i ++ ts) w := by
  obtain ⟨x, hx⟩ := h.swap (P := fun x => tStar (f x)) 0 rfl fun G Y h => h
  exact ⟨x, Held.unfold hx fun _ _ _ h => h⟩
theorem Held.shut {i : ι} (h : Held F Z W (f i ++ ts) w) : Held F Z W (tEx f :: ts) w := h.fold fun _ _ _ hs => ⟨i, hs⟩
theorem Made.of {T : Th} (h : Held (fun _ => False) (fun _ => False) w [T] w') : Made w T w' := by
  have hb := h.below
  obtain ⟨L, h1, h2, h3⟩ := h
  refine ⟨hb, L.is 2 , L.is 1, fun k hk => ?_, fun k hk => ?_, fun k a b => ?_, h3 0 T rfl⟩
  · have hk' : L k = 2 := hk
    rcases Nat.lt_or_ge k w.heap.size with hl | hl
    · have := (h2 k hl id).1; omega
    · exact hl
  · have hk' : L k = 1 := hk
    rcases Nat.lt_or_ge k w.heap.size with hl | hl
    · exact ((h2 k hl id).2.1 hk').elim
    · exact hl
  · have a' : L k = 2 := a
    have b' : L k = 1 := b
    omega
/-- a call on one of the things in hand -/
theorem Held.act {P : Program} {g : Nat} {args : Array Value} {R : Ending → Prop} {T T' : Th} (h : Held F Z W ts w) (i : Nat) (hi : ts[i]? = some T)
    (k : ∀ G Y, Dj G Y → T.on w G Y → Calls P g args w fun e w' => R e ∧ Did w G Y [T'] w') : Calls P g args w fun e w' => R e ∧ Held F Z W (ts.set i T') w' := by
  obtain ⟨G, Y, hq, hd, _, _, hb⟩ := h.use i hi
  refine (k G Y hd hq).mono fun e w' ⟨he, hst⟩ => ⟨he, ?_⟩
  have := hb w' _ [] hst
  rwa [List.append_nil] at this
end
/-! make -/
theorem toList_madeCells_rep (u : Value) (s m : Nat) (hs : 0 < s) : (madeCells (List.replicate s u).toArray m).toList = List.replicate m u := by
  rw [List.eq_replicate_iff]
  refine ⟨by simp [madeCells], fun b hb => ?_⟩
  simp only [madeCells, Array.mem_toList_iff, Array.mem_map] at hb
  obtain ⟨i, _, rfl⟩ := hb
  have hlt : i % (List.replicate s u).toArray.size < (List.replicate s u).toArray.size := Nat.mod_lt _ (by simpa using hs)
  rw [getElem!_pos (List.replicate s u).toArray (i % (List.replicate s u).toArray.size) hlt]
  simp
section
variable {α : Type} {E : El α}
theorem Els.zero {w : World} {Z : BS} {cs : List Value} {a0 : α} (he : E.rd w (fun _ => False) Z cs a0) : ∀ n, Els E w (fun _ => False) Z (List.replicate n cs).flatten (List.replicate n a0)
  | 0 => rfl
  | n + 1 => ⟨cs, (List.replicate n cs).flatten, fun _ => False, fun _ => False, by rw [List.replicate_succ, List.flatten_cons], fun _ f => f, fun _ f => f, fun _ f => f.elim, he, Els.zero he n⟩
theorem wpList_mkH {P : Program} {t e : TypeId} {z : Value} {bytes : Nat} (S : SlT P t e z E.size bytes) {u : Value} (hzz : z.cells = (List.replicate E.size u).toArray) {a0 : α} (he : ∀ w Z, E.rd w (fun _ => False) Z (List.replicate E.size u) a0)
    {w : World} {ops : Array Oper} {rest : List Oper} {o : Oper} {a : Act} {Q : Exit → Act → World → Prop}
    (hg : o.guard = none) (l c : Operand) (hop : o.op = Op.makeSlice t l c) (n : Nat) (hl : a.eval l = .int .i64 (n : Int)) (hc : a.eval c = .int .i64 (n : Int)) (b2 : bytes * n ≤ 281474976710656) (b3 : n ≤ maxLen)
    (hK : ∀ w', Below w.heap.size w w' → Sq E e w' (fun k => w.heap.size ≤ k) (fun _ => False) (.slice (some ⟨w.heap.size, 0, none⟩) n n) (List.replicate n a0) → wpList P ops Q rest (a.put o.dst (.slice (some ⟨w.heap.size, 0, none⟩) n n)) w') :
    wpList P ops Q (o :: rest) a w := by
  obtain ⟨i, hi, hz, hsz, hby⟩ := S.info
  refine wpList_make_full w hg l c t hop w.heap.size e i z E.size S.under hi hz hsz .i64 .i64 (n : Int) (n : Int) n hl hc rfl rfl (by rw [hby]; exact b2) b3 (Nat.le_refl _) fun w' hown hgr => ?_
  rw [hzz, toList_madeCells_rep u E.size (n * E.size) S.pos] at hown
  refine hK w' ((Below.refl w.heap.size w).grown hgr (Nat.le_refl _) (fun k e => by cases e)) ?_
  have hsl : Sl w' (fun k => w.heap.size ≤ k) e E.size (.slice (some ⟨w.heap.size, 0, none⟩) n n) n (List.replicate (n * E.size) u) := Sl.of_own hown fun _ h => h
  refine ⟨fun k => w.heap.size ≤ k ∧ k < w'.heap.size, fun _ => False, List.replicate (n * E.size) u, fun k hk => hk.elim (·.1) False.elim, fun _ _ f => f, fun k hk => hk.2, ?_, ?_⟩
  · rw [List.length_replicate]; exact hsl.bound
  · have := Els.zero (E := E) (Z := fun _ => False) (he w' _) n
    rwa [List.flatten_replicate_replicate] at this
end
end Go.Proofs.Ytbibippdafnenaa
