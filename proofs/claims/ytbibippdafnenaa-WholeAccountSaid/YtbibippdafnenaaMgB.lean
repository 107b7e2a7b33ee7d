/- Several texts in one: Things in memory: each in blocks of its own (F), reading a pool of blocks that nobody writes (Z); a call on one of them leaves the others as they were. No condition on the program. Elements: what a list of cells says, to the bottom; lists of them in slices. No condition on the program. Reading: what a list of cells holds, as data of Lean's own, to the bottom; how an argument's reading gives it. No condition on the program. What an argument's reading gives, in the words of elements: everything old is the pool. No condition on the program. Blocks that a walk writes, cell by cell. No condition on the program. Slices written in place: an append that has room, clear. No condition on the program. An append to a list that is held. No condition on the program. Blocks of a struct. No condition on the program. -/
import Derived.Test.YtbibippdafnenaaMgA
import Derived.Deep.Slices
import Derived.ChangeSame
import Derived.WalkLawsBesides
import Derived.BigRegion
import Derived.Deep.RegionWith
/- Things in memory: each in blocks of its own (F), reading a pool of blocks that nobody writes (Z); a call on one of them leaves the others as they were. No condition on the program. -/
namespace Go.Proofs.Ytbibippdafnenaa
open Go.RowKit

abbrev BS := Nat → Prop
/-- a thing: what it says of memory, its own blocks, and the pool -/
structure Th where
  on : World → BS → BS → Prop
  keep : ∀ {w w' : World} {F Z : BS}, on w F Z → w.heap.size ≤ w'.heap.size → (∀ k, F k ∨ Z k → k < w.heap.size → w'.heap[k]? = w.heap[k]?) → on w' (fun k => F k ∧ k < w.heap.size) (fun k => Z k ∧ k < w.heap.size)
  mono : ∀ {w : World} {F Z G Y : BS}, on w F Z → (∀ k, F k → G k) → (∀ k, Z k → Y k) → on w G Y
section
variable {F G Z Y : BS} {W w w' : World} {ts : List Th} {T : Th} {i : Nat}
theorem Th.stay (T : Th) (h : T.on w F Z) (hs : w.heap.size ≤ w'.heap.size) (hk : ∀ k, F k ∨ Z k → k < w.heap.size → w'.heap[k]? = w.heap[k]?) (hG : ∀ k, F k → k < w.heap.size → G k) (hY : ∀ k, Z k → k < w.heap.size → Y k) : T.on w' G Y :=
  T.mono (T.keep h hs hk) (fun k h => hG k h.1 h.2) fun k h => hY k h.1 h.2
theorem Th.below (T : Th) (h : T.on w F Z) (hb : Below w.heap.size w w') : T.on w' F Z := T.stay h hb.size (fun k _ hl => hb.block k hl) (fun _ f _ => f) fun _ f _ => f
/-- things side by side within F -/
def Star (ts : List Th) (w : World) (F Z : BS) : Prop := ∃ M : Lab, (∀ j (T : Th), ts[j]? = some T → T.on w (M.is (j + 1)) Z) ∧ ∀ k, M k ≠ 0 → F k
theorem Star.mono (h : Star ts w F Z) (hF : ∀ k, F k → G k) (hZ : ∀ k, Z k → Y k) : Star ts w G Y := by
  obtain ⟨M, h1, h2⟩ := h
  exact ⟨M, fun j T hj => T.mono (h1 j T hj) (fun _ h => h) hZ, fun k hk => hF k (h2 k hk)⟩
theorem Star.keep (h : Star ts w F Z) (hs : w.heap.size ≤ w'.heap.size) (hk : ∀ k, F k ∨ Z k → k < w.heap.size → w'.heap[k]? = w.heap[k]?) : Star ts w' (fun k => F k ∧ k < w.heap.size) (fun k => Z k ∧ k < w.heap.size) := by
  obtain ⟨M, h1, h2⟩ := h
  refine ⟨fun k => if k < w.heap.size then M k else 0, fun j T hj => ?_, fun k hM => ?_⟩
  · refine T.mono (T.keep (h1 j T hj) hs fun k hM hl => hk k (hM.imp (fun hM => h2 k (by have : M k = j + 1 := hM; omega)) id) hl) (fun k ⟨hM, hl⟩ => ?_) fun k h => h
    show (if k < w.heap.size then M k else 0) = j + 1
    rw [if_pos hl]; exact hM
  · by_cases hl : k < w.heap.size
    · have : (if k < w.heap.size then M k else 0) ≠ 0 := hM
      rw [if_pos hl] at this
      exact ⟨h2 k this, hl⟩
    · exact absurd (if_neg hl) hM
def tStar (ts : List Th) : Th := ⟨Star ts, Star.keep, Star.mono⟩
theorem Star.nil (w : World) (F Z : BS) : Star [] w F Z := ⟨fun _ => 0, fun j T h => by simp at h, fun k h => (h rfl).elim⟩
theorem Star.cons (h : T.on w F Z) (hs : Star ts w G Z) (hd : Dj F G) {H : BS} (hF : ∀ k, F k → H k) (hG : ∀ k, G k → H k) : Star (T :: ts) w H Z := by
  classical
  obtain ⟨M, h1, h2⟩ := hs
  refine ⟨fun k => if F k then 1 else if M k = 0 then 0 else M k + 1, fun j T' hj => ?_, fun k hk => ?_⟩
  · match j, hj with
    | 0, hj =>
      obtain rfl : T = T' := by simpa using hj
      exact T.mono h (fun k hk => if_pos hk) fun _ h => h
    | j + 1, hj =>
      refine T'.mono (h1 j T' (by simpa using hj)) (fun k hk => ?_) fun _ h => h
      have hk' : M k = j + 1 := hk
      have hn : ¬ F k := fun f => hd k f (h2 k (by omega))
      show (if F k then 1 else if M k = 0 then 0 else M k + 1) = j + 1 + 1
      rw [if_neg hn, if_neg (by omega), hk']
  · by_cases hf : F k
    · exact hF k hf
    · by_cases hm : M k = 0
      · exact absurd (show (if F k then 1 else if M k = 0 then 0 else M k + 1) = 0 by rw [if_neg hf, if_pos hm]) hk
      · exact hG k (h2 k hm)
theorem Star.one (h : T.on w F Z) : Star [T] w F Z := Star.cons (G := fun _ => False) h (Star.nil w _ Z) (fun _ _ f => f) (fun _ h => h) fun _ f => f.elim
theorem Star.uncons (h : Star (T :: ts) w F Z) : ∃ A B, T.on w A Z ∧ Star ts w B Z ∧ Dj A B ∧ (∀ k, A k → F k) ∧ ∀ k, B k → F k := by
  obtain ⟨M, h1, h2⟩ := h
  refine ⟨M.is 1, fun k => M k ≠ 0 ∧ M k ≠ 1, h1 0 T rfl, ⟨fun k => if M k = 0 then 0 else M k - 1, fun j T' hj => ?_, fun k hk => ?_⟩, fun k a b => b.2 a, fun k a => h2 k (by have : M k = 1 := a; omega), fun k b => h2 k b.1⟩
  · refine T'.mono (h1 (j + 1) T' (by simpa using hj)) (fun k hk => ?_) fun _ h => h
    have hk' : M k = j + 1 + 1 := hk
    show (if M k = 0 then 0 else M k - 1) = j + 1
    rw [if_neg (by omega), hk']; rfl
  · by_cases hm : M k = 0
    · exact absurd (if_pos hm) hk
    · refine ⟨hm, fun h => hk ?_⟩
      show (if M k = 0 then 0 else M k - 1) = 0
      rw [if_neg hm, h]
theorem Star.get (h : Star ts w F Z) (hi : ts[i]? = some T) : T.on w F Z := by
  obtain ⟨M, h1, h2⟩ := h
  exact T.mono (h1 i T hi) (fun k hk => h2 k (by have : M k = i + 1 := hk; omega)) fun _ h => h

/-- what a walk that began at W, may change F, and reads the pool Z, holds -/
def Held (F Z : BS) (W : World) (ts : List Th) (w : World) : Prop := ∃ L : Lab, Fr F W w ∧ (∀ k, k < W.heap.size → ¬ F k → (L k = 0 ∨ L k = 1) ∧ (L k = 1 ↔ Z k)) ∧ ∀ i (T : Th), ts[i]? = some T → T.on w (L.is (i + 2)) (L.is 1)
/-- what a call has done to the thing that it was given, and what it has made -/
def Did (w : World) (G Z : BS) (ts : List Th) (w' : World) : Prop := Fr G w w' ∧ ∃ Y, (∀ k, Y k → Z k ∨ G k ∨ w.heap.size ≤ k) ∧ Star ts w' (fun k => (G k ∨ w.heap.size ≤ k) ∧ ¬ Y k) Y
theorem Held.fr (h : Held F Z W ts w) : Fr F W w := by obtain ⟨L, h, _⟩ := h; exact h
theorem Held.start (h : Star ts W F Z) (hd : Dj F Z) : Held F Z W ts W := by
  obtain ⟨M, h1, h2⟩ := h
  classical
  refine ⟨fun k => if Z k then 1 else if M k = 0 then 0 else M k + 1, Fr.refl _ _, fun k _ hn => ?_, fun i T hi => T.mono (h1 i T hi) (fun k hk => ?_) fun k hk => if_pos hk⟩
  · have hm : M k = 0 := by
      by_cases h : M k = 0
      · exact h
      · exact (hn (h2 k h)).elim
    by_cases hz : Z k
    · have e : (if Z k then 1 else if M k = 0 then 0 else M k + 1) = 1 := if_pos hz
      exact ⟨.inr e, fun _ => hz, fun _ => e⟩
    · have e : (if Z k then 1 else if M k = 0 then 0 else M k + 1) = 0 := by rw [if_neg hz, if_pos hm]
      exact ⟨.inl e, fun h => absurd (e.symm.trans h) (by decide), fun h => (hz h).elim⟩
  · have hk' : M k = i + 1 := hk
    have hz : ¬ Z k := fun z => hd k (h2 k (by omega)) z
    show (if Z k then 1 else if M k = 0 then 0 else M k + 1) = i + 2
    rw [if_neg hz, if_neg (by omega), hk']
theorem Held.start0 (F Z : BS) (hd : Dj F Z) (W : World) : Held F Z W [] W := Held.start (Star.nil W F Z) hd
/-- whatever takes new blocks alone -/
theorem Held.own (h : Held F Z W ts w) (hb : Below w.heap.size w w') : Held F Z W ts w' := by
  obtain ⟨L, h1, h2, h3⟩ := h
  refine ⟨L.new w 1, h1.of_below hb, fun k hk hn => ?_, fun i T hi => T.stay (h3 i T hi) hb.size (fun k _ hl => hb.block k hl) (fun k e hl => (Lab.new_old hl).trans e) fun k e hl => (Lab.new_old hl).trans e⟩
  have := h2 k hk hn
  rw [Lab.new_old (Nat.lt_of_lt_of_le hk h1.size)]; exact this
theorem Held.drew (h : Held F Z W ts w) : Held F Z W ts w.drew := h.own (below_drew w 1)
theorem Held.drewN (h : Held F Z W ts w) (n : Nat) : Held F Z W ts (w.drewN n) := h.own (below_drew w n)
theorem Held.alloc (h : Held F Z W ts w) (o : Obj) : Held F Z W ts (w.alloc o) := h.own (below_alloc w o)
theorem Held.get (h : Held F Z W ts w) (i : Nat) {T : Th} (hi : ts[i]? = some T) : ∃ G Y, T.on w G Y := by obtain ⟨L, _, _, h⟩ := h; exact ⟨_, _, h i T hi⟩
theorem lt_of_get {α : Type} {l : List α} {i : Nat} {a : α} (h : l[i]? = some a) : i < l.length := by
  rcases Nat.lt_or_ge i l.length with h' | h'
  · exact h'
  · rw [List.getElem?_eq_none h'] at h; cases h
/-- one of the things in hand: a call that changes it and makes others -/
theorem Held.use (h : Held F Z W ts w) (i : Nat) {T : Th} (hi : ts[i]? = some T) : ∃ G Y, T.on w G Y ∧ Dj G Y ∧ (∀ k, k < W.heap.size → ¬ F k → ¬ G k ∧ (Z k → Y k)) ∧ (∀ j (T' : Th), j ≠ i → ts[j]? = some T' → ∃ H, Dj G H ∧ Dj H Y ∧ T'.on w H Y) ∧
    ∀ w' (T' : Th) (rest : List Th), Did w G Y (T' :: rest) w' → Held F Z W (ts.set i T' ++ rest) w' := by
  obtain ⟨L, h1, h2, h3⟩ := h
  have hil := lt_of_get hi
  refine ⟨L.is (i + 2), L.is 1, h3 i T hi, fun k a b => ?_, fun k hk hn => ⟨fun hG => ?_, (h2 k hk hn).2.2⟩, fun j T' hj hT => ⟨L.is (j + 2), fun k a b => ?_, fun k a b => ?_, h3 j T' hT⟩, fun w' T' rest hst => ?_⟩
  · have a' : L k = i + 2 := a
    have b' : L k = 1 := b
    omega
  · have := (h2 k hk hn).1
    have hG' : L k = i + 2 := hG
    omega
  · have a' : L k = i + 2 := a
    have b' : L k = j + 2 := b
    omega
  · have a' : L k = j + 2 := a
    have b' : L k = 1 := b
    omega
  · classical
    obtain ⟨hf, Y, hY, M, m1, m2⟩ := hst
    -- the labels behind the call
    let L' : Lab := fun k => if Y k then 1 else if M k = 0 then (if k < w.heap.size then (if L k = i + 2 then 0 else L k) else 0) else if M k = 1 then i + 2 else ts.length + M k
    have hold : ∀ k, k < w.heap.size → L k ≠ i + 2 → ¬ (Y k ∧ L k ≠ 1) → L' k = L k := fun k hl hn hy => by
      by_cases y : Y k
      · have : L k = 1 := by
          by_cases h : L k = 1
          · exact h
          · exact (hy ⟨y, h⟩).elim
        show (if Y k then 1 else _) = _
        rw [if_pos y, this]
      · have hm : M k = 0 := by
          by_cases hm : M k = 0
          · exact hm
          · exact ((m2 k hm).1.elim (fun g => (hn g).elim) fun g => by omega)
        show (if Y k then 1 else if M k = 0 then (if k < w.heap.size then (if L k = i + 2 then 0 else L k) else 0) else _) = _
        rw [if_neg y, if_pos hm, if_pos hl, if_neg hn]
    have hYold : ∀ k, k < w.heap.size → L k ≠ i + 2 → ¬ (Y k ∧ L k ≠ 1) := fun k hl hn ⟨y, h⟩ => (hY k y).elim (fun z => h z) fun g => g.elim (fun g => hn g) fun g => by omega
    refine ⟨L', ?_, ?_, ?_⟩
    · exact h1.trans hf fun x hx => by
        by_cases hl : x < W.heap.size
        · refine .inl ?_
          by_cases hF : F x
          · exact hF
          · have := (h2 x hl hF).1
            have hx' : L x = i + 2 := hx
            omega
        · exact .inr (by omega)
    · intro k hk hn
      have hkw := Nat.lt_of_lt_of_le hk h1.size
      have h0 := h2 k hk hn
      have hne : L k ≠ i + 2 := by have := h0.1; omega
      rw [hold k hkw hne (hYold k hkw hne)]
      exact h0
    · have hpool : ∀ k, L k = 1 → k < w.heap.size → L' k = 1 := fun k e hl => by
        rw [hold k hl (by omega) (fun h => h.2 e)]; exact e
      intro j T'' hj
      by_cases hjl : j < ts.length
      · rw [List.getElem?_append_left (by simpa using hjl)] at hj
        by_cases hji : j = i
        · subst hji
          rw [List.getElem?_set_self hjl] at hj
          obtain rfl := Option.some.inj hj
          refine T'.mono (m1 0 T' rfl) (fun k hk => ?_) fun k hk => ?_
          · have hk' : M k = 1 := hk
            have hny := (m2 k (by omega)).2
            show (if Y k then 1 else if M k = 0 then _ else if M k = 1 then j + 2 else _) = j + 2
            rw [if_neg hny, if_neg (by omega), if_pos hk']
          · show (if Y k then 1 else _) = 1
            rw [if_pos hk]
        · rw [List.getElem?_set_ne (fun e => hji e.symm)] at hj
          refine T''.stay (h3 j T'' hj) hf.size (fun k hk hl => hf.block k hl fun g => ?_) (fun k hk hl => ?_) fun k hk hl => hpool k hk hl
          · have h4 : L k = i + 2 := g
            rcases hk with hk | hk
            · have h3 : L k = j + 2 := hk
              omega
            · have h3 : L k = 1 := hk
              omega
          · have h3 : L k = j + 2 := hk
            show L' k = j + 2
            rw [hold k hl (by omega) (hYold k hl (by omega))]; exact h3
      · rw [List.getElem?_append_right (by simpa using Nat.le_of_not_lt hjl), List.length_set] at hj
        have := m1 (j - ts.length + 1) T'' (by simpa using hj)
        refine T''.mono this (fun k hk => ?_) fun k hk => ?_
        · have hk' : M k = j - ts.length + 1 + 1 := hk
          have hny := (m2 k (by omega)).2
          show (if Y k then 1 else if M k = 0 then _ else if M k = 1 then i + 2 else ts.length + M k) = j + 2
          rw [if_neg hny, if_neg (by omega), if_neg (by omega), hk']
          omega
        · show (if Y k then 1 else _) = 1
          rw [if_pos hk]
/-- new things in new blocks -/
theorem Held.adds (h : Held F Z W ts w) {rest : List Th} (hn : Did w (fun _ => False) (fun k => k < W.heap.size ∧ Z k ∧ ¬ F k) rest w') : Held F Z W (ts ++ rest) w' := by
  classical
  obtain ⟨L, h1, h2, h3⟩ := h
  obtain ⟨hf, Y, hY, M, m1, m2⟩ := hn
  let L' : Lab := fun k => if k < w.heap.size then L k else if Y k then 1 else if M k = 0 then 0 else ts.length + M k + 1
  have hold : ∀ k, k < w.heap.size → L' k = L k := fun k hl => if_pos hl
  have hYp : ∀ k, Y k → L' k = 1 := fun k y => by
    by_cases hl : k < w.heap.size
    · rw [hold k hl]
      rcases hY k y with ⟨h4, h5, h6⟩ | h4 | h4
      · exact (h2 k h4 h6).2.2 h5
      · exact h4.elim
      · omega
    · show (if k < w.heap.size then _ else if Y k then 1 else _) = 1
      rw [if_neg hl, if_pos y]
  refine ⟨L', ⟨hf.os.trans h1.os, hf.tape.trans h1.tape, hf.output.trans h1.output, Nat.le_trans h1.size hf.size, fun k hk hn => (hf.block k (Nat.lt_of_lt_of_le hk h1.size) fun f => f).trans (h1.block k hk hn)⟩, fun k hk hn => ?_, fun j T hj => ?_⟩
  · rw [hold k (Nat.lt_of_lt_of_le hk h1.size)]; exact h2 k hk hn
  · by_cases hjl : j < ts.length
    · rw [List.getElem?_append_left hjl] at hj
      exact T.stay (h3 j T hj) hf.size (fun k _ hl => hf.block k hl fun f => f) (fun k hk hl => (hold k hl).trans hk) fun k hk hl => (hold k hl).trans hk
    · rw [List.getElem?_append_right (Nat.le_of_not_lt hjl)] at hj
      refine T.mono (m1 _ T hj) (fun k hk => ?_) hYp
      have hk' : M k = j - ts.length + 1 := hk
      have hm := m2 k (by omega)
      have hl : ¬ k < w.heap.size := by rcases hm.1 with h | h
                                        · exact h.elim
                                        · omega
      show (if k < w.heap.size then _ else if Y k then 1 else if M k = 0 then 0 else ts.length + M k + 1) = j + 2
      rw [if_neg hl, if_neg hm.2, if_neg (by omega), hk']; omega
theorem Did.news {rest : List Th} (hb : Below w.heap.size w w') (hn : Star rest w' (fun k => w.heap.size ≤ k) Z) (hz : ∀ k, Z k → k < w.heap.size) : Did w (fun _ => False) Z rest w' :=
  ⟨⟨hb.os, hb.tape, hb.output, hb.size, fun k hl _ => hb.block k hl⟩, Z, fun k h => .inl h, hn.mono (fun k h => ⟨.inr h, fun z => by have := hz k z; omega⟩) fun _ h => h⟩
/-- a new thing of its own blocks alone -/
theorem Held.add (h : Held F Z W ts w) {T : Th} (hb : Below w.heap.size w w') (hn : T.on w' (fun k => w.heap.size ≤ k) (fun _ => False)) : Held F Z W (ts ++ [T]) w' :=
  h.adds ⟨⟨hb.os, hb.tape, hb.output, hb.size, fun k hl _ => hb.block k hl⟩, fun _ => False, fun _ f => f.elim, Star.one (T.mono hn (fun _ h => ⟨.inr h, id⟩) fun _ f => f)⟩
/-- new data that nobody writes -/
theorem Held.addZ (h : Held F Z W ts w) {T : Th} (hb : Below w.heap.size w w') (hn : T.on w' (fun _ => False) (fun k => w.heap.size ≤ k)) : Held F Z W (ts ++ [T]) w' :=
  h.adds ⟨⟨hb.os, hb.tape, hb.output, hb.size, fun k hl _ => hb.block k hl⟩, fun k => w.heap.size ≤ k, fun _ f => .inr (.inr f), Star.one (T.mono hn (fun _ h => h.elim) fun _ f => f)⟩
/-- old data that nobody writes -/
theorem Held.addOld (h : Held F Z W ts w) {T : Th} (hn : T.on W (fun _ => False) (fun k => Z k ∧ ¬ F k)) : Held F Z W (ts ++ [T]) w := by
  obtain ⟨L, h1, h2, h3⟩ := h
  refine ⟨L, h1, h2, fun j T' hj => ?_⟩
  by_cases hjl : j < ts.length
  · rw [List.getElem?_append_left hjl] at hj; exact h3 j T' hj
  · rw [List.getElem?_append_right (Nat.le_of_not_lt hjl)] at hj
    obtain rfl : T = T' := by
      have : j - ts.length = 0 := by have := lt_of_get hj; simp at this; omega
      rw [this] at hj; simpa using hj
    exact T.stay hn h1.size (fun k hk hl => h1.block k hl fun f => hk.elim id fun z => z.2 f) (fun k f _ => f.elim) fun k hz hl => (h2 k hl hz.2).2.2 hz.1
/-- some of the things, in another order -/
theorem Held.pick (h : Held F Z W ts w) (js : List Nat) (us : List Th) (hn : js.Nodup) (he : js.map (fun j => ts[j]?) = us.map some) : Held F Z W us w := by
  obtain ⟨L, h1, h2, h3⟩ := h
  have hlen : js.length = us.length := by have := congrArg List.length he; simpa using this
  obtain ⟨L', hL⟩ : ∃ L' : Lab, ∀ k, L' k = if L k ≤ 1 then L k else (match js.idxOf? (L k - 2) with | some m => m + 2 | none => 0) := ⟨_, fun _ => rfl⟩
  refine ⟨L', h1, fun k hk hF => ?_, fun m T hm => ?_⟩
  · have := h2 k hk hF
    rw [show L' k = L k by rw [hL, if_pos (by have := this.1; omega)]]
    exact this
  · have hml : m < js.length := by rw [hlen]; exact lt_of_get hm
    have e1 : (js.map (fun j => ts[j]?))[m]? = (us.map some)[m]? := by rw [he]
    rw [List.getElem?_map, List.getElem?_map, hm, List.getElem?_eq_getElem hml] at e1
    have e2 : ts[js[m]]? = some T := by simpa using e1
    refine T.mono (h3 _ T e2) (fun k hk => ?_) fun k hk => ?_
    · have hk' : L k = js[m] + 2 := hk
      show L' k = m + 2
      have hidx : js.idxOf? js[m] = some m := by
        rw [List.idxOf?_eq_some_iff]
        refine ⟨hml, by simp, fun j hj e => ?_⟩
        have e' : js[j] = js[m] := by simpa using e
        exact List.pairwise_iff_getElem.1 hn j m (by omega) hml hj e'
      rw [hL, if_neg (by omega), hk', Nat.add_sub_cancel, hidx]
    · have hk' : L k = 1 := hk
      show L' k = 1
      rw [hL, if_pos (by omega), hk']
/-- the first n things taken together, or one taken apart -/
theorem Held.fold {lts : List Th} (h : Held F Z W (lts ++ ts) w) {T : Th} (hT : ∀ G Y, Dj G Y → Star lts w G Y → T.on w G Y) : Held F Z W (T :: ts) w := by
  obtain ⟨L, h1, h2, h3⟩ := h
  obtain ⟨L', hL⟩ : ∃ L' : Lab, ∀ k, L' k = if L k ≤ 1 then L k else if L k ≤ lts.length + 1 then 2 else L k + 1 - lts.length := ⟨_, fun _ => rfl⟩
  refine ⟨L', h1, fun k hk hF => ?_, fun m T' hm => ?_⟩
  · have := h2 k hk hF
    rw [show L' k = L k by rw [hL, if_pos (by have := this.1; omega)]]; exact this
  · have hz : ∀ k, L.is 1 k → L'.is 1 k := fun k hk => by
      have hk' : L k = 1 := hk
      show L' k = 1
      rw [hL, if_pos (by omega), hk']
    match m, hm with
    | 0, hm =>
      obtain rfl : T = T' := by simpa using hm
      obtain ⟨M, hM⟩ : ∃ M : Lab, ∀ k, M k = if 2 ≤ L k ∧ L k ≤ lts.length + 1 then L k - 1 else 0 := ⟨_, fun _ => rfl⟩
      refine T.mono (hT (fun k => 2 ≤ L k ∧ L k ≤ lts.length + 1) (L.is 1) (fun k a b => by have b' : L k = 1 := b; omega) ⟨M, fun j T' hj => ?_, fun k hk => ?_⟩) (fun k hk => ?_) hz
      · have hjl := lt_of_get hj
        refine T'.mono (h3 j T' (by rw [List.getElem?_append_left hjl]; exact hj)) (fun k hk => ?_) fun _ h => h
        have hk' : L k = j + 2 := hk
        show M k = j + 1
        rw [hM, if_pos (by omega), hk']; rfl
      · by_cases hl : 2 ≤ L k ∧ L k ≤ lts.length + 1
        · exact hl
        · exact absurd (by rw [hM, if_neg hl]) hk
      · show L' k = 0 + 2
        rw [hL, if_neg (by omega), if_pos hk.2]
    | m + 1, hm =>
      refine T'.mono (h3 (m + lts.length) T' (by rw [List.getElem?_append_right (by omega)]; simpa using hm)) (fun k hk => ?_) hz
      have hk' : L k = m + lts.length + 2 := hk
      show L' k = m + 1 + 2
      rw [hL, if_neg (by omega), if_neg (by omega), hk']; omega
theorem Held.unfold {lts : List Th} {T : Th} (h : Held F Z W (T :: ts) w) (hT : ∀ G Y, Dj G Y → T.on w G Y → Star lts w G Y) : Held F Z W (lts ++ ts) w := by
  obtain ⟨L, h1, h2, h3⟩ := h
  obtain ⟨M, m1, m2⟩ := hT _ _ (fun k a b => by have a' : L k = 0 + 2 := a; have b' : L k = 1 := b; omega) (h3 0 T rfl)
  obtain ⟨L', hL⟩ : ∃ L' : Lab, ∀ k, L' k = if L k ≤ 1 then L k else if L k = 2 then (if M k = 0 then 0 else M k + 1) else L k + lts.length - 1 := ⟨_, fun _ => rfl⟩
  refine ⟨L', h1, fun k hk hF => ?_, fun j T' hj => ?_⟩
  · have := h2 k hk hF
    rw [show L' k = L k by rw [hL, if_pos (by have := this.1; omega)]]; exact this
  · have hz : ∀ k, L.is 1 k → L'.is 1 k := fun k hk => by
      have hk' : L k = 1 := hk
      show L' k = 1
      rw [hL, if_pos (by omega), hk']
    by_cases hjl : j < lts.length
    · rw [List.getElem?_append_left hjl] at hj
      refine T'.mono (m1 j T' hj) (fun k hk => ?_) hz
      have hk' : M k = j + 1 := hk
      have hL2 : L k = 0 + 2 := m2 k (by omega)
      show L' k = j + 2
      rw [hL, if_neg (by omega), if_pos (by omega), if_neg (by omega), hk']
    · rw [List.getElem?_append_right (Nat.le_of_not_lt hjl)] at hj
      refine T'.mono (h3 (j - lts.length + 1) T' (by simpa using hj)) (fun k hk => ?_) hz
      have hk' : L k = j - lts.length + 1 + 2 := hk
      show L' k = j + 2
      rw [hL, if_neg (by omega), if_neg (by omega), hk']; omega
/-- the end of a walk -/
theorem Held.did (h : Held F Z W ts w) : Did W F Z ts w := by
  obtain ⟨L, h1, h2, h3⟩ := h
  refine ⟨h1, L.is 1, fun k hk => ?_, fun k => if L k ≤ 1 then 0 else L k - 1, fun j T hj => T.mono (h3 j T hj) (fun k hk => ?_) fun _ h => h, fun k hk => ?_⟩
  · have hk' : L k = 1 := hk
    by_cases hl : k < W.heap.size
    · by_cases hF : F k
      · exact .inr (.inl hF)
      · exact .inl ((h2 k hl hF).2.1 hk')
    · exact .inr (.inr (by omega))
  · have hk' : L k = j + 2 := hk
    show (if L k ≤ 1 then 0 else L k - 1) = j + 1
    rw [if_neg (by omega), hk']; rfl
  · have hL : ¬ L k ≤ 1 := fun h => hk (if_pos h)
    refine ⟨?_, fun h => hL (by have h' : L k = 1 := h; omega)⟩
    by_cases hl : k < W.heap.size
    · by_cases hF : F k
      · exact .inl hF
      · have := (h2 k hl hF).1; omega
    · exact .inr (by omega)
theorem Held.below (h : Held (fun _ => False) Z W ts w) : Below W.heap.size W w := h.fr.below (Nat.le_refl _) fun _ f => f.elim
theorem Did.one (hf : Fr G w w') (h : T.on w' (fun k => G k ∨ w.heap.size ≤ k) Z) (hd : Dj G Z) (hz : ∀ k, Z k → k < w.heap.size) : Did w G Z [T] w' :=
  ⟨hf, Z, fun _ h => .inl h, Star.one (T.mono h (fun k g => ⟨g, fun z => g.elim (fun g => hd k g z) fun g => by have := hz k z; omega⟩) fun _ h => h)⟩
end
/-- a block known whole -/
def tBlk (p : Nat) (o : Obj) : Th := ⟨fun w F _ => Blk p o w F, fun h hs hk => (Blk.thing p o).keep h hs fun k f hl => hk k (.inl f) hl, fun h hF _ => (Blk.thing p o).mono h hF⟩
/-- a thing of the elder kind -/
def tOld {O : World → BS → Prop} (T : Thing O) : Th := ⟨fun w F _ => O w F, fun h hs hk => T.keep h hs fun k f hl => hk k (.inl f) hl, fun h hF _ => T.mono h hF⟩
section
variable {F Z : BS} {W w w' : World} {ts : List Th}
theorem Held.blk (h : Held F Z W ts w) (i : Nat) {p : Nat} {o : Obj} (hi : ts[i]? = some (tBlk p o)) : w.heap[p]? = some o := by obtain ⟨G, Y, h⟩ := h.get i hi; exact h.1
theorem Held.new (h : Held F Z W ts w) (o : Obj) : Held F Z W (ts ++ [tBlk w.heap.size o]) (w.alloc o) := h.add (below_alloc w o) ⟨heap_alloc_new w o, Nat.le_refl _⟩
/-- a block that the walk itself has written -/
theorem Held.set (h : Held F Z W ts w) (i : Nat) {p : Nat} {o : Obj} (hi : ts[i]? = some (tBlk p o)) (o' : Obj) (hf : Fr (fun k => k = p) w w') (hr : w'.heap[p]? = some o') : Held F Z W (ts.set i (tBlk p o')) w' := by
  obtain ⟨G, Y, h1, hd, _, _, h4⟩ := h.use i hi
  have := h4 w' (tBlk p o') [] ⟨hf.mono fun k hk => by subst hk; exact h1.2, Y, fun _ h => .inl h, Star.one ⟨hr, .inl h1.2, fun y => hd p h1.2 y⟩⟩
  rwa [List.append_nil] at this
theorem Held.start1 {T : Th} (h : T.on W F Z) (hd : Dj F Z) : Held F Z W [T] W := Held.start (Star.one h) hd
theorem Did.same {T : Th} {G Y : BS} (hf : Fr G w w') (h : T.on w' G Y) (hd : Dj G Y) : Did w G Y [T] w' := ⟨hf, Y, fun _ h => .inl h, Star.one (T.mono h (fun k g => ⟨.inl g, fun y => hd k g y⟩) fun _ h => h)⟩
/-- one thing changed, in its own blocks -/
theorem Held.upd (h : Held F Z W ts w) (i : Nat) {T T' : Th} (hi : ts[i]? = some T) (k : ∀ G Y, T.on w G Y → Dj G Y → T'.on w' G Y ∧ Fr G w w') : Held F Z W (ts.set i T') w' := by
  obtain ⟨G, Y, h1, hd, _, _, h4⟩ := h.use i hi
  obtain ⟨h5, h6⟩ := k G Y h1 hd
  have := h4 w' T' [] (Did.same h6 h5 hd)
  rwa [List.append_nil] at this
/-- .. in its own blocks and new ones -/
theorem Held.grow (h : Held F Z W ts w) (i : Nat) {T T' : Th} (hi : ts[i]? = some T) (k : ∀ G Y, T.on w G Y → Dj G Y → ∃ H X, (∀ k, H k → G k ∨ w.heap.size ≤ k) ∧ (∀ k, X k → (Y k ∧ k < w.heap.size) ∨ w.heap.size ≤ k) ∧ Dj H X ∧ T'.on w' H X ∧ Fr G w w') : Held F Z W (ts.set i T') w' := by
  obtain ⟨G, Y, h1, hd, _, _, h4⟩ := h.use i hi
  obtain ⟨H, X, h5, h6, h7, h8, h9⟩ := k G Y h1 hd
  have := h4 w' T' [] ⟨h9, X, fun k hx => (h6 k hx).imp (·.1) .inr, Star.one (T'.mono h8 (fun k hk => ⟨h5 k hk, h7 k hk⟩) fun _ h => h)⟩
  rwa [List.append_nil] at this
theorem Star.two {A B : Th} {G H : BS} (ha : A.on w G Z) (hb : B.on w H Z) (hd : Dj G H) (hG : ∀ k, G k → F k) (hH : ∀ k, H k → F k) : Star [A, B] w F Z := Star.cons (G := H) ha (Star.one hb) hd hG hH
/-- the end of a walk: the first thing is handed back, the others are dropped -/
theorem Held.did' {T : Th} (h : Held F Z W (T :: ts) w) : Did W F Z [T] w := (h.pick [0] [T] (by simp) rfl).did
end
/-- a thing that a call has made in new blocks -/
def Made (w : World) (T : Th) (w' : World) : Prop := Below w.heap.size w w' ∧ ∃ N Y : BS, (∀ k, N k → w.heap.size ≤ k) ∧ (∀ k, Y k → w.heap.size ≤ k) ∧ Dj N Y ∧ T.on w' N Y
theorem Held.made {F Z : BS} {W w w' : World} {ts : List Th} {T : Th} (h : Held F Z W ts w) (hm : Made w T w') : Held F Z W (ts ++ [T]) w' := by
  obtain ⟨hb, N, Y, h1, h2, h3, h4⟩ := hm
  exact h.adds ⟨⟨hb.os, hb.tape, hb.output, hb.size, fun k hl _ => hb.block k hl⟩, Y, fun k hk => .inr (.inr (h2 k hk)), Star.one (T.mono h4 (fun k h => ⟨.inr (h1 k h), h3 k h⟩) fun _ h => h)⟩
/-- one thing changed, in its own blocks and new ones; it reads no pool -/
theorem Did.one0 {G Z : BS} {w w' : World} {T : Th} (hf : Fr G w w') (h : T.on w' (fun k => G k ∨ w.heap.size ≤ k) (fun _ => False)) : Did w G Z [T] w' :=
  ⟨hf, fun _ => False, fun _ f => f.elim, Star.one (T.mono h (fun _ g => ⟨g, id⟩) fun _ f => f)⟩
end Go.Proofs.Ytbibippdafnenaa

/- Elements: what a list of cells says, to the bottom; lists of them in slices. No condition on the program. -/
namespace Go.Proofs.Ytbibippdafnenaa
open Go.RowKit

/-- a kind of element: its cells, its own blocks, the pool -/
structure El (α : Type) where
  size : Nat
  rd : World → BS → BS → List Value → α → Prop
  len : ∀ {w F Z cs a}, rd w F Z cs a → cs.length = size
  keep : ∀ {w w' : World} {F Z cs a}, rd w F Z cs a → w.heap.size ≤ w'.heap.size → (∀ k, F k ∨ Z k → k < w.heap.size → w'.heap[k]? = w.heap[k]?) → rd w' (fun k => F k ∧ k < w.heap.size) (fun k => Z k ∧ k < w.heap.size) cs a
  mono : ∀ {w F Z G Y cs a}, rd w F Z cs a → (∀ k, F k → G k) → (∀ k, Z k → Y k) → rd w G Y cs a
  one : ∀ {w F Z cs a}, rd w F Z cs a → ∀ u ∈ cs, u.oneCell' = true
/-- a number -/
def eInt (k : IntKind) : El Int where
  size := 1
  rd _ _ _ cs n := cs = [.int k n]
  len h := by rw [h]; rfl
  keep h _ _ := h
  mono h _ _ := h
  one h u hu := by rw [h] at hu; obtain rfl := List.mem_singleton.1 hu; rfl
/-- a number within its kind -/
def eIntW (k : IntKind) : El Int where
  size := 1
  rd _ _ _ cs n := cs = [.int k n] ∧ (Lit.int k n).wf = true
  len h := by rw [h.1]; rfl
  keep h _ _ := h
  mono h _ _ := h
  one h u hu := by rw [h.1] at hu; obtain rfl := List.mem_singleton.1 hu; rfl
def eNat : El Nat where
  size := 1
  rd _ _ _ cs n := cs = [.int .i64 (n : Int)]
  len h := by rw [h]; rfl
  keep h _ _ := h
  mono h _ _ := h
  one h u hu := by rw [h] at hu; obtain rfl := List.mem_singleton.1 hu; rfl
def eBool : El Bool where
  size := 1
  rd _ _ _ cs b := cs = [.bool b]
  len h := by rw [h]; rfl
  keep h _ _ := h
  mono h _ _ := h
  one h u hu := by rw [h] at hu; obtain rfl := List.mem_singleton.1 hu; rfl
/-- bytes that nobody writes -/
def ByZ (w : World) (Z : BS) (v : Value) (bs : List (BitVec 8)) : Prop := By w v bs ∧ (0 < bs.length → ∀ b, v.ownBlock = some b → Z b)
theorem Rd.lt {w : World} {s : Nat} {v : Value} {n : Nat} {us : List Value} (h : Rd w s v n us) (h0 : 0 < us.length) {b : Nat} (hb : v.ownBlock = some b) : b < w.heap.size := by
  obtain ⟨_, a, cap, rfl, _, _, _, h4⟩ := h
  cases a with
  | none => cases hb
  | some a =>
    obtain rfl : a.block = b := by simpa [Value.ownBlock] using hb
    obtain ⟨u, hu⟩ : ∃ u, us[0]? = some u := ⟨us[0], List.getElem?_eq_getElem h0⟩
    exact World.block_lt_of_cell? w ⟨a.block, a.off + 0, none⟩ (h4 a rfl 0 u hu).2
/-- a slice stays where its block does; an empty one stays anyway -/
theorem Rd.stay {w w' : World} {s : Nat} {v : Value} {n : Nat} {us : List Value} (h : Rd w s v n us) (hk : 0 < us.length → ∀ k, v.ownBlock = some k → k < w.heap.size → w'.heap[k]? = w.heap[k]?) : Rd w' s v n us := by
  by_cases h0 : 0 < us.length
  · exact h.keep (hk h0)
  · obtain ⟨hl, a, cap, rfl, h1, h2, h3, h4⟩ := h
    exact ⟨hl, a, cap, rfl, h1, h2, h3, fun b hb j u hj => by have : j < us.length := lt_of_get hj; omega⟩
theorem ByZ.stay {w w' : World} {Z : BS} {v : Value} {bs : List (BitVec 8)} (h : ByZ w Z v bs) (hk : ∀ k, Z k → k < w.heap.size → w'.heap[k]? = w.heap[k]?) : ByZ w' (fun k => Z k ∧ k < w.heap.size) v bs :=
  ⟨Rd.stay h.1 fun h0 k e hl => hk k (h.2 (by rwa [cu_length] at h0) k e) hl, fun h0 b hb => ⟨h.2 h0 b hb, Rd.lt h.1 (by rwa [cu_length]) hb⟩⟩
theorem ByZ.mono {w : World} {Z Y : BS} {v : Value} {bs : List (BitVec 8)} (h : ByZ w Z v bs) (hZ : ∀ k, Z k → Y k) : ByZ w Y v bs := ⟨h.1, fun h0 b e => hZ b (h.2 h0 b e)⟩
theorem ByZ.keep {w w' : World} {Z : BS} {v : Value} {bs : List (BitVec 8)} (h : ByZ w Z v bs) (hk : ∀ k, Z k → k < w.heap.size → w'.heap[k]? = w.heap[k]?) : ByZ w' Z v bs := (h.stay hk).mono fun _ h => h.1
theorem ByZ.below {w w' : World} {Z : BS} {v : Value} {bs : List (BitVec 8)} (h : ByZ w Z v bs) (hb : Below w.heap.size w w') : ByZ w' Z v bs := h.keep fun k _ hl => hb.block k hl
theorem ByZ.slice {w : World} {Z : BS} {v : Value} {bs : List (BitVec 8)} (h : ByZ w Z v bs) : ∃ a c, v = .slice a bs.length c := by obtain ⟨⟨_, a, c, e, _⟩, _⟩ := h; exact ⟨a, c, e⟩
theorem ByZ.nil (w : World) (Z : BS) : ByZ w Z (.slice none 0 0) [] := ⟨By.of_nil w, fun h => by simp at h⟩
def eBy : El (List (BitVec 8)) where
  size := 1
  rd w _ Z cs bs := ∃ v, cs = [v] ∧ ByZ w Z v bs
  len h := by obtain ⟨v, h, _⟩ := h; rw [h]; rfl
  keep h _ hk := by obtain ⟨v, e, h⟩ := h; exact ⟨v, e, h.stay fun k hz => hk k (.inr hz)⟩
  mono h _ hZ := by obtain ⟨v, e, h⟩ := h; exact ⟨v, e, h.mono hZ⟩
  one h u hu := by
    obtain ⟨v, rfl, ⟨_, a, c, rfl, _⟩, _⟩ := h
    obtain rfl : u = _ := List.mem_singleton.1 hu
    rfl
/-- two elements, one behind the other -/
def eProd {α β : Type} (A : El α) (B : El β) : El (α × β) where
  size := A.size + B.size
  rd w F Z cs x := ∃ c d G H, cs = c ++ d ∧ (∀ k, G k → F k) ∧ (∀ k, H k → F k) ∧ Dj G H ∧ A.rd w G Z c x.1 ∧ B.rd w H Z d x.2
  len h := by obtain ⟨c, d, G, H, rfl, _, _, _, h1, h2⟩ := h; rw [List.length_append, A.len h1, B.len h2]
  keep h hs hk := by
    obtain ⟨c, d, G, H, e, g1, g2, g3, h1, h2⟩ := h
    exact ⟨c, d, _, _, e, fun k h => ⟨g1 k h.1, h.2⟩, fun k h => ⟨g2 k h.1, h.2⟩, fun k a b => g3 k a.1 b.1, A.keep h1 hs fun k hh => hk k (hh.imp (g1 k) id), B.keep h2 hs fun k hh => hk k (hh.imp (g2 k) id)⟩
  mono h hF hZ := by
    obtain ⟨c, d, G, H, e, g1, g2, g3, h1, h2⟩ := h
    exact ⟨c, d, G, H, e, fun k h => hF k (g1 k h), fun k h => hF k (g2 k h), g3, A.mono h1 (fun _ h => h) hZ, B.mono h2 (fun _ h => h) hZ⟩
  one h u hu := by
    obtain ⟨c, d, G, H, rfl, _, _, _, h1, h2⟩ := h
    rcases List.mem_append.1 hu with hu | hu
    · exact A.one h1 u hu
    · exact B.one h2 u hu
def eMap {α β : Type} (A : El α) (f : α → β) : El β where
  size := A.size
  rd w F Z cs b := ∃ a, A.rd w F Z cs a ∧ f a = b
  len h := by obtain ⟨a, h, _⟩ := h; exact A.len h
  keep h hs hk := by obtain ⟨a, h, e⟩ := h; exact ⟨a, A.keep h hs hk, e⟩
  mono h hF hZ := by obtain ⟨a, h, e⟩ := h; exact ⟨a, A.mono h hF hZ, e⟩
  one h := by obtain ⟨a, h, _⟩ := h; exact A.one h
/-- elements, one behind another, each with blocks of its own -/
def Els {α : Type} (E : El α) (w : World) (F Z : BS) : List Value → List α → Prop
  | us, [] => us = []
  | us, a :: xs => ∃ cs rest A B, us = cs ++ rest ∧ (∀ k, A k → F k) ∧ (∀ k, B k → F k) ∧ Dj A B ∧ E.rd w A Z cs a ∧ Els E w B Z rest xs
section
variable {α : Type} {E : El α} {w w' : World} {F G Z Y : BS}
theorem Els.length : ∀ {F : BS} {us : List Value} {xs : List α}, Els E w F Z us xs → us.length = xs.length * E.size
  | _, _, [], h => by rw [show _ = [] from h]; simp
  | _, _, a :: xs, ⟨cs, rest, A, B, e, _, _, _, h1, h2⟩ => by rw [e, List.length_append, E.len h1, h2.length, List.length_cons, Nat.add_mul]; omega
theorem Els.keep : ∀ {F : BS} {us : List Value} {xs : List α}, Els E w F Z us xs → w.heap.size ≤ w'.heap.size → (∀ k, F k ∨ Z k → k < w.heap.size → w'.heap[k]? = w.heap[k]?) → Els E w' (fun k => F k ∧ k < w.heap.size) (fun k => Z k ∧ k < w.heap.size) us xs
  | _, _, [], h, _, _ => h
  | _, _, _ :: _, ⟨cs, rest, _, _, e, g1, g2, g3, h1, h2⟩, hs, hk => ⟨cs, rest, _, _, e, fun k h => ⟨g1 k h.1, h.2⟩, fun k h => ⟨g2 k h.1, h.2⟩, fun k a b => g3 k a.1 b.1, E.keep h1 hs fun k hh => hk k (hh.imp (g1 k) id), h2.keep hs fun k hh => hk k (hh.imp (g2 k) id)⟩
theorem Els.mono : ∀ {F G : BS} {us : List Value} {xs : List α}, Els E w F Z us xs → (∀ k, F k → G k) → (∀ k, Z k → Y k) → Els E w G Y us xs
  | _, _, _, [], h, _, _ => h
  | _, _, _, _ :: _, ⟨cs, rest, A, B, e, g1, g2, g3, h1, h2⟩, hF, hZ => ⟨cs, rest, A, B, e, fun k h => hF k (g1 k h), fun k h => hF k (g2 k h), g3, E.mono h1 (fun _ h => h) hZ, h2.mono (fun _ h => h) hZ⟩
theorem Els.one : ∀ {F : BS} {us : List Value} {xs : List α}, Els E w F Z us xs → ∀ u ∈ us, u.oneCell' = true
  | _, _, [], h, u, hu => by rw [show _ = [] from h] at hu; cases hu
  | _, _, a :: xs, ⟨cs, rest, A, B, e, _, _, _, h1, h2⟩, u, hu => by
    rw [e] at hu
    rcases List.mem_append.1 hu with hu | hu
    · exact E.one h1 u hu
    · exact h2.one u hu
theorem Els.append : ∀ {F G H : BS} {us vs : List Value} {xs ys : List α}, Els E w F Z us xs → Els E w G Z vs ys → Dj F G → (∀ k, F k → H k) → (∀ k, G k → H k) → Els E w H Z (us ++ vs) (xs ++ ys)
  | _, _, _, us, vs, [], ys, h, k, _, _, hG => by rw [show us = [] from h]; exact k.mono hG fun _ h => h
  | F, G, H, us, vs, a :: xs, ys, ⟨cs, rest, A, B, e, g1, g2, g3, h1, h2⟩, k, hd, hF, hG =>
    ⟨cs, rest ++ vs, A, fun k => B k ∨ G k, by rw [e, List.append_assoc], fun k a => hF k (g1 k a), fun k h => h.elim (fun b => hF k (g2 k b)) (hG k), fun k a h => h.elim (g3 k a) (hd k (g1 k a)), h1,
      Els.append h2 k (fun k b g => hd k (g2 k b) g) (fun _ b => .inl b) fun _ g => .inr g⟩
theorem Els.single {cs : List Value} {a : α} (h : E.rd w F Z cs a) : Els E w F Z cs [a] := ⟨cs, [], F, fun _ => False, by simp, fun _ h => h, fun _ f => f.elim, fun _ _ f => f, h, rfl⟩
theorem Els.drop : ∀ {F : BS} {us : List Value} {xs : List α} (k : Nat), Els E w F Z us xs → Els E w F Z (us.drop (k * E.size)) (xs.drop k)
  | _, us, [], k, h => by rw [show us = [] from h]; simp; exact rfl
  | _, us, a :: xs, 0, h => by simpa using h
  | F, us, a :: xs, k + 1, ⟨cs, rest, A, B, e, _, g2, _, h1, h2⟩ => by
    have := (h2.drop k).mono g2 fun _ h => h
    rw [e, List.drop_succ_cons]
    have e2 : (cs ++ rest).drop ((k + 1) * E.size) = rest.drop (k * E.size) := by
      rw [List.drop_append, E.len h1, List.drop_eq_nil_of_le (by rw [E.len h1, Nat.add_mul]; omega), List.nil_append]
      congr 1; rw [Nat.add_mul]; omega
    rw [e2]; exact this
theorem Els.take : ∀ {F : BS} {us : List Value} {xs : List α} (k : Nat), Els E w F Z us xs → Els E w F Z (us.take (k * E.size)) (xs.take k)
  | _, us, [], k, h => by rw [show us = [] from h]; simp; exact rfl
  | _, us, a :: xs, 0, h => by simp; exact rfl
  | F, us, a :: xs, k + 1, ⟨cs, rest, A, B, e, g1, g2, g3, h1, h2⟩ => by
    refine ⟨cs, rest.take (k * E.size), A, B, ?_, g1, g2, g3, h1, h2.take k⟩
    rw [e, List.take_append, List.take_of_length_le (by rw [E.len h1, Nat.add_mul]; omega), E.len h1]
    congr 2; rw [Nat.add_mul]; omega
theorem Els.get : ∀ {F : BS} {us : List Value} {xs : List α} {i : Nat} {a : α}, Els E w F Z us xs → xs[i]? = some a → ∃ cs A, E.rd w A Z cs a ∧ (∀ k, A k → F k) ∧ ∀ j, j < E.size → us[i * E.size + j]? = cs[j]?
  | _, us, x :: xs, 0, a, ⟨cs, rest, A, _, e, g1, _, _, h1, _⟩, hi => by
    obtain rfl : x = a := by simpa using hi
    refine ⟨cs, A, h1, g1, fun j hj => ?_⟩
    rw [e, Nat.zero_mul, Nat.zero_add, List.getElem?_append_left (by rw [E.len h1]; exact hj)]
  | _, us, x :: xs, i + 1, a, ⟨cs, rest, A, B, e, _, g2, _, h1, h2⟩, hi => by
    obtain ⟨cs', A', h3, h3', h4⟩ := h2.get (by simpa using hi)
    refine ⟨cs', A', h3, fun k h => g2 k (h3' k h), fun j hj => ?_⟩
    rw [← h4 j hj, e, List.getElem?_append_right (by rw [E.len h1, Nat.add_mul]; omega), E.len h1]
    congr 1; rw [Nat.add_mul]; omega
/-- one element in hand: taken out, changed by whatever leaves the others, and put back -/
theorem Els.focus : ∀ {F : BS} {us : List Value} {xs : List α} {i : Nat} {a : α}, Els E w F Z us xs → xs[i]? = some a → ∃ cs A B, E.rd w A Z cs a ∧ (∀ k, A k → F k) ∧ (∀ k, B k → F k) ∧ Dj A B ∧ us = us.take (i * E.size) ++ cs ++ us.drop ((i + 1) * E.size) ∧
    ∀ (w' : World) (cs' : List Value) (a' : α) (A' H Y : BS), w.heap.size ≤ w'.heap.size → (∀ k, B k ∨ Z k → k < w.heap.size → w'.heap[k]? = w.heap[k]?) → E.rd w' A' Y cs' a' → (∀ k, A' k → H k ∧ ¬ (B k ∧ k < w.heap.size)) → (∀ k, B k → k < w.heap.size → H k) → (∀ k, Z k → k < w.heap.size → Y k) →
      Els E w' H Y (us.take (i * E.size) ++ cs' ++ us.drop ((i + 1) * E.size)) (xs.set i a')
  | F, us, x :: xs, 0, a, ⟨cs, rest, A, B, e, g1, g2, g3, h1, h2⟩, hi => by
    obtain rfl : x = a := by simpa using hi
    have hd : (cs ++ rest).drop E.size = rest := by rw [← E.len h1]; exact List.drop_left
    refine ⟨cs, A, B, h1, g1, g2, g3, by rw [e]; simp [hd], fun w' cs' a' A' H Y hs hk hr hA hB hZ => ?_⟩
    refine ⟨cs', rest, A', fun k => B k ∧ k < w.heap.size, by rw [e]; simp [hd], fun k h => (hA k h).1, fun k h => hB k h.1 h.2, fun k a b => (hA k a).2 b, hr, ?_⟩
    exact (h2.keep hs hk).mono (fun _ h => h) fun k h => hZ k h.1 h.2
  | F, us, x :: xs, i + 1, a, ⟨cs, rest, A, B, e, g1, g2, g3, h1, h2⟩, hi => by
    obtain ⟨cs1, A1, B1, q1, q2, q3, q4, q5, q6⟩ := h2.focus (i := i) (by simpa using hi)
    have hl := E.len h1
    have e3 : ∀ n, (cs ++ rest).take ((n + 1) * E.size) = cs ++ rest.take (n * E.size) := fun n => by
      rw [List.take_append, List.take_of_length_le (by rw [hl, Nat.add_mul]; omega), hl]
      congr 2; rw [Nat.add_mul]; omega
    have e4 : ∀ n, (cs ++ rest).drop ((n + 1) * E.size) = rest.drop (n * E.size) := fun n => by
      rw [List.drop_append, List.drop_eq_nil_of_le (by rw [hl, Nat.add_mul]; omega), List.nil_append, hl]
      congr 1; rw [Nat.add_mul]; omega
    refine ⟨cs1, A1, fun k => A k ∨ B1 k, q1, fun k h => g2 k (q2 k h), fun k h => h.elim (g1 k) fun h => g2 k (q3 k h), fun k a b => b.elim (fun b => g3 k b (q2 k a)) (q4 k a), ?_, fun w' cs' a' A' H Y hs hk hr hA hB hZ => ?_⟩
    · rw [e, e3, e4, List.append_assoc, List.append_assoc]
      congr 1
      rw [← List.append_assoc]; exact q5
    · refine ⟨cs, rest.take (i * E.size) ++ cs' ++ rest.drop ((i + 1) * E.size), fun k => A k ∧ k < w.heap.size, fun k => H k ∧ ¬ (A k ∧ k < w.heap.size), by rw [e, e3, e4]; simp [List.append_assoc], fun k h => hB k (.inl h.1) h.2, fun k h => h.1, fun k a b => b.2 a, ?_, ?_⟩
      · exact E.mono (E.keep h1 hs fun k hh => hk k (hh.imp .inl id)) (fun _ h => h) fun k h => hZ k h.1 h.2
      · exact q6 w' cs' a' A' _ Y hs (fun k hh => hk k (hh.imp .inr id)) hr (fun k h => ⟨⟨(hA k h).1, fun h' => (hA k h).2 ⟨.inl h'.1, h'.2⟩⟩, fun h' => (hA k h).2 ⟨.inr h'.1, h'.2⟩⟩) (fun k h hl => ⟨hB k (.inr h) hl, fun h' => g3 k h'.1 (q3 k h)⟩) hZ
end
/-- v[k:], elements of any size -/
theorem Sl.dropG {w : World} {F : Nat → Prop} {e : TypeId} {s g off n cap : Nat} {us : List Value} (h : Sl w F e s (.slice (some ⟨g, off, none⟩) n cap) n us) {k : Nat} (hk : k ≤ n) :
    Sl w F e s (.slice (if cap = k then some ⟨g, off, none⟩ else some ⟨g, off + k * s, none⟩) (n - k) (cap - k)) (n - k) (us.drop (k * s)) := by
  obtain ⟨hl, ⟨h, _⟩ | ⟨g', off', cap', cur, e1, hF, hg, h1, h2, h3, h4⟩⟩ := h
  · cases h
  · obtain ⟨⟨rfl, rfl⟩, rfl⟩ : (g = g' ∧ off = off') ∧ cap = cap' := by simpa using e1
    have hm : (n - k) * s = n * s - k * s := Nat.sub_mul n k s
    have hm2 : (cap - k) * s = cap * s - k * s := Nat.sub_mul cap k s
    have hle : k * s ≤ n * s := Nat.mul_le_mul_right s hk
    have hle2 : n * s ≤ cap * s := Nat.mul_le_mul_right s h1
    refine ⟨by rw [List.length_drop, hl, hm], .inr ?_⟩
    by_cases hc : cap = k
    · rw [if_pos hc]
      have hn : n - k = 0 := by omega
      refine ⟨g, off, cap - k, cur, rfl, hF, hg, by omega, by omega, by rw [hm2]; omega, ?_⟩
      have : us.drop (k * s) = [] := List.drop_eq_nil_of_le (by rw [hl]; have : n = k := by omega
                                                                rw [this]; exact Nat.le_refl _)
      rw [this, hn]; simp
    · rw [if_neg hc]
      refine ⟨g, off + k * s, cap - k, cur, rfl, hF, hg, by omega, by omega, by rw [hm2]; omega, ?_⟩
      rw [← h4, List.drop_take, List.drop_drop]
      congr 1
/-- a slice in the pool that reads as xs -/
def RdS {α : Type} (E : El α) (w : World) (Z : BS) (v : Value) (xs : List α) : Prop := ∃ us, Rd w E.size v xs.length us ∧ Els E w (fun _ => False) Z us xs ∧ (0 < us.length → ∀ b, v.ownBlock = some b → Z b)
section
variable {α : Type} {E : El α} {w w' : World} {F G Z Y : BS} {v : Value} {xs : List α}
theorem RdS.stay (h : RdS E w Z v xs) (hs : w.heap.size ≤ w'.heap.size) (hk : ∀ k, Z k → k < w.heap.size → w'.heap[k]? = w.heap[k]?) : RdS E w' (fun k => Z k ∧ k < w.heap.size) v xs := by
  obtain ⟨us, h1, h2, h3⟩ := h
  exact ⟨us, h1.stay fun h0 k e hl => hk k (h3 h0 k e) hl, (h2.keep hs fun k hh => hk k (hh.resolve_left id)).mono (fun k h => h.1) fun _ h => h, fun h0 b hb => ⟨h3 h0 b hb, h1.lt h0 hb⟩⟩
theorem RdS.mono (h : RdS E w Z v xs) (hZ : ∀ k, Z k → Y k) : RdS E w Y v xs := by
  obtain ⟨us, h1, h2, h3⟩ := h
  exact ⟨us, h1, h2.mono (fun _ h => h) hZ, fun h0 b e => hZ b (h3 h0 b e)⟩
theorem RdS.keep (h : RdS E w Z v xs) (hs : w.heap.size ≤ w'.heap.size) (hk : ∀ k, Z k → k < w.heap.size → w'.heap[k]? = w.heap[k]?) : RdS E w' Z v xs := (h.stay hs hk).mono fun _ h => h.1
theorem RdS.below (h : RdS E w Z v xs) (hb : Below w.heap.size w w') : RdS E w' Z v xs := h.keep hb.size fun k _ hl => hb.block k hl
theorem RdS.nil (E : El α) (w : World) (Z : BS) : RdS E w Z (.slice none 0 0) [] :=
  ⟨[], ⟨by simp, none, 0, rfl, Nat.le_refl _, Nat.zero_le _, fun _ => ⟨rfl, rfl⟩, fun b hb => by cases hb⟩, rfl, fun h => by simp at h⟩
theorem RdS.shape (h : RdS E w Z v xs) : ∃ a cap, v = .slice a xs.length cap ∧ xs.length ≤ cap ∧ cap ≤ maxLen := by
  obtain ⟨us, ⟨_, a, cap, e, h1, h2, _⟩, _⟩ := h; exact ⟨a, cap, e, h1, h2⟩
/-- element i -/
theorem RdS.at {a : Option Addr} {n c : Nat} (h : RdS E w Z (.slice a n c) xs) (hpos : 0 < E.size) {i : Nat} {x : α} (hi : xs[i]? = some x) :
    ∃ b off cs, a = some ⟨b, off, none⟩ ∧ Z b ∧ E.rd w (fun _ => False) Z cs x ∧ ∀ j u, cs[j]? = some u → w.cell? ⟨b, off + i * E.size + j, none⟩ = some u := by
  obtain ⟨us, ⟨hl, a', cap, e, h1, h2, h3, h4⟩, h5, h6⟩ := h
  obtain ⟨rfl, rfl, rfl⟩ : a = a' ∧ n = xs.length ∧ c = cap := by simpa using e
  obtain ⟨cs, A, hr, hA, hc⟩ := h5.get hi
  have hil := lt_of_get hi
  have hul : 0 < us.length := by rw [hl]; exact Nat.mul_pos (by omega) hpos
  cases a with
  | none => have := (h3 rfl).1; omega
  | some b =>
    obtain ⟨b, off, spot⟩ := b
    have hcl := E.len hr
    have h0 : cs[0]? = some cs[0] := List.getElem?_eq_getElem (by omega)
    obtain rfl : spot = none := (h4 _ rfl _ _ ((hc 0 hpos).trans h0)).1
    refine ⟨b, off, cs, rfl, h6 hul b rfl, E.mono hr hA fun _ h => h, fun j u hj => ?_⟩
    have hjl : j < E.size := by rw [← hcl]; exact lt_of_get hj
    have := (h4 _ rfl _ _ ((hc j hjl).trans hj)).2
    rw [← Nat.add_assoc] at this; exact this
/-- v[:k] -/
theorem RdS.take {a : Option Addr} {n c : Nat} (h : RdS E w Z (.slice a n c) xs) {k : Nat} (hk : k ≤ n) : RdS E w Z (.slice a k c) (xs.take k) := by
  obtain ⟨us, ⟨hl, a', cap, e, h1, h2, h3, h4⟩, h5, h6⟩ := h
  obtain ⟨rfl, rfl, rfl⟩ : a = a' ∧ n = xs.length ∧ c = cap := by simpa using e
  have hlt : (xs.take k).length = k := by rw [List.length_take]; omega
  have hul : (us.take (k * E.size)).length = k * E.size := by rw [List.length_take, hl]; exact Nat.min_eq_left (Nat.mul_le_mul_right _ hk)
  refine ⟨us.take (k * E.size), ⟨by rw [hul, hlt], a, c, by rw [hlt], by omega, h2, fun e => ?_, fun b hb j u hj => h4 b hb j u ?_⟩, h5.take k, fun h0 b hb => h6 (by rw [List.length_take] at h0; omega) b (by cases a <;> exact hb)⟩
  · have := h3 e; omega
  · rw [List.getElem?_take] at hj
    split at hj
    · exact hj
    · cases hj
end
/-- a list in a slice that its owner may append to, cut and write: the array in K, what the elements own in D -/
def Sq {α : Type} (E : El α) (T : TypeId) (w : World) (F Z : BS) (v : Value) (xs : List α) : Prop :=
  ∃ K D us, (∀ k, K k ∨ D k → F k) ∧ Dj K D ∧ (∀ k, K k → k < w.heap.size) ∧ Sl w K T E.size v xs.length us ∧ Els E w D Z us xs
section
variable {α : Type} {E : El α} {T : TypeId} {w w' : World} {F G Z Y : BS} {v : Value} {xs : List α}
theorem Sq.keep (h : Sq E T w F Z v xs) (hs : w.heap.size ≤ w'.heap.size) (hk : ∀ k, F k ∨ Z k → k < w.heap.size → w'.heap[k]? = w.heap[k]?) : Sq E T w' (fun k => F k ∧ k < w.heap.size) (fun k => Z k ∧ k < w.heap.size) v xs := by
  obtain ⟨K, D, us, h1, h2, hK, h3, h4⟩ := h
  exact ⟨K, fun k => D k ∧ k < w.heap.size, us, fun k hkd => hkd.elim (fun h => ⟨h1 k (.inl h), hK k h⟩) fun h => ⟨h1 k (.inr h.1), h.2⟩, fun k a b => h2 k a b.1, fun k h => Nat.lt_of_lt_of_le (hK k h) hs, h3.keep fun k h hl => hk k (.inl (h1 k (.inl h))) hl,
    h4.keep hs fun k hh => hk k (hh.imp (fun h => h1 k (.inr h)) id)⟩
theorem Sq.mono (h : Sq E T w F Z v xs) (hG : ∀ k, F k → G k) (hZ : ∀ k, Z k → Y k) : Sq E T w G Y v xs := by
  obtain ⟨K, D, us, h1, h2, hK, h3, h4⟩ := h
  exact ⟨K, D, us, fun k hkd => hG k (h1 k hkd), h2, hK, h3, h4.mono (fun _ h => h) hZ⟩
theorem Sq.stay (h : Sq E T w F Z v xs) (hs : w.heap.size ≤ w'.heap.size) (hk : ∀ k, F k ∨ Z k → k < w.heap.size → w'.heap[k]? = w.heap[k]?) : Sq E T w' F Z v xs := (h.keep hs hk).mono (fun _ h => h.1) fun _ h => h.1
theorem Sq.nil (E : El α) (T : TypeId) (w : World) (F Z : BS) : Sq E T w F Z (.slice none 0 0) [] :=
  ⟨fun _ => False, fun _ => False, [], fun _ h => by rcases h with h | h <;> exact h.elim, fun _ h => h.elim, fun _ h => h.elim, Sl.nil _ _ _ _, rfl⟩
theorem Sq.shape (h : Sq E T w F Z v xs) : ∃ a cap, v = .slice a xs.length cap := by obtain ⟨K, D, us, _, _, _, h3, _⟩ := h; exact h3.shape
theorem Sq.le (h : Sq E T w F Z v xs) : ∃ a cap, v = .slice a xs.length cap ∧ xs.length ≤ cap ∧ cap ≤ maxLen ∧ (a = none → xs.length = 0 ∧ cap = 0) := by
  obtain ⟨K, D, us, _, _, _, h3, _⟩ := h
  obtain ⟨_, a, cap, e, h1, h2, h4, _⟩ := h3.rd
  exact ⟨a, cap, e, h1, h2, h4⟩
/-- element i, to read -/
theorem Sq.at {a : Option Addr} {n c : Nat} (h : Sq E T w F Z (.slice a n c) xs) (_ : 0 < E.size) {i : Nat} {x : α} (hi : xs[i]? = some x) :
    ∃ b off cs A, a = some ⟨b, off, none⟩ ∧ F b ∧ E.rd w A Z cs x ∧ (∀ k, A k → F k) ∧ ∀ j u, cs[j]? = some u → w.cell? ⟨b, off + i * E.size + j, none⟩ = some u := by
  obtain ⟨K, D, us, h1, h2, hK, h3, h4⟩ := h
  obtain ⟨cs, A, hr, hA, hc⟩ := h4.get hi
  have hil := lt_of_get hi
  obtain ⟨g, off, cap, e, hg, _⟩ := h3.head (by omega)
  obtain ⟨rfl, rfl, rfl⟩ : a = some ⟨g, off, none⟩ ∧ n = xs.length ∧ c = cap := by simpa using e
  refine ⟨g, off, cs, A, rfl, h1 g (.inl hg), hr, fun k h => h1 k (.inr (hA k h)), fun j u hj => ?_⟩
  have hjl : j < E.size := by rw [← E.len hr]; exact lt_of_get hj
  have := h3.cell (i * E.size + j) u ((hc j hjl).trans hj)
  rw [← Nat.add_assoc] at this; exact this
/-- v[k:] -/
theorem Sq.drop {a : Option Addr} {n c : Nat} (h : Sq E T w F Z (.slice a n c) xs) {k : Nat} (h0 : 0 < k) (hk : k ≤ xs.length) :
    ∃ g off, a = some ⟨g, off, none⟩ ∧ n = xs.length ∧ xs.length ≤ c ∧ Sq E T w F Z (.slice (if c = k then some ⟨g, off, none⟩ else some ⟨g, off + k * E.size, none⟩) (xs.length - k) (c - k)) (xs.drop k) := by
  obtain ⟨K, D, us, h1, h2, hK, h3, h4⟩ := h
  obtain ⟨g, off, cap, e, _, hc⟩ := h3.head (by omega)
  obtain ⟨rfl, rfl, rfl⟩ : a = some ⟨g, off, none⟩ ∧ n = xs.length ∧ c = cap := by simpa using e
  refine ⟨g, off, rfl, rfl, hc, K, D, us.drop (k * E.size), h1, h2, hK, ?_, h4.drop k⟩
  rw [List.length_drop]
  exact h3.dropG hk
/-- behind an append of ys: w2 is the world behind it, w1 the one just before; what ys lead to is new, or lies in the pool -/
theorem Sq.snoc {w1 w2 : World} {K D N : BS} {us news : List Value} {ys : List α} {u2 : Value} (hKD : ∀ k, K k ∨ D k → F k) (hdj : Dj K D) (hKs : ∀ k, K k → k < w.heap.size) (hKZ : Dj K Z) (hk : Els E w D Z us xs)
    (hz : w.heap.size ≤ w1.heap.size) (hd : Els E w2 N Y news ys) (hN : ∀ k, N k → w.heap.size ≤ k ∧ k < w1.heap.size) (hsl : Sl w2 (fun k => K k ∨ w1.heap.size ≤ k) T E.size u2 (xs.length + ys.length) (us ++ news)) (hF : Fr K w w2) (hz2 : w1.heap.size ≤ w2.heap.size) (hZY : ∀ k, Z k → k < w.heap.size → Y k) :
    Sq E T w2 (fun k => F k ∨ w.heap.size ≤ k) Y u2 (xs ++ ys) := by
  refine ⟨fun k => (K k ∨ w1.heap.size ≤ k) ∧ k < w2.heap.size, fun k => (D k ∧ k < w.heap.size) ∨ N k, us ++ news, ?_, ?_, fun k h => h.2, ?_, ?_⟩
  · rintro k (⟨h | h, h'⟩ | h | h)
    · exact .inl (hKD k (.inl h))
    · exact .inr (by omega)
    · exact .inl (hKD k (.inr h.1))
    · exact .inr (hN k h).1
  · rintro k ⟨h | h, h0⟩ (h' | h')
    · exact hdj k h h'.1
    · have := hKs k h; have := (hN k h').1; omega
    · omega
    · have := (hN k h').2; omega
  · rw [List.length_append]; exact hsl.bound
  · refine ((hk.keep (Nat.le_trans hz hz2) fun k hh hl => hF.block k hl fun h => hh.elim (fun d => hdj k h d) fun z => hKZ k h z).mono (fun _ h => h) fun k h => hZY k h.1 h.2).append hd (fun k a b => ?_) (fun k h => .inl h) fun k h => .inr h
    have := (hN k b).1; omega
/-- to give up writing -/
theorem Sq.rd (h : Sq E T w F Z v xs) (hc : ∀ {A B cs a}, E.rd w A B cs a → E.rd w (fun _ => False) (fun k => A k ∨ B k) cs a) : RdS E w (fun k => F k ∨ Z k) v xs := by
  obtain ⟨K, D, us, h1, h2, hK, h3, h4⟩ := h
  refine ⟨us, h3.rd, ?_, fun h0 b hb => ?_⟩
  · have hD := fun k (d : D k) => h1 k (.inr d)
    clear h1 h2 hK h3
    induction xs generalizing us D with
    | nil => exact h4
    | cons a xs ih =>
      obtain ⟨cs, rest, A, B, e, g1, g2, g3, q1, q2⟩ := h4
      exact ⟨cs, rest, _, _, e, fun _ h => h, fun _ h => h, fun _ f => f.elim, E.mono (hc q1) (fun _ h => h) (fun k h => h.imp (fun h => hD k (g1 k h)) id), ih B rest q2 fun k h => hD k (g2 k h)⟩
  · obtain ⟨_, ⟨rfl, _⟩ | ⟨g, off, cap, cur, rfl, hK, _⟩⟩ := h3
    · cases hb
    · obtain rfl : g = b := by simpa [Value.ownBlock] using hb
      exact .inl (h1 g (.inl hK))
end
/-- slices as elements: read-only, and owned -/
def eRd {α : Type} (E : El α) : El (List α) where
  size := 1
  rd w _ Z cs xs := ∃ v, cs = [v] ∧ RdS E w Z v xs
  len h := by obtain ⟨v, h, _⟩ := h; rw [h]; rfl
  keep h hs hk := by obtain ⟨v, e, h⟩ := h; exact ⟨v, e, h.stay hs fun k hz => hk k (.inr hz)⟩
  mono h _ hZ := by obtain ⟨v, e, h⟩ := h; exact ⟨v, e, h.mono hZ⟩
  one h u hu := by
    obtain ⟨v, rfl, h⟩ := h
    obtain ⟨a, c, rfl, _⟩ := h.shape
    obtain rfl : u = _ := List.mem_singleton.1 hu
    rfl
def eSq {α : Type} (E : El α) (T : TypeId) : El (List α) where
  size := 1
  rd w F Z cs xs := ∃ v, cs = [v] ∧ Sq E T w F Z v xs
  len h := by obtain ⟨v, h, _⟩ := h; rw [h]; rfl
  keep h hs hk := by obtain ⟨v, e, h⟩ := h; exact ⟨v, e, h.keep hs hk⟩
  mono h hF hZ := by obtain ⟨v, e, h⟩ := h; exact ⟨v, e, h.mono hF hZ⟩
  one h u hu := by
    obtain ⟨v, rfl, h⟩ := h
    obtain ⟨a, c, rfl⟩ := h.shape
    obtain rfl : u = _ := List.mem_singleton.1 hu
    rfl
/-- an object behind a pointer: its block, and what its cells lead to -/
def Ob {α : Type} (E : El α) (T : TypeId) (p : Nat) (a : α) (w : World) (F Z : BS) : Prop := F p ∧ ∃ cs, w.heap[p]? = some (.cells cs T (0, 0)) ∧ E.rd w (fun k => F k ∧ k ≠ p) Z cs.toList a
theorem Ob.keep {α : Type} {E : El α} {T : TypeId} {p : Nat} {a : α} {w w' : World} {F Z : BS} (h : Ob E T p a w F Z) (hs : w.heap.size ≤ w'.heap.size) (hk : ∀ k, F k ∨ Z k → k < w.heap.size → w'.heap[k]? = w.heap[k]?) : Ob E T p a w' (fun k => F k ∧ k < w.heap.size) (fun k => Z k ∧ k < w.heap.size) := by
  obtain ⟨h1, cs, h2, h3⟩ := h
  have hl := lt_of_block h2
  exact ⟨⟨h1, hl⟩, cs, (hk p (.inl h1) hl).trans h2, E.mono (E.keep h3 hs fun k hh => hk k (hh.imp (·.1) id)) (fun k h => ⟨⟨h.1.1, h.2⟩, h.1.2⟩) fun _ h => h⟩
theorem Ob.mono {α : Type} {E : El α} {T : TypeId} {p : Nat} {a : α} {w : World} {F Z G Y : BS} (h : Ob E T p a w F Z) (hF : ∀ k, F k → G k) (hZ : ∀ k, Z k → Y k) : Ob E T p a w G Y := by
  obtain ⟨h1, cs, h2, h3⟩ := h
  exact ⟨hF p h1, cs, h2, E.mono h3 (fun k h => ⟨hF k h.1, h.2⟩) hZ⟩
def tOb {α : Type} (E : El α) (T : TypeId) (p : Nat) (a : α) : Th := ⟨Ob E T p a, Ob.keep, Ob.mono⟩
def tSq {α : Type} (E : El α) (T : TypeId) (v : Value) (xs : List α) : Th := ⟨fun w F Z => Sq E T w F Z v xs, Sq.keep, Sq.mono⟩
def tRd {α : Type} (E : El α) (v : Value) (xs : List α) : Th := ⟨fun w _ Z => RdS E w Z v xs, fun h hs hk => h.stay hs fun k hz => hk k (.inr hz), fun h _ hZ => h.mono hZ⟩
def tBy (v : Value) (bs : List (BitVec 8)) : Th := ⟨fun w _ Z => ByZ w Z v bs, fun h _ hk => h.stay fun k hz => hk k (.inr hz), fun h _ hZ => h.mono hZ⟩
end Go.Proofs.Ytbibippdafnenaa

/- Reading: what a list of cells holds, as data of Lean's own, to the bottom; how an argument's reading gives it. No condition on the program. -/
namespace Go.Proofs.Ytbibippdafnenaa
open Go.ChangeShapes Go.WideShapes Go.ChangeAt Go.RowKit

/-- a way to read cells: how many, what they say, and that this rests on old blocks alone -/
structure R (α : Type) where
  size : Nat
  rd : World → List Value → α → Prop
  len : ∀ {w cs a}, rd w cs a → cs.length = size
  keep : ∀ {w w' cs a}, rd w cs a → (∀ k, k < w.heap.size → w'.heap[k]? = w.heap[k]?) → rd w' cs a
def rInt (k : IntKind) : R Int where
  size := 1
  rd _ cs n := cs = [.int k n] ∧ (Lit.int k n).wf = true
  len h := by rw [h.1]; rfl
  keep h _ := h
def rBool : R Bool where
  size := 1
  rd _ cs b := cs = [.bool b]
  len h := by rw [h]; rfl
  keep h _ := h
def rStr : R ByteArray where
  size := 1
  rd _ cs s := cs = [.string s] ∧ s.size ≤ maxLen
  len h := by rw [h.1]; rfl
  keep h _ := h
def rBytes : R (List (BitVec 8)) where
  size := 1
  rd w cs bs := ∃ v, cs = [v] ∧ By w v bs
  len h := by obtain ⟨v, h, _⟩ := h; rw [h]; rfl
  keep h k := by obtain ⟨v, h, h'⟩ := h; exact ⟨v, h, Rd.keep h' fun b _ hl => k b hl⟩
def rPair {α β : Type} (r : R α) (s : R β) : R (α × β) where
  size := r.size + s.size
  rd w cs a := ∃ c1 c2, cs = c1 ++ c2 ∧ r.rd w c1 a.1 ∧ s.rd w c2 a.2
  len h := by obtain ⟨c1, c2, rfl, h1, h2⟩ := h; rw [List.length_append, r.len h1, s.len h2]
  keep h k := by obtain ⟨c1, c2, e, h1, h2⟩ := h; exact ⟨c1, c2, e, r.keep h1 k, s.keep h2 k⟩
def rMap {α β : Type} (r : R α) (f : α → β) : R β where
  size := r.size
  rd w cs b := ∃ a, r.rd w cs a ∧ f a = b
  len h := by obtain ⟨a, h, _⟩ := h; exact r.len h
  keep h k := by obtain ⟨a, h, e⟩ := h; exact ⟨a, r.keep h k, e⟩
/-- the cells from an address on -/
def At (w : World) (b off : Nat) (cs : List Value) : Prop := ∀ j u, cs[j]? = some u → w.cell? ⟨b, off + j, none⟩ = some u
theorem At.keep {w w' : World} {b off : Nat} {cs : List Value} (h : At w b off cs) (k : ∀ k, k < w.heap.size → w'.heap[k]? = w.heap[k]?) : At w' b off cs := fun j u hj => by
  have hc := h j u hj
  exact (World.cell?_of_block (a := ⟨b, off + j, none⟩) (k b (World.block_lt_of_cell? w _ hc))).trans hc
def rSlice {α : Type} (r : R α) : R (List α) where
  size := 1
  rd w cs xs := ∃ a cap, cs = [.slice a xs.length cap] ∧ xs.length ≤ cap ∧ cap ≤ maxLen ∧ (a = none → cap = 0) ∧
    ∀ i x, xs[i]? = some x → ∃ b off us, a = some ⟨b, off, none⟩ ∧ At w b (off + i * r.size) us ∧ r.rd w us x
  len h := by obtain ⟨a, cap, h, _⟩ := h; rw [h]; rfl
  keep h k := by
    obtain ⟨a, cap, e, h1, h2, h3, h4⟩ := h
    refine ⟨a, cap, e, h1, h2, h3, fun i x hx => ?_⟩
    obtain ⟨b, off, us, e, h5, h6⟩ := h4 i x hx
    exact ⟨b, off, us, e, h5.keep k, r.keep h6 k⟩

section
variable {H : Type} {enc : TypeId × Value → H} {P : Program} {W : World}
/-- every datum of type t that can be read is read by r -/
def Opens (enc : TypeId × Value → H) (P : Program) (W : World) {α : Type} (t : TypeId) (r : R α) : Prop :=
  P.cellsOf t = r.size ∧ ∀ fuel cs x, DataW.trod enc P W 0 (fun _ => true) true fuel t cs = some x → ∃ a, r.rd W cs a
theorem opens_int {t : TypeId} {k : IntKind} (ht : P.underlying t = some (.int k)) (hc : P.cellsOf t = 1) : Opens enc P W t (rInt k) :=
  ⟨hc, fun fuel cs x h => by obtain ⟨n, e, _, hw⟩ := DataW.trod_int ht h; exact ⟨n, e, hw⟩⟩
theorem opens_bool {t : TypeId} (ht : P.underlying t = some .bool) (hc : P.cellsOf t = 1) : Opens enc P W t rBool :=
  ⟨hc, fun fuel cs x h => by obtain ⟨n, e, _⟩ := DataW.trod_bool ht h; exact ⟨n, e⟩⟩
theorem opens_str {t : TypeId} (ht : P.underlying t = some .string) (hc : P.cellsOf t = 1) : Opens enc P W t rStr :=
  ⟨hc, fun fuel cs x h => by obtain ⟨n, e, _, hw⟩ := DataW.trod_string ht h; exact ⟨n, e, hw⟩⟩
theorem opens_map {α β : Type} {t : TypeId} {r : R α} (h : Opens enc P W t r) (f : α → β) : Opens enc P W t (rMap r f) :=
  ⟨h.1, fun fuel cs x hx => by obtain ⟨a, ha⟩ := h.2 fuel cs x hx; exact ⟨f a, a, ha, rfl⟩⟩
theorem choose_list {α : Type} {p : Nat → α → Prop} : ∀ n, (∀ i, i < n → ∃ a, p i a) → ∃ l : List α, l.length = n ∧ ∀ i a, l[i]? = some a → p i a
  | 0, _ => ⟨[], rfl, fun i a h => by simp at h⟩
  | n + 1, h => by
    obtain ⟨l, hl, h1⟩ := choose_list n fun i hi => h i (by omega)
    obtain ⟨a, ha⟩ := h n (by omega)
    refine ⟨l ++ [a], by simp [hl], fun i b hb => ?_⟩
    rw [List.getElem?_append] at hb
    split at hb
    · exact h1 i b hb
    · have : i - l.length = 0 := by
        rcases Nat.eq_zero_or_pos (i - l.length) with h | h
        · exact h
        · rw [List.getElem?_eq_none (by simp; omega)] at hb; cases hb
      rw [this] at hb
      obtain rfl : a = b := by simpa using hb
      obtain rfl : i = n := by omega
      exact ha
theorem opens_slice {α : Type} {t e : TypeId} {r : R α} (ht : P.underlying t = some (.slice e)) (hc : P.cellsOf t = 1) (he : Opens enc P W e r) (hpos : 0 < r.size) : Opens enc P W t (rSlice r) := by
  refine ⟨hc, fun fuel cs x h => ?_⟩
  rcases Go.Deep.open_slice ht h with ⟨rfl, rfl⟩ | ⟨a, len, cap, m, n, D, Pl, rfl, hb, hl, hm, hmm, rfl, hx⟩
  · exact ⟨[], none, 0, rfl, Nat.le_refl _, Nat.zero_le _, fun _ => rfl, fun i x h => by cases h⟩
  · simp only [if_true] at hmm
    obtain rfl : m = cap := hmm
    have hs0 : 0 < len → a.spot = none := fun hl0 => by
      obtain ⟨us, h1, h2⟩ := hx 0 (by omega)
      obtain ⟨_, hlen, hcell⟩ := World.cells?_some h1
      have h0 := hcell 0 (by rw [he.1]; exact hpos)
      rw [List.getElem?_eq_getElem (by rw [hlen, he.1]; exact hpos)] at h0
      have := World.cell?_spot h0
      simpa [Addr.add] using this
    obtain ⟨xs, hxl, hxs⟩ := choose_list (p := fun i x => ∃ us, a.spot = none ∧ At W a.block (a.off + i * r.size) us ∧ r.rd W us x) len fun i hi => by
      obtain ⟨us, h1, h2⟩ := hx i (by omega)
      obtain ⟨x, hx⟩ := he.2 _ _ _ h2
      obtain ⟨_, hlen, hcell⟩ := World.cells?_some h1
      rw [he.1] at hcell hlen
      have hs := hs0 (by omega)
      refine ⟨x, us, hs, fun j u hj => ?_, hx⟩
      have hj' : j < r.size := by
        rw [← hlen]
        rcases Nat.lt_or_ge j us.length with h | h
        · exact h
        · rw [List.getElem?_eq_none h] at hj; cases hj
      have h0 := hcell j hj'
      rw [hj, add_eq a _ hs, add_eq _ _ rfl] at h0
      exact h0
    refine ⟨xs, some a, m, by rw [hxl], by omega, hm, (fun e => by cases e), fun i x hi => ?_⟩
    obtain ⟨us, hs, h1, h2⟩ := hxs i x hi
    obtain ⟨b, off, spot⟩ := a
    obtain rfl : spot = none := hs
    exact ⟨b, off, us, rfl, h1, h2⟩
theorem opens_bytes {t e : TypeId} (ht : P.underlying t = some (.slice e)) (hc : P.cellsOf t = 1) (he : P.underlying e = some (.int .u8)) (hce : P.cellsOf e = 1) : Opens enc P W t rBytes := by
  refine ⟨hc, fun fuel cs x h => ?_⟩
  obtain ⟨xs, hx⟩ := (opens_slice (enc := enc) (W := W) ht hc (opens_int he hce) (by decide)).2 fuel cs x h
  obtain ⟨a, cap, rfl, h1, h2, h3, h4⟩ := hx
  have hwz : ∀ n ∈ xs, (Lit.int .u8 n).wf = true := fun n hn => by
    obtain ⟨i, hi⟩ := List.getElem?_of_mem hn
    obtain ⟨_, _, _, _, _, _, hw⟩ := h4 i n hi
    exact hw
  obtain ⟨bs, rfl⟩ := bytes_of hwz
  refine ⟨bs, _, rfl, ⟨by rw [cu_length, Nat.mul_one], a, cap, by rw [List.length_map], by simpa using h1, h2, fun e => ?_, fun b hb j u hj => ?_⟩⟩
  · have := h3 e; rw [List.length_map] at h1; exact ⟨by omega, this⟩
  · rw [cu, List.getElem?_map] at hj
    cases hx : bs[j]? with
    | none => rw [hx] at hj; cases hj
    | some y =>
      rw [hx] at hj
      obtain rfl := Option.some.inj hj
      obtain ⟨b', off, us, e, hat, rfl, _⟩ := h4 j (U y) (by rw [List.getElem?_map, hx]; rfl)
      obtain rfl : b = ⟨b', off, none⟩ := Option.some.inj (hb.symm.trans e)
      refine ⟨rfl, ?_⟩
      have := hat 0 _ rfl
      simpa [rInt] using this
/-- the fields of a struct, one behind another from place off on -/
inductive OpensF (enc : TypeId × Value → H) (P : Program) (W : World) : (off : Nat) → List Field → {α : Type} → R α → Prop
  | one {off : Nat} {f : Field} {α : Type} {r : R α} (h : Opens enc P W f.type r) (ho : f.offset = off) : OpensF enc P W off [f] r
  | cons {off : Nat} {f : Field} {fs : List Field} {α β : Type} {r : R α} {s : R β} (h : Opens enc P W f.type r) (ho : f.offset = off) (hs : OpensF enc P W (off + r.size) fs s) : OpensF enc P W off (f :: fs) (rPair r s)
theorem OpensF.reads {off : Nat} {fs : List Field} {α : Type} {r : R α} (h : OpensF enc P W off fs r) : ∀ (n : Nat) (cs : List Value), cs.length = off + r.size → (∀ f ∈ fs, ∃ x, DataW.trod enc P W 0 (fun _ => true) true n f.type ((cs.drop f.offset).take (P.cellsOf f.type)) = some x) →
    ∃ a, r.rd W (cs.drop off) a := by
  induction h with
  | one h ho =>
    intro n cs hl hf
    obtain ⟨x, hx⟩ := hf _ (List.mem_singleton.2 rfl)
    rw [ho, h.1, List.take_of_length_le (by rw [List.length_drop]; omega)] at hx
    exact h.2 _ _ _ hx
  | @cons off f fs α β r s h ho hs ih =>
    intro n cs hl hf
    have hl' : cs.length = off + (r.size + s.size) := hl
    obtain ⟨x, hx⟩ := hf _ (List.mem_cons_self)
    rw [ho, h.1] at hx
    obtain ⟨a, ha⟩ := h.2 _ _ _ hx
    obtain ⟨b, hb⟩ := ih n cs (by omega) fun g hg => hf g (List.mem_cons_of_mem _ hg)
    refine ⟨(a, b), (cs.drop off).take r.size, (cs.drop (off + r.size)), ?_, ha, hb⟩
    rw [← List.drop_drop, List.take_append_drop]
theorem opens_struct {t : TypeId} {fs : Array Field} {α : Type} {r : R α} (ht : P.underlying t = some (.struct fs)) (hc : P.cellsOf t = r.size) (h : OpensF enc P W 0 fs.toList r) : Opens enc P W t r := by
  refine ⟨hc, fun fuel cs x hx => ?_⟩
  obtain ⟨xs, n, rfl, _, hlen, hxl, hf⟩ := DataW.trod_struct ht hx
  have := h.reads n cs (by rw [hlen, hc, Nat.zero_add]) fun f hm => by
    obtain ⟨i, hi⟩ := List.getElem?_of_mem hm
    have hi' : fs[i]? = some f := by simpa using hi
    have hlt : i < xs.length := by
      rw [hxl]
      rcases Nat.lt_or_ge i fs.size with h | h
      · exact h
      · rw [Array.getElem?_eq_none h] at hi'; cases hi'
    exact ⟨xs[i], by rw [hf i f hi', List.getElem?_eq_getElem hlt]⟩
  simpa using this
/-- an argument that is read by r -/
def IsR {α : Type} (r : R α) (W : World) (v : Value) : Prop := ∃ a, r.rd W v.cells.toList a
theorem open_isR {α : Type} {t : TypeId} {v : Value} {d : DataW H} {ps : List MemPlace} {r : R α} (h : Opens enc P W t r) (hd : DataW.Trod enc P W 0 (fun _ => true) true t v d ps) : IsR r W v := by
  obtain ⟨fuel, hf⟩ := hd
  exact h.2 _ _ _ hf
end
/-- an argument that is a slice, read by r -/
def IsSl {α : Type} (r : R α) (W : World) (v : Value) : Prop := ∃ xs, (rSlice r).rd W [v] xs
theorem open_isSl {H : Type} {enc : TypeId × Value → H} {P : Program} {W : World} {α : Type} {t e : TypeId} {v : Value} {d : DataW H} {ps : List MemPlace} {r : R α} {q : Reach} {base : Nat} (ht : P.underlying t = some (.slice e)) (h : Opens enc P W t (rSlice r))
    (hval : Value.okWide P W q base t v) (hd : DataW.Trod enc P W 0 (fun _ => true) true t v d ps) : IsSl r W v := by
  obtain ⟨a, len, cap, rfl⟩ := okWide_slice ht hval
  obtain ⟨xs, hx⟩ := open_isR h hd
  exact ⟨xs, hx⟩
/-- a value of one cell is that cell -/
theorem one_cell {v u : Value} {W : World} {P : Program} {r : Reach} {base : Nat} {t : TypeId} (h : v.cells.toList = [u]) (hv : Value.okWide P W r base t v) (ht : ∀ cs, v ≠ .agg cs) : v = u := by
  cases v <;> first | (simp [Value.cells] at h; exact h) | exact absurd rfl (ht _)
end Go.Proofs.Ytbibippdafnenaa

/- What an argument's reading gives, in the words of elements: everything old is the pool. No condition on the program. -/
namespace Go.Proofs.Ytbibippdafnenaa
open Go.RowKit

/-- the blocks that are there -/
def Old (W : World) : BS := fun k => k < W.heap.size
theorem At.cons {w : World} {b off : Nat} {cs ds : List Value} (h : At w b off cs) (k : At w b (off + cs.length) ds) : At w b off (cs ++ ds) := fun j u hj => by
  rw [List.getElem?_append] at hj
  split at hj
  · exact h j u hj
  · have := k _ u hj
    rwa [show off + cs.length + (j - cs.length) = off + j by omega] at this
theorem els_of {α : Type} {r : R α} {E : El α} (hsz : r.size = E.size) {W : World} (hr : ∀ cs a, r.rd W cs a → E.rd W (fun _ => False) (Old W) cs a) {b : Nat} : ∀ (xs : List α) (o : Nat), (∀ (i : Nat) x, xs[i]? = some x → ∃ us, At W b (o + i * r.size) us ∧ r.rd W us x) → ∃ vs, At W b o vs ∧ Els E W (fun _ => False) (Old W) vs xs
  | [], o, _ => ⟨[], fun j u h => by simp at h, rfl⟩
  | a :: xs, o, h => by
    obtain ⟨us, h1, h2⟩ := h 0 a rfl
    obtain ⟨vs, h3, h4⟩ := els_of hsz hr xs (o + r.size) fun i x hx => by
      obtain ⟨us, h5, h6⟩ := h (i + 1) x (by simpa using hx)
      exact ⟨us, by rwa [show o + r.size + i * r.size = o + (i + 1) * r.size by rw [Nat.add_mul]; omega], h6⟩
    have hl := r.len h2
    refine ⟨us ++ vs, At.cons (by simpa using h1) (by rw [hl]; exact h3), us, vs, fun _ => False, fun _ => False, rfl, fun _ f => f, fun _ f => f, fun _ f => f.elim, hr _ _ h2, h4⟩
theorem rdS_of {α : Type} {r : R α} {E : El α} (hsz : r.size = E.size) (_ : 0 < r.size) {W : World} (hr : ∀ cs a, r.rd W cs a → E.rd W (fun _ => False) (Old W) cs a) {v : Value} {xs : List α} (h : (rSlice r).rd W [v] xs) : RdS E W (Old W) v xs := by
  obtain ⟨a, cap, e, h1, h2, h3, h4⟩ := h
  obtain rfl : v = .slice a xs.length cap := by simpa using e
  cases a with
  | none =>
    have := h3 rfl
    have hx : xs = [] := List.eq_nil_of_length_eq_zero (by omega)
    subst hx
    exact ⟨[], ⟨by simp, none, cap, rfl, h1, h2, fun _ => ⟨rfl, this⟩, fun b hb => by cases hb⟩, rfl, fun h => by simp at h⟩
  | some ad =>
    by_cases h0 : xs = []
    · subst h0
      exact ⟨[], ⟨by simp, some ad, cap, rfl, h1, h2, (fun e => by cases e), fun b hb j u hj => by simp at hj⟩, rfl, fun h => by simp at h⟩
    · obtain ⟨x0, hx0⟩ : ∃ x, xs[0]? = some x := by cases xs with
        | nil => exact absurd rfl h0
        | cons a l => exact ⟨a, rfl⟩
      obtain ⟨b, off, us, e, _, _⟩ := h4 0 x0 hx0
      obtain rfl : ad = ⟨b, off, none⟩ := Option.some.inj e
      obtain ⟨vs, h5, h6⟩ := els_of hsz hr (b := b) xs off fun i x hx => by
        obtain ⟨b', off', us, e, h5, h6⟩ := h4 i x hx
        obtain ⟨rfl, rfl⟩ : b = b' ∧ off = off' := by simpa using e
        exact ⟨us, h5, h6⟩
      have hrd : Rd W E.size (.slice (some ⟨b, off, none⟩) xs.length cap) xs.length vs := ⟨h6.length, _, cap, rfl, h1, h2, (fun e => by cases e), fun b' hb j u hj => by
          obtain rfl := Option.some.inj hb
          exact ⟨rfl, h5 j u hj⟩⟩
      exact ⟨vs, hrd, h6, fun h0 b' hb => hrd.lt h0 hb⟩
theorem byZ_of {W : World} {v : Value} {bs : List (BitVec 8)} (h : By W v bs) : ByZ W (Old W) v bs := ⟨h, fun h0 b hb => Rd.lt h (by rwa [cu_length]) hb⟩
theorem eBy_of {W : World} {cs : List Value} {bs : List (BitVec 8)} (h : rBytes.rd W cs bs) : eBy.rd W (fun _ => False) (Old W) cs bs := by obtain ⟨v, e, h⟩ := h; exact ⟨v, e, byZ_of h⟩
end Go.Proofs.Ytbibippdafnenaa

/- Blocks that a walk writes, cell by cell. No condition on the program. -/
namespace Go.Proofs.Ytbibippdafnenaa
open Go.RowKit

/-! what a walk has done to a block: stores and draws, one after another -/
theorem row_set {w : World} {p i : Nat} {cs : Array Value} {T : TypeId} {u : Value} (h : w.heap[p]? = some (.cells cs T (0, 0))) : (w.setCell ⟨p, i, none⟩ u).heap[p]? = some (.cells (cs.setIfInBounds i u) T (0, 0)) := heap_setCell_same w p i cs T u h
theorem row_drewN {w : World} {p n : Nat} {o : Option Obj} (h : w.heap[p]? = o) : (w.drewN n).heap[p]? = o := h
theorem row_drew {w : World} {p : Nat} {o : Option Obj} (h : w.heap[p]? = o) : w.drew.heap[p]? = o := h
theorem row_trans {w : World} {p : Nat} {cs cs' : Array Value} {T : TypeId} (h : w.heap[p]? = some (.cells cs T (0, 0))) (e : cs = cs') : w.heap[p]? = some (.cells cs' T (0, 0)) := by subst e; exact h
theorem row_alloc {w : World} {p : Nat} {o : Obj} (o' : Obj) (h : w.heap[p]? = some o) : (w.alloc o').heap[p]? = some o := (Below.heap_alloc w o' p (lt_of_block h)).trans h
theorem row_set_other {w : World} {p q i : Nat} {o : Option Obj} {u : Value} (hq : p ≠ q) (h : w.heap[p]? = o) : (w.setCell ⟨q, i, none⟩ u).heap[p]? = o := (heap_setCell_other w ⟨q, i, none⟩ p u hq).trans h
theorem alloc_cell (w : World) (o : Obj) {a : Addr} {v : Value} (h : w.cell? a = some v) : (w.alloc o).cell? a = some v :=
  (World.cell?_of_block (Below.heap_alloc w o _ (World.block_lt_of_cell? w _ h))).trans h
theorem Bw.alloc {w w' : World} (h : Below w.heap.size w w') (o : Obj) : Below w.heap.size w (w'.alloc o) := Below.alloc h h.size o
theorem Bw.drew {w w' : World} (h : Below w.heap.size w w') : Below w.heap.size w w'.drew := ⟨h.os, h.tape, h.output, h.size, h.block⟩
theorem Bw.drewN {w w' : World} (h : Below w.heap.size w w') (n : Nat) : Below w.heap.size w (w'.drewN n) := ⟨h.os, h.tape, h.output, h.size, h.block⟩
theorem Sl.drewN {w : World} {F : Nat → Prop} {e : TypeId} {size : Nat} {v : Value} {n : Nat} {us : List Value} (h : Sl w F e size v n us) (k : Nat) : Sl (w.drewN k) F e size v n us := h.keep fun _ _ _ => rfl
end Go.Proofs.Ytbibippdafnenaa

/- Slices written in place: an append that has room, clear. No condition on the program. -/
namespace Go.Proofs.Ytbibippdafnenaa
open Go.RowKit

/-- the cells with a piece written over -/
def over (cur : List Value) (o : Nat) (news : List Value) : List Value := cur.take o ++ news ++ cur.drop (o + news.length)
theorem over_length {cur news : List Value} {o : Nat} (h : o + news.length ≤ cur.length) : (over cur o news).length = cur.length := by
  unfold over; simp only [List.length_append, List.length_take, List.length_drop]; omega
theorem over_get {cur news : List Value} {o j : Nat} (h : o + news.length ≤ cur.length) : (over cur o news)[j]? = if j < o then cur[j]? else if j < o + news.length then news[j - o]? else cur[j]? := by
  unfold over
  have hl : (cur.take o).length = o := by rw [List.length_take]; omega
  by_cases h1 : j < o
  · rw [if_pos h1, List.getElem?_append_left (by rw [List.length_append, hl]; omega), List.getElem?_append_left (by omega), List.getElem?_take, if_pos h1]
  · rw [if_neg h1]
    by_cases h2 : j < o + news.length
    · rw [if_pos h2, List.getElem?_append_left (by rw [List.length_append, hl]; omega), List.getElem?_append_right (by omega), hl]
    · rw [if_neg h2, List.getElem?_append_right (by rw [List.length_append, hl]; omega), List.length_append, hl, List.getElem?_drop]
      congr 1; omega
/-- a piece that lies wholly before, or wholly behind -/
theorem over_apart {cur news : List Value} {o a n : Nat} (h : o + news.length ≤ cur.length) (hd : a + n ≤ o ∨ o + news.length ≤ a) : ((over cur o news).drop a).take n = (cur.drop a).take n := by
  apply List.ext_getElem?
  intro j
  rw [List.getElem?_take, List.getElem?_take]
  by_cases hj : j < n
  · rw [if_pos hj, if_pos hj, List.getElem?_drop, List.getElem?_drop, over_get h]
    rcases hd with hd | hd
    · rw [if_pos (by omega)]
    · rw [if_neg (by omega), if_neg (by omega)]
  · rw [if_neg hj, if_neg hj]
theorem over_same {cur news : List Value} {o : Nat} (h : o + news.length ≤ cur.length) : ((over cur o news).drop o).take news.length = news := by
  apply List.ext_getElem?
  intro j
  rw [List.getElem?_take]
  by_cases hj : j < news.length
  · rw [if_pos hj, List.getElem?_drop, over_get h, if_neg (by omega), if_pos (by omega)]; congr 1; omega
  · rw [if_neg hj, List.getElem?_eq_none (by omega)]
section
variable {P : Program}
/-- the world with a piece of a block written over -/
def wOver (w : World) (g : Nat) (cur : Array Value) (o : Nat) (news : List Value) : World := w.setRow g (over cur.toList o news).toArray
theorem over_row {w : World} {g : Nat} {cur : Array Value} {e : TypeId} (hg : w.heap[g]? = some (.cells cur e (0, 0))) (o : Nat) (news : List Value) : (wOver w g cur o news).heap[g]? = some (.cells (over cur.toList o news).toArray e (0, 0)) := setRow_heap w g cur _ e _ hg
theorem over_fr {w : World} {g : Nat} (cur : Array Value) (o : Nat) (news : List Value) : Fr (fun k => k = g) w (wOver w g cur o news) :=
  ⟨rfl, rfl, rfl, by simp [wOver], fun k _ hk => setRow_other w g k _ hk⟩
theorem run_append_here {t e : TypeId} {z : Value} {size bytes : Nat} (S : SlT P t e z size bytes) (w : World) (ty : TypeId) (g off n cap : Nat) (cur : Array Value) (hg : w.heap[g]? = some (.cells cur e (0, 0)))
    (a : Addr) (m c : Nat) (news : List Value) (hr : Rd w size (.slice (some a) m c) m news) (h1 : ∀ u ∈ news, u.oneCell' = true) (hroom : n + m ≤ cap) (hfit : off + cap * size ≤ cur.size) :
    (Builtin.append_ #[t, t] ty #[.slice (some ⟨g, off, none⟩) n cap, .slice (some a) m c]).run P w = .ok (.slice (some ⟨g, off, none⟩) (n + m) cap) (wOver w g cur (off + n * size) news) := by
  obtain ⟨i, hi, hz, rfl, rfl⟩ := S.info
  obtain ⟨hl, ad, c', e1, r1, r2, r3, r4⟩ := hr
  obtain ⟨rfl, rfl⟩ : some a = ad ∧ c = c' := by simpa using e1
  have hnews : ∀ j u, news[j]? = some u → w.cell? (a.add j) = some u := fun j u hj => by
    have := r4 a rfl j u hj
    rw [add_eq _ _ this.1]; exact this.2
  have hfit' : off + n * i.size + news.length ≤ cur.size := by
    have : (n + m) * i.size ≤ cap * i.size := Nat.mul_le_mul_right _ hroom
    rw [Nat.add_mul] at this
    rw [hl]; omega
  have := run_append_room_at (P := P) w t ty e i S.under hi g off n cap cur hg a m c news hl hnews h1 hroom hfit'
  rw [this]; simp [wOver, over]
theorem step_app_here {t e : TypeId} {z : Value} {size bytes : Nat} (S : SlT P t e z size bytes) {ops : Array Oper} {o : Oper} {a : Act} {w : World} {K : Act → World → Prop} {Q : Exit → Act → World → Prop} {E : Prop}
    (hg : o.guard = none) (s x : Operand) (hop : o.op = Op.call { callee := Callee.builtin Builtin.append, args := #[s, x], argTypes := #[t, t] })
    (g off n cap : Nat) (hs : a.eval s = .slice (some ⟨g, off, none⟩) n cap) (cur : Array Value) (hrow : w.heap[g]? = some (.cells cur e (0, 0)))
    (ad : Addr) (m c : Nat) (news : List Value) (hx : a.eval x = .slice (some ad) m c) (hr : Rd w size (.slice (some ad) m c) m news) (h1 : ∀ u ∈ news, u.oneCell' = true) (hroom : n + m ≤ cap) (hfit : off + cap * size ≤ cur.size)
    (hK : K (a.put o.dst (.slice (some ⟨g, off, none⟩) (n + m) cap)) (wOver w g cur (off + n * size) news)) :
    if Region.wanted o (yielded ops a.tmps) = true then Oper.wp P o a w K Q else E := by
  have hw : Region.wanted o (yielded ops a.tmps) = true := by simp [Region.wanted, hg]
  rw [if_pos hw]
  have hrun := run_append_here S w o.type g off n cap cur hrow ad m c news hr h1 hroom hfit
  unfold Oper.wp execOp
  simp only [hop, resolve, invoke, builtin, Sem.run_bind, Sem.run_pure, Result.andThen_ok, List.map_toArray, List.map_cons, List.map_nil, hs, hx, hrun]
  exact hK
theorem zeroCells_length (z : Array Value) (n : Nat) : (Builtin.zeroCells z n).toList.length = n * z.size := by
  rw [Array.length_toList, size_zeroCells]
theorem wpList_clear_here {t e : TypeId} {z : Value} {size bytes : Nat} (S : SlT P t e z size bytes) (hzv : ∀ w, (zeroValue e).run P w = .ok z w) (hz1 : ∀ u ∈ z.cells, u.oneCell' = true) {w : World} {ops : Array Oper} {rest : List Oper} {o : Oper} {a : Act} {Q : Exit → Act → World → Prop}
    (hg : o.guard = none) (s : Operand) (hop : o.op = Op.call { callee := Callee.builtin Builtin.clear, args := #[s], argTypes := #[t] })
    (g off n cap : Nat) (hn : 0 < n) (hs : a.eval s = .slice (some ⟨g, off, none⟩) n cap) (cur : Array Value) (hrow : w.heap[g]? = some (.cells cur e (0, 0))) (hfit : off + n * size ≤ cur.size)
    (hK : ∀ zs, zs.length = n * size → wpList P ops Q rest (a.put o.dst (.tuple #[])) (wOver w g cur off zs)) :
    wpList P ops Q (o :: rest) a w := by
  refine wpList_plain hg fun K hK' => ?_
  have hzl : (Builtin.zeroCells z.cells n).toList.length = n * size := by rw [zeroCells_length, S.zs]
  have hone : ∀ u ∈ (Builtin.zeroCells z.cells n).toList, u.oneCell' = true := by
    intro u hu
    simp only [Builtin.zeroCells, Array.mem_toList_iff, Array.mem_map] at hu
    obtain ⟨j, _, rfl⟩ := hu
    have hlt : j % z.cells.size < z.cells.size := Nat.mod_lt _ (by rw [S.zs]; exact S.pos)
    rw [getElem!_pos z.cells _ hlt]
    exact hz1 _ (Array.getElem_mem hlt)
  have hst := run_storeCells_at P g off e (Builtin.zeroCells z.cells n).toList 0 cur w hrow (by rw [hzl]; simpa using hfit) hone
  simp only [Nat.add_zero] at hst
  obtain ⟨m, rfl⟩ : ∃ m, n = m + 1 := ⟨n - 1, by omega⟩
  have hrun : (Builtin.clear_ #[t] o.type #[.slice (some ⟨g, off, none⟩) (m + 1) cap]).run P w = .ok (.tuple #[]) (wOver w g cur off (Builtin.zeroCells z.cells (m + 1)).toList) := by
    simp [Builtin.clear_, run_underlying S.under, hzv, hst, wOver, over]
  unfold Oper.wp execOp
  simp only [hop, resolve, invoke, builtin, Sem.run_bind, Sem.run_pure, Result.andThen_ok, List.map_toArray, List.map_cons, List.map_nil, hs, hrun]
  exact hK' _ _ (hK _ hzl)
end
end Go.Proofs.Ytbibippdafnenaa

/- An append to a list that is held. No condition on the program. -/
namespace Go.Proofs.Ytbibippdafnenaa
open Go.RowKit

section
variable {F Z : BS} {W wr : World} {ts : List Th}
/-- what the other things say, with the one pool -/
def Others (ts : List Th) (i : Nat) (w : World) (Y : BS) : Prop := ∀ j (T' : Th), j ≠ i → ts[j]? = some T' → ∃ H, Dj H Y ∧ T'.on w H Y
theorem Held.app {α : Type} {E : El α} {T : TypeId} {av : Value} {xs : List α} (h : Held F Z W ts wr) (i : Nat) (hi : ts[i]? = some (tSq E T av xs)) :
    ∃ K us, Sl wr K T E.size av xs.length us ∧ (∀ (b : Nat) (j : Nat) (T' : Th), j ≠ i → ts[j]? = some T' → (∀ H Y, T'.on wr H Y → H b ∨ Y b) → ¬ K b) ∧
      ∀ (w1 w2 : World) (news : List Value) (ys : List α) (u2 : Value), Below wr.heap.size wr w1 → Sl w2 (fun k => K k ∨ w1.heap.size ≤ k) T E.size u2 (xs.length + ys.length) (us ++ news) → Fr K w1 w2 →
        (∀ Y : BS, Others ts i wr Y → ∃ N X : BS, (∀ k, N k → wr.heap.size ≤ k) ∧ (∀ k, X k → Y k ∨ wr.heap.size ≤ k) ∧ Dj N X ∧ Els E w1 N X news ys) → Held F Z W (ts.set i (tSq E T u2 (xs ++ ys))) w2 := by
  obtain ⟨G, Y, ⟨K, D, us, hKD, hdj, hKs, hsl, hel⟩, hd, _, hoth, hback⟩ := h.use i hi
  refine ⟨K, us, hsl, fun b j T' hj hT hb hK => ?_, fun w1 w2 news ys u2 hb hsl2 hf hnew => ?_⟩
  · obtain ⟨H, h1, _, h3⟩ := hoth j T' hj hT
    exact (hb H Y h3).elim (fun hh => h1 b (hKD b (.inl hK)) hh) fun hy => hd b (hKD b (.inl hK)) hy
  · obtain ⟨N, X, n1, n2, n3, n4⟩ := hnew Y fun j T' hj hT => by obtain ⟨H, _, h2, h3⟩ := hoth j T' hj hT; exact ⟨H, h2, h3⟩
    have hs1 := hb.size
    have hs2 := hf.size
    have hfw : Fr K wr w2 := ⟨hf.os.trans hb.os, hf.tape.trans hb.tape, hf.output.trans hb.output, Nat.le_trans hs1 hs2, fun k hl hn => (hf.block k (by omega) hn).trans (hb.block k hl)⟩
    have hn4 : Els E w2 (fun k => N k ∧ k < w1.heap.size) (fun k => X k ∧ k < w1.heap.size) news ys := n4.keep hs2 fun k hh hl => hf.block k hl fun hK => by
      have hkl := hKs k hK
      rcases hh with hh | hh
      · have := n1 k hh; omega
      · rcases n2 k hh with hy | hy
        · exact hd k (hKD k (.inl hK)) hy
        · omega
    have hsq' : Sq E T w2 (fun k => (G k ∨ wr.heap.size ≤ k) ∧ ¬ ((Y k ∧ k < wr.heap.size) ∨ (X k ∧ k < w1.heap.size))) (fun k => (Y k ∧ k < wr.heap.size) ∨ (X k ∧ k < w1.heap.size)) u2 (xs ++ ys) := by
      obtain ⟨K', D', us', k1, k2, k3, k4, k5⟩ : Sq E T w2 (fun k => (K k ∨ w1.heap.size ≤ k) ∨ ((D k ∧ k < wr.heap.size) ∨ (N k ∧ k < w1.heap.size))) (fun k => (Y k ∧ k < wr.heap.size) ∨ (X k ∧ k < w1.heap.size)) u2 (xs ++ ys) := by
        refine ⟨fun k => (K k ∨ w1.heap.size ≤ k) ∧ k < w2.heap.size, fun k => (D k ∧ k < wr.heap.size) ∨ (N k ∧ k < w1.heap.size), us ++ news, ?_, ?_, fun k h => h.2, ?_, ?_⟩
        · rintro k (h | h)
          · exact .inl h.1
          · exact .inr h
        · rintro k ⟨h | h, h0⟩ (h' | h')
          · exact hdj k h h'.1
          · have := hKs k h; have := n1 k h'.1; omega
          · omega
          · omega
        · rw [List.length_append]; exact hsl2.bound
        · refine ((hel.keep hfw.size fun k hh hl => hfw.block k hl fun h => hh.elim (fun d => hdj k h d) fun z => hd k (hKD k (.inl h)) z).mono (fun _ h => h) fun k h => .inl h).append (hn4.mono (fun _ h => h) fun k h => .inr h) (fun k a b => ?_) (fun k h => .inl h) fun k h => .inr h
          have := n1 k b.1; omega
      refine ⟨K', D', us', fun k hk => ⟨?_, ?_⟩, k2, k3, k4, k5⟩
      · rcases k1 k hk with (h | h) | h | h
        · exact .inl (hKD k (.inl h))
        · exact .inr (by omega)
        · exact .inl (hKD k (.inr h.1))
        · exact .inr (n1 k h.1)
      · rcases k1 k hk with (h | h) | h | h
        · have hkl := hKs k h
          rintro (⟨hy, _⟩ | ⟨hx, _⟩)
          · exact hd k (hKD k (.inl h)) hy
          · rcases n2 k hx with hy | hy
            · exact hd k (hKD k (.inl h)) hy
            · omega
        · rintro (⟨_, hl⟩ | ⟨_, hl⟩) <;> omega
        · rintro (⟨hy, _⟩ | ⟨hx, _⟩)
          · exact hd k (hKD k (.inr h.1)) hy
          · rcases n2 k hx with hy | hy
            · exact hd k (hKD k (.inr h.1)) hy
            · omega
        · have hn := n1 k h.1
          rintro (⟨_, hl⟩ | ⟨hx, _⟩)
          · omega
          · exact n3 k h.1 hx
    have hg : Fr G wr w2 := hfw.mono fun k hk => hKD k (.inl hk)
    have := hback w2 (tSq E T u2 (xs ++ ys)) [] ⟨hg, _, fun k hk => ?_, Star.one hsq'⟩
    · rwa [List.append_nil] at this
    · rcases hk with hk | hk
      · exact .inl hk.1
      · rcases n2 k hk.1 with hy | hy
        · exact .inl hy
        · exact .inr (.inr hy)
end
end Go.Proofs.Ytbibippdafnenaa

/- Blocks of a struct. No condition on the program. -/
namespace Go.Proofs.Ytbibippdafnenaa
open Go.RowKit

/-- a world in which only draws have been made since -/
def Dr (w w' : World) : Prop := ∃ n, w' = w.drewN n
theorem Dr.refl (w : World) : Dr w w := ⟨0, rfl⟩
/-! a block that holds a struct -/
theorem blk_cell {w : World} {p : Nat} {cs : Array Value} {T : TypeId} {i : Nat} {u : Value} (h : w.heap[p]? = some (.cells cs T (0, 0))) (hi : cs[i]? = some u) : w.cell? ⟨p, i, none⟩ = some u := by
  simp only [World.cell?, h]; exact hi
theorem blk_free {w : World} {p : Nat} {cs : Array Value} {T : TypeId} (h : w.heap[p]? = some (.cells cs T (0, 0))) (i : Nat) : w.frozen? ⟨p, i, none⟩ = false := frozen_of_row w p i cs T h
end Go.Proofs.Ytbibippdafnenaa
