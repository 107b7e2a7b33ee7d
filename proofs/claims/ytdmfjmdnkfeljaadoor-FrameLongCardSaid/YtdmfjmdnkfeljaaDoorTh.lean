/- Things in memory: each in blocks of its own (F), reading a pool of blocks that nobody writes (Z); a call on one of them leaves the others as they were. No condition on the program. -/
import Derived.Test.YtdmfjmdnkfeljaaDoorLab
namespace Go.Proofs.YtdmfjmdnkfeljaaDoor
open Go.RowKit

abbrev BS := Nat → Prop
/-- a thing: what it says of memory, its own blocks, and the pool -/
structure Th where
  on : World → BS → BS → Prop
  keep : ∀ {w w' : World} {F Z : BS}, on w F Z → w.heap.size ≤ w'.heap.size → (∀ k, F k ∨ Z k → k < w.heap.size → w'.heap[k]? = w.heap[k]?) → on w' (fun k => F k ∧ k < w.heap.size) (fun k => Z k ∧ k < w.heap.size)
  mono : ∀ {w : World} {F Z G Y : BS}, on w F Z → (∀ k, F k → G k) → (∀ k, Z k → Y k) → on w G Y
section
variable {F G Z Y : BS} {W w w' : World} {ts : List Th} {T : Th} {i : Nat}
theorem Th.stay (T : Th) (h : T.on w F Z) (hs : w.heap.size ≤ w'.heap.size) (hk : ∀ k, F k ∨ Z k → k < w.heap.size → w'.heap[k]? = w.heap[k]?) (hG : ∀ k, F k → k < w.heap.size → G k) (hY : ∀ k, Z k → k < w.heap.size → Y k) : T.on w' G Y :=
  T.mono (T.keep h hs hk) (fun k h => hG k h.1 h.2) fun k h => hY k h.1 h.2
theorem Th.below (T : Th) (h : T.on w F Z) (hb : Below w.heap.size w w') : T.on w' F Z := T.stay h hb.size (fun k _ hl => hb.block k hl) (fun _ f _ => f) fun _ f _ => f
/-- things side by side within F -/
def Star (ts : List Th) (w : World) (F Z : BS) : Prop := ∃ M : Lab, (∀ j (T : Th), ts[j]? = some T → T.on w (M.is (j + 1)) Z) ∧ ∀ k, M k ≠ 0 → F k
theorem Star.mono (h : Star ts w F Z) (hF : ∀ k, F k → G k) (hZ : ∀ k, Z k → Y k) : Star ts w G Y := by
  obtain ⟨M, h1, h2⟩ := h
  exact ⟨M, fun j T hj => T.mono (h1 j T hj) (fun _ h => h) hZ, fun k hk => hF k (h2 k hk)⟩
theorem Star.keep (h : Star ts w F Z) (hs : w.heap.size ≤ w'.heap.size) (hk : ∀ k, F k ∨ Z k → k < w.heap.size → w'.heap[k]? = w.heap[k]?) : Star ts w' (fun k => F k ∧ k < w.heap.size) (fun k => Z k ∧ k < w.heap.size) := by
  obtain ⟨M, h1, h2⟩ := h
  refine ⟨fun k => if k < w.heap.size then M k else 0, fun j T hj => ?_, fun k hM => ?_⟩
  · refine T.mono (T.keep (h1 j T hj) hs fun k hM hl => hk k (hM.imp (fun hM => h2 k (by have : M k = j + 1 := hM; omega)) id) hl) (fun k ⟨hM, hl⟩ => ?_) fun k h => h
    show (if k < w.heap.size then M k else 0) = j + 1
    rw [if_pos hl]; exact hM
  · by_cases hl : k < w.heap.size
    · have : (if k < w.heap.size then M k else 0) ≠ 0 := hM
      rw [if_pos hl] at this
      exact ⟨h2 k this, hl⟩
    · exact absurd (if_neg hl) hM
def tStar (ts : List Th) : Th := ⟨Star ts, Star.keep, Star.mono⟩
theorem Star.nil (w : World) (F Z : BS) : Star [] w F Z := ⟨fun _ => 0, fun j T h => by simp at h, fun k h => (h rfl).elim⟩
theorem Star.cons (h : T.on w F Z) (hs : Star ts w G Z) (hd : Dj F G) {H : BS} (hF : ∀ k, F k → H k) (hG : ∀ k, G k → H k) : Star (T :: ts) w H Z := by
  classical
  obtain ⟨M, h1, h2⟩ := hs
  refine ⟨fun k => if F k then 1 else if M k = 0 then 0 else M k + 1, fun j T' hj => ?_, fun k hk => ?_⟩
  · match j, hj with
    | 0, hj =>
      obtain rfl : T = T' := by simpa using hj
      exact T.mono h (fun k hk => if_pos hk) fun _ h => h
    | j + 1, hj =>
      refine T'.mono (h1 j T' (by simpa using hj)) (fun k hk => ?_) fun _ h => h
      have hk' : M k = j + 1 := hk
      have hn : ¬ F k := fun f => hd k f (h2 k (by omega))
      show (if F k then 1 else if M k = 0 then 0 else M k + 1) = j + 1 + 1
      rw [if_neg hn, if_neg (by omega), hk']
  · by_cases hf : F k
    · exact hF k hf
    · by_cases hm : M k = 0
      · exact absurd (show (if F k then 1 else if M k = 0 then 0 else M k + 1) = 0 by rw [if_neg hf, if_pos hm]) hk
      · exact hG k (h2 k hm)
theorem Star.one (h : T.on w F Z) : Star [T] w F Z := Star.cons (G := fun _ => False) h (Star.nil w _ Z) (fun _ _ f => f) (fun _ h => h) fun _ f => f.elim
theorem Star.uncons (h : Star (T :: ts) w F Z) : ∃ A B, T.on w A Z ∧ Star ts w B Z ∧ Dj A B ∧ (∀ k, A k → F k) ∧ ∀ k, B k → F k := by
  obtain ⟨M, h1, h2⟩ := h
  refine ⟨M.is 1, fun k => M k ≠ 0 ∧ M k ≠ 1, h1 0 T rfl, ⟨fun k => if M k = 0 then 0 else M k - 1, fun j T' hj => ?_, fun k hk => ?_⟩, fun k a b => b.2 a, fun k a => h2 k (by have : M k = 1 := a; omega), fun k b => h2 k b.1⟩
  · refine T'.mono (h1 (j + 1) T' (by simpa using hj)) (fun k hk => ?_) fun _ h => h
    have hk' : M k = j + 1 + 1 := hk
    show (if M k = 0 then 0 else M k - 1) = j + 1
    rw [if_neg (by omega), hk']; rfl
  · by_cases hm : M k = 0
    · exact absurd (if_pos hm) hk
    · refine ⟨hm, fun h => hk ?_⟩
      show (if M k = 0 then 0 else M k - 1) = 0
      rw [if_neg hm, h]
theorem Star.get (h : Star ts w F Z) (hi : ts[i]? = some T) : T.on w F Z := by
  obtain ⟨M, h1, h2⟩ := h
  exact T.mono (h1 i T hi) (fun k hk => h2 k (by have : M k = i + 1 := hk; omega)) fun _ h => h

/-- what a walk that began at W, may change F, and reads the pool Z, holds -/
def Held (F Z : BS) (W : World) (ts : List Th) (w : World) : Prop := ∃ L : Lab, Fr F W w ∧ (∀ k, k < W.heap.size → ¬ F k → (L k = 0 ∨ L k = 1) ∧ (L k = 1 ↔ Z k)) ∧ ∀ i (T : Th), ts[i]? = some T → T.on w (L.is (i + 2)) (L.is 1)
/-- what a call has done to the thing that it was given, and what it has made -/
def Did (w : World) (G Z : BS) (ts : List Th) (w' : World) : Prop := Fr G w w' ∧ ∃ Y, (∀ k, Y k → Z k ∨ G k ∨ w.heap.size ≤ k) ∧ Star ts w' (fun k => (G k ∨ w.heap.size ≤ k) ∧ ¬ Y k) Y
theorem Held.fr (h : Held F Z W ts w) : Fr F W w := by obtain ⟨L, h, _⟩ := h; exact h
theorem Held.start (h : Star ts W F Z) (hd : Dj F Z) : Held F Z W ts W := by
  obtain ⟨M, h1, h2⟩ := h
  classical
  refine ⟨fun k => if Z k then 1 else if M k = 0 then 0 else M k + 1, Fr.refl _ _, fun k _ hn => ?_, fun i T hi => T.mono (h1 i T hi) (fun k hk => ?_) fun k hk => if_pos hk⟩
  · have hm : M k = 0 := by
      by_cases h : M k = 0
      · exact h
      · exact (hn (h2 k h)).elim
    by_cases hz : Z k
    · have e : (if Z k then 1 else if M k = 0 then 0 else M k + 1) = 1 := if_pos hz
      exact ⟨.inr e, fun _ => hz, fun _ => e⟩
    · have e : (if Z k then 1 else if M k = 0 then 0 else M k + 1) = 0 := by rw [if_neg hz, if_pos hm]
      exact ⟨.inl e, fun h => absurd (e.symm.trans h) (by decide), fun h => (hz h).elim⟩
  · have hk' : M k = i + 1 := hk
    have hz : ¬ Z k := fun z => hd k (h2 k (by omega)) z
    show (if Z k then 1 else if M k = 0 then 0 else M k + 1) = i + 2
    rw [if_neg hz, if_neg (by omega), hk']
theorem Held.start0 (F Z : BS) (hd : Dj F Z) (W : World) : Held F Z W [] W := Held.start (Star.nil W F Z) hd
/-- whatever takes new blocks alone -/
theorem Held.own (h : Held F Z W ts w) (hb : Below w.heap.size w w') : Held F Z W ts w' := by
  obtain ⟨L, h1, h2, h3⟩ := h
  refine ⟨L.new w 1, h1.of_below hb, fun k hk hn => ?_, fun i T hi => T.stay (h3 i T hi) hb.size (fun k _ hl => hb.block k hl) (fun k e hl => (Lab.new_old hl).trans e) fun k e hl => (Lab.new_old hl).trans e⟩
  have := h2 k hk hn
  rw [Lab.new_old (Nat.lt_of_lt_of_le hk h1.size)]; exact this
theorem Held.drew (h : Held F Z W ts w) : Held F Z W ts w.drew := h.own (below_drew w 1)
theorem Held.drewN (h : Held F Z W ts w) (n : Nat) : Held F Z W ts (w.drewN n) := h.own (below_drew w n)
theorem Held.alloc (h : Held F Z W ts w) (o : Obj) : Held F Z W ts (w.alloc o) := h.own (below_alloc w o)
theorem Held.get (h : Held F Z W ts w) (i : Nat) {T : Th} (hi : ts[i]? = some T) : ∃ G Y, T.on w G Y := by obtain ⟨L, _, _, h⟩ := h; exact ⟨_, _, h i T hi⟩
theorem lt_of_get {α : Type} {l : List α} {i : Nat} {a : α} (h : l[i]? = some a) : i < l.length := by
  rcases Nat.lt_or_ge i l.length with h' | h'
  · exact h'
  · rw [List.getElem?_eq_none h'] at h; cases h
/-- one of the things in hand: a call that changes it and makes others -/
theorem Held.use (h : Held F Z W ts w) (i : Nat) {T : Th} (hi : ts[i]? = some T) : ∃ G Y, T.on w G Y ∧ Dj G Y ∧ (∀ k, k < W.heap.size → ¬ F k → ¬ G k ∧ (Z k → Y k)) ∧ (∀ j (T' : Th), j ≠ i → ts[j]? = some T' → ∃ H, Dj G H ∧ Dj H Y ∧ T'.on w H Y) ∧
    ∀ w' (T' : Th) (rest : List Th), Did w G Y (T' :: rest) w' → Held F Z W (ts.set i T' ++ rest) w' := by
  obtain ⟨L, h1, h2, h3⟩ := h
  have hil := lt_of_get hi
  refine ⟨L.is (i + 2), L.is 1, h3 i T hi, fun k a b => ?_, fun k hk hn => ⟨fun hG => ?_, (h2 k hk hn).2.2⟩, fun j T' hj hT => ⟨L.is (j + 2), fun k a b => ?_, fun k a b => ?_, h3 j T' hT⟩, fun w' T' rest hst => ?_⟩
  · have a' : L k = i + 2 := a
    have b' : L k = 1 := b
    omega
  · have := (h2 k hk hn).1
    have hG' : L k = i + 2 := hG
    omega
  · have a' : L k = i + 2 := a
    have b' : L k = j + 2 := b
    omega
  · have a' : L k = j + 2 := a
    have b' : L k = 1 := b
    omega
  · classical
    obtain ⟨hf, Y, hY, M, m1, m2⟩ := hst
    -- the labels behind the call
    let L' : Lab := fun k => if Y k then 1 else if M k = 0 then (if k < w.heap.size then (if L k = i + 2 then 0 else L k) else 0) else if M k = 1 then i + 2 else ts.length + M k
    have hold : ∀ k, k < w.heap.size → L k ≠ i + 2 → ¬ (Y k ∧ L k ≠ 1) → L' k = L k := fun k hl hn hy => by
      by_cases y : Y k
      · have : L k = 1 := by
          by_cases h : L k = 1
          · exact h
          · exact (hy ⟨y, h⟩).elim
        show (if Y k then 1 else _) = _
        rw [if_pos y, this]
      · have hm : M k = 0 := by
          by_cases hm : M k = 0
          · exact hm
          · exact ((m2 k hm).1.elim (fun g => (hn g).elim) fun g => by omega)
        show (if Y k then 1 else if M k = 0 then (if k < w.heap.size then (if L k = i + 2 then 0 else L k) else 0) else _) = _
        rw [if_neg y, if_pos hm, if_pos hl, if_neg hn]
    have hYold : ∀ k, k < w.heap.size → L k ≠ i + 2 → ¬ (Y k ∧ L k ≠ 1) := fun k hl hn ⟨y, h⟩ => (hY k y).elim (fun z => h z) fun g => g.elim (fun g => hn g) fun g => by omega
    refine ⟨L', ?_, ?_, ?_⟩
    · exact h1.trans hf fun x hx => by
        by_cases hl : x < W.heap.size
        · refine .inl ?_
          by_cases hF : F x
          · exact hF
          · have := (h2 x hl hF).1
            have hx' : L x = i + 2 := hx
            omega
        · exact .inr (by omega)
    · intro k hk hn
      have hkw := Nat.lt_of_lt_of_le hk h1.size
      have h0 := h2 k hk hn
      have hne : L k ≠ i + 2 := by have := h0.1; omega
      rw [hold k hkw hne (hYold k hkw hne)]
      exact h0
    · have hpool : ∀ k, L k = 1 → k < w.heap.size → L' k = 1 := fun k e hl => by
        rw [hold k hl (by omega) (fun h => h.2 e)]; exact e
      intro j T'' hj
      by_cases hjl : j < ts.length
      · rw [List.getElem?_append_left (by simpa using hjl)] at hj
        by_cases hji : j = i
        · subst hji
          rw [List.getElem?_set_self hjl] at hj
          obtain rfl := Option.some.inj hj
          refine T'.mono (m1 0 T' rfl) (fun k hk => ?_) fun k hk => ?_
          · have hk' : M k = 1 := hk
            have hny := (m2 k (by omega)).2
            show (if Y k then 1 else if M k = 0 then _ else if M k = 1 then j + 2 else _) = j + 2
            rw [if_neg hny, if_neg (by omega), if_pos hk']
          · show (if Y k then 1 else _) = 1
            rw [if_pos hk]
        · rw [List.getElem?_set_ne (fun e => hji e.symm)] at hj
          refine T''.stay (h3 j T'' hj) hf.size (fun k hk hl => hf.block k hl fun g => ?_) (fun k hk hl => ?_) fun k hk hl => hpool k hk hl
          · have h4 : L k = i + 2 := g
            rcases hk with hk | hk
            · have h3 : L k = j + 2 := hk
              omega
            · have h3 : L k = 1 := hk
              omega
          · have h3 : L k = j + 2 := hk
            show L' k = j + 2
            rw [hold k hl (by omega) (hYold k hl (by omega))]; exact h3
      · rw [List.getElem?_append_right (by simpa using Nat.le_of_not_lt hjl), List.length_set] at hj
        have := m1 (j - ts.length + 1) T'' (by simpa using hj)
        refine T''.mono this (fun k hk => ?_) fun k hk => ?_
        · have hk' : M k = j - ts.length + 1 + 1 := hk
          have hny := (m2 k (by omega)).2
          show (if Y k then 1 else if M k = 0 then _ else if M k = 1 then i + 2 else ts.length + M k) = j + 2
          rw [if_neg hny, if_neg (by omega), if_neg (by omega), hk']
          omega
        · show (if Y k then 1 else _) = 1
          rw [if_pos hk]
/-- new things in new blocks -/
theorem Held.adds (h : Held F Z W ts w) {rest : List Th} (hn : Did w (fun _ => False) (fun k => k < W.heap.size ∧ Z k ∧ ¬ F k) rest w') : Held F Z W (ts ++ rest) w' := by
  classical
  obtain ⟨L, h1, h2, h3⟩ := h
  obtain ⟨hf, Y, hY, M, m1, m2⟩ := hn
  let L' : Lab := fun k => if k < w.heap.size then L k else if Y k then 1 else if M k = 0 then 0 else ts.length + M k + 1
  have hold : ∀ k, k < w.heap.size → L' k = L k := fun k hl => if_pos hl
  have hYp : ∀ k, Y k → L' k = 1 := fun k y => by
    by_cases hl : k < w.heap.size
    · rw [hold k hl]
      rcases hY k y with ⟨h4, h5, h6⟩ | h4 | h4
      · exact (h2 k h4 h6).2.2 h5
      · exact h4.elim
      · omega
    · show (if k < w.heap.size then _ else if Y k then 1 else _) = 1
      rw [if_neg hl, if_pos y]
  refine ⟨L', ⟨hf.os.trans h1.os, hf.tape.trans h1.tape, hf.output.trans h1.output, Nat.le_trans h1.size hf.size, fun k hk hn => (hf.block k (Nat.lt_of_lt_of_le hk h1.size) fun f => f).trans (h1.block k hk hn)⟩, fun k hk hn => ?_, fun j T hj => ?_⟩
  · rw [hold k (Nat.lt_of_lt_of_le hk h1.size)]; exact h2 k hk hn
  · by_cases hjl : j < ts.length
    · rw [List.getElem?_append_left hjl] at hj
      exact T.stay (h3 j T hj) hf.size (fun k _ hl => hf.block k hl fun f => f) (fun k hk hl => (hold k hl).trans hk) fun k hk hl => (hold k hl).trans hk
    · rw [List.getElem?_append_right (Nat.le_of_not_lt hjl)] at hj
      refine T.mono (m1 _ T hj) (fun k hk => ?_) hYp
      have hk' : M k = j - ts.length + 1 := hk
      have hm := m2 k (by omega)
      have hl : ¬ k < w.heap.size := by rcases hm.1 with h | h
                                        · exact h.elim
                                        · omega
      show (if k < w.heap.size then _ else if Y k then 1 else if M k = 0 then 0 else ts.length + M k + 1) = j + 2
      rw [if_neg hl, if_neg hm.2, if_neg (by omega), hk']; omega
theorem Did.news {rest : List Th} (hb : Below w.heap.size w w') (hn : Star rest w' (fun k => w.heap.size ≤ k) Z) (hz : ∀ k, Z k → k < w.heap.size) : Did w (fun _ => False) Z rest w' :=
  ⟨⟨hb.os, hb.tape, hb.output, hb.size, fun k hl _ => hb.block k hl⟩, Z, fun k h => .inl h, hn.mono (fun k h => ⟨.inr h, fun z => by have := hz k z; omega⟩) fun _ h => h⟩
/-- a new thing of its own blocks alone -/
theorem Held.add (h : Held F Z W ts w) {T : Th} (hb : Below w.heap.size w w') (hn : T.on w' (fun k => w.heap.size ≤ k) (fun _ => False)) : Held F Z W (ts ++ [T]) w' :=
  h.adds ⟨⟨hb.os, hb.tape, hb.output, hb.size, fun k hl _ => hb.block k hl⟩, fun _ => False, fun _ f => f.elim, Star.one (T.mono hn (fun _ h => ⟨.inr h, id⟩) fun _ f => f)⟩
/-- new data that nobody writes -/
theorem Held.addZ (h : Held F Z W ts w) {T : Th} (hb : Below w.heap.size w w') (hn : T.on w' (fun _ => False) (fun k => w.heap.size ≤ k)) : Held F Z W (ts ++ [T]) w' :=
  h.adds ⟨⟨hb.os, hb.tape, hb.output, hb.size, fun k hl _ => hb.block k hl⟩, fun k => w.heap.size ≤ k, fun _ f => .inr (.inr f), Star.one (T.mono hn (fun _ h => h.elim) fun _ f => f)⟩
/-- old data that nobody writes -/
theorem Held.addOld (h : Held F Z W ts w) {T : Th} (hn : T.on W (fun _ => False) (fun k => Z k ∧ ¬ F k)) : Held F Z W (ts ++ [T]) w := by
  obtain ⟨L, h1, h2, h3⟩ := h
  refine ⟨L, h1, h2, fun j T' hj => ?_⟩
  by_cases hjl : j < ts.length
  · rw [List.getElem?_append_left hjl] at hj; exact h3 j T' hj
  · rw [List.getElem?_append_right (Nat.le_of_not_lt hjl)] at hj
    obtain rfl : T = T' := by
      have : j - ts.length = 0 := by have := lt_of_get hj; simp at this; omega
      rw [this] at hj; simpa using hj
    exact T.stay hn h1.size (fun k hk hl => h1.block k hl fun f => hk.elim id fun z => z.2 f) (fun k f _ => f.elim) fun k hz hl => (h2 k hl hz.2).2.2 hz.1
/-- some of the things, in another order -/
theorem Held.pick (h : Held F Z W ts w) (js : List Nat) (us : List Th) (hn : js.Nodup) (he : js.map (fun j => ts[j]?) = us.map some) : Held F Z W us w := by
  obtain ⟨L, h1, h2, h3⟩ := h
  have hlen : js.length = us.length := by have := congrArg List.length he; simpa using this
  obtain ⟨L', hL⟩ : ∃ L' : Lab, ∀ k, L' k = if L k ≤ 1 then L k else (match js.idxOf? (L k - 2) with | some m => m + 2 | none => 0) := ⟨_, fun _ => rfl⟩
  refine ⟨L', h1, fun k hk hF => ?_, fun m T hm => ?_⟩
  · have := h2 k hk hF
    rw [show L' k = L k by rw [hL, if_pos (by have := this.1; omega)]]
    exact this
  · have hml : m < js.length := by rw [hlen]; exact lt_of_get hm
    have e1 : (js.map (fun j => ts[j]?))[m]? = (us.map some)[m]? := by rw [he]
    rw [List.getElem?_map, List.getElem?_map, hm, List.getElem?_eq_getElem hml] at e1
    have e2 : ts[js[m]]? = some T := by simpa using e1
    refine T.mono (h3 _ T e2) (fun k hk => ?_) fun k hk => ?_
    · have hk' : L k = js[m] + 2 := hk
      show L' k = m + 2
      have hidx : js.idxOf? js[m] = some m := by
        rw [List.idxOf?_eq_some_iff]
        refine ⟨hml, by simp, fun j hj e => ?_⟩
        have e' : js[j] = js[m] := by simpa using e
        exact List.pairwise_iff_getElem.1 hn j m (by omega) hml hj e'
      rw [hL, if_neg (by omega), hk', Nat.add_sub_cancel, hidx]
    · have hk' : L k = 1 := hk
      show L' k = 1
      rw [hL, if_pos (by omega), hk']
/-- the first n things taken together, or one taken apart -/
theorem Held.fold {as : List Th} (h : Held F Z W (as ++ ts) w) {T : Th} (hT : ∀ G Y, Dj G Y → Star as w G Y → T.on w G Y) : Held F Z W (T :: ts) w := by
  obtain ⟨L, h1, h2, h3⟩ := h
  obtain ⟨L', hL⟩ : ∃ L' : Lab, ∀ k, L' k = if L k ≤ 1 then L k else if L k ≤ as.length + 1 then 2 else L k + 1 - as.length := ⟨_, fun _ => rfl⟩
  refine ⟨L', h1, fun k hk hF => ?_, fun m T' hm => ?_⟩
  · have := h2 k hk hF
    rw [show L' k = L k by rw [hL, if_pos (by have := this.1; omega)]]; exact this
  · have hz : ∀ k, L.is 1 k → L'.is 1 k := fun k hk => by
      have hk' : L k = 1 := hk
      show L' k = 1
      rw [hL, if_pos (by omega), hk']
    match m, hm with
    | 0, hm =>
      obtain rfl : T = T' := by simpa using hm
      obtain ⟨M, hM⟩ : ∃ M : Lab, ∀ k, M k = if 2 ≤ L k ∧ L k ≤ as.length + 1 then L k - 1 else 0 := ⟨_, fun _ => rfl⟩
      refine T.mono (hT (fun k => 2 ≤ L k ∧ L k ≤ as.length + 1) (L.is 1) (fun k a b => by have b' : L k = 1 := b; omega) ⟨M, fun j T' hj => ?_, fun k hk => ?_⟩) (fun k hk => ?_) hz
      · have hjl := lt_of_get hj
        refine T'.mono (h3 j T' (by rw [List.getElem?_append_left hjl]; exact hj)) (fun k hk => ?_) fun _ h => h
        have hk' : L k = j + 2 := hk
        show M k = j + 1
        rw [hM, if_pos (by omega), hk']; rfl
      · by_cases hl : 2 ≤ L k ∧ L k ≤ as.length + 1
        · exact hl
        · exact absurd (by rw [hM, if_neg hl]) hk
      · show L' k = 0 + 2
        rw [hL, if_neg (by omega), if_pos hk.2]
    | m + 1, hm =>
      refine T'.mono (h3 (m + as.length) T' (by rw [List.getElem?_append_right (by omega)]; simpa using hm)) (fun k hk => ?_) hz
      have hk' : L k = m + as.length + 2 := hk
      show L' k = m + 1 + 2
      rw [hL, if_neg (by omega), if_neg (by omega), hk']; omega
theorem Held.unfold {as : List Th} {T : Th} (h : Held F Z W (T :: ts) w) (hT : ∀ G Y, Dj G Y → T.on w G Y → Star as w G Y) : Held F Z W (as ++ ts) w := by
  obtain ⟨L, h1, h2, h3⟩ := h
  obtain ⟨M, m1, m2⟩ := hT _ _ (fun k a b => by have a' : L k = 0 + 2 := a; have b' : L k = 1 := b; omega) (h3 0 T rfl)
  obtain ⟨L', hL⟩ : ∃ L' : Lab, ∀ k, L' k = if L k ≤ 1 then L k else if L k = 2 then (if M k = 0 then 0 else M k + 1) else L k + as.length - 1 := ⟨_, fun _ => rfl⟩
  refine ⟨L', h1, fun k hk hF => ?_, fun j T' hj => ?_⟩
  · have := h2 k hk hF
    rw [show L' k = L k by rw [hL, if_pos (by have := this.1; omega)]]; exact this
  · have hz : ∀ k, L.is 1 k → L'.is 1 k := fun k hk => by
      have hk' : L k = 1 := hk
      show L' k = 1
      rw [hL, if_pos (by omega), hk']
    by_cases hjl : j < as.length
    · rw [List.getElem?_append_left hjl] at hj
      refine T'.mono (m1 j T' hj) (fun k hk => ?_) hz
      have hk' : M k = j + 1 := hk
      have hL2 : L k = 0 + 2 := m2 k (by omega)
      show L' k = j + 2
      rw [hL, if_neg (by omega), if_pos (by omega), if_neg (by omega), hk']
    · rw [List.getElem?_append_right (Nat.le_of_not_lt hjl)] at hj
      refine T'.mono (h3 (j - as.length + 1) T' (by simpa using hj)) (fun k hk => ?_) hz
      have hk' : L k = j - as.length + 1 + 2 := hk
      show L' k = j + 2
      rw [hL, if_neg (by omega), if_neg (by omega), hk']; omega
/-- the end of a walk -/
theorem Held.did (h : Held F Z W ts w) : Did W F Z ts w := by
  obtain ⟨L, h1, h2, h3⟩ := h
  refine ⟨h1, L.is 1, fun k hk => ?_, fun k => if L k ≤ 1 then 0 else L k - 1, fun j T hj => T.mono (h3 j T hj) (fun k hk => ?_) fun _ h => h, fun k hk => ?_⟩
  · have hk' : L k = 1 := hk
    by_cases hl : k < W.heap.size
    · by_cases hF : F k
      · exact .inr (.inl hF)
      · exact .inl ((h2 k hl hF).2.1 hk')
    · exact .inr (.inr (by omega))
  · have hk' : L k = j + 2 := hk
    show (if L k ≤ 1 then 0 else L k - 1) = j + 1
    rw [if_neg (by omega), hk']; rfl
  · have hL : ¬ L k ≤ 1 := fun h => hk (if_pos h)
    refine ⟨?_, fun h => hL (by have h' : L k = 1 := h; omega)⟩
    by_cases hl : k < W.heap.size
    · by_cases hF : F k
      · exact .inl hF
      · have := (h2 k hl hF).1; omega
    · exact .inr (by omega)
theorem Held.below (h : Held (fun _ => False) Z W ts w) : Below W.heap.size W w := h.fr.below (Nat.le_refl _) fun _ f => f.elim
theorem Did.one (hf : Fr G w w') (h : T.on w' (fun k => G k ∨ w.heap.size ≤ k) Z) (hd : Dj G Z) (hz : ∀ k, Z k → k < w.heap.size) : Did w G Z [T] w' :=
  ⟨hf, Z, fun _ h => .inl h, Star.one (T.mono h (fun k g => ⟨g, fun z => g.elim (fun g => hd k g z) fun g => by have := hz k z; omega⟩) fun _ h => h)⟩
end
/-- a block known whole -/
def tBlk (p : Nat) (o : Obj) : Th := ⟨fun w F _ => Blk p o w F, fun h hs hk => (Blk.thing p o).keep h hs fun k f hl => hk k (.inl f) hl, fun h hF _ => (Blk.thing p o).mono h hF⟩
/-- a thing of the elder kind -/
def tOld {O : World → BS → Prop} (T : Thing O) : Th := ⟨fun w F _ => O w F, fun h hs hk => T.keep h hs fun k f hl => hk k (.inl f) hl, fun h hF _ => T.mono h hF⟩
section
variable {F Z : BS} {W w w' : World} {ts : List Th}
theorem Held.blk (h : Held F Z W ts w) (i : Nat) {p : Nat} {o : Obj} (hi : ts[i]? = some (tBlk p o)) : w.heap[p]? = some o := by obtain ⟨G, Y, h⟩ := h.get i hi; exact h.1
theorem Held.new (h : Held F Z W ts w) (o : Obj) : Held F Z W (ts ++ [tBlk w.heap.size o]) (w.alloc o) := h.add (below_alloc w o) ⟨heap_alloc_new w o, Nat.le_refl _⟩
/-- a block that the walk itself has written -/
theorem Held.set (h : Held F Z W ts w) (i : Nat) {p : Nat} {o : Obj} (hi : ts[i]? = some (tBlk p o)) (o' : Obj) (hf : Fr (fun k => k = p) w w') (hr : w'.heap[p]? = some o') : Held F Z W (ts.set i (tBlk p o')) w' := by
  obtain ⟨G, Y, h1, hd, _, _, h4⟩ := h.use i hi
  have := h4 w' (tBlk p o') [] ⟨hf.mono fun k hk => by subst hk; exact h1.2, Y, fun _ h => .inl h, Star.one ⟨hr, .inl h1.2, fun y => hd p h1.2 y⟩⟩
  rwa [List.append_nil] at this
theorem Held.start1 {T : Th} (h : T.on W F Z) (hd : Dj F Z) : Held F Z W [T] W := Held.start (Star.one h) hd
theorem Did.same {T : Th} {G Y : BS} (hf : Fr G w w') (h : T.on w' G Y) (hd : Dj G Y) : Did w G Y [T] w' := ⟨hf, Y, fun _ h => .inl h, Star.one (T.mono h (fun k g => ⟨.inl g, fun y => hd k g y⟩) fun _ h => h)⟩
/-- one thing changed, in its own blocks -/
theorem Held.upd (h : Held F Z W ts w) (i : Nat) {T T' : Th} (hi : ts[i]? = some T) (k : ∀ G Y, T.on w G Y → Dj G Y → T'.on w' G Y ∧ Fr G w w') : Held F Z W (ts.set i T') w' := by
  obtain ⟨G, Y, h1, hd, _, _, h4⟩ := h.use i hi
  obtain ⟨h5, h6⟩ := k G Y h1 hd
  have := h4 w' T' [] (Did.same h6 h5 hd)
  rwa [List.append_nil] at this
/-- .. in its own blocks and new ones -/
theorem Held.grow (h : Held F Z W ts w) (i : Nat) {T T' : Th} (hi : ts[i]? = some T) (k : ∀ G Y, T.on w G Y → Dj G Y → ∃ H X, (∀ k, H k → G k ∨ w.heap.size ≤ k) ∧ (∀ k, X k → (Y k ∧ k < w.heap.size) ∨ w.heap.size ≤ k) ∧ Dj H X ∧ T'.on w' H X ∧ Fr G w w') : Held F Z W (ts.set i T') w' := by
  obtain ⟨G, Y, h1, hd, _, _, h4⟩ := h.use i hi
  obtain ⟨H, X, h5, h6, h7, h8, h9⟩ := k G Y h1 hd
  have := h4 w' T' [] ⟨h9, X, fun k hx => (h6 k hx).imp (·.1) .inr, Star.one (T'.mono h8 (fun k hk => ⟨h5 k hk, h7 k hk⟩) fun _ h => h)⟩
  rwa [List.append_nil] at this
theorem Star.two {A B : Th} {G H : BS} (ha : A.on w G Z) (hb : B.on w H Z) (hd : Dj G H) (hG : ∀ k, G k → F k) (hH : ∀ k, H k → F k) : Star [A, B] w F Z := Star.cons (G := H) ha (Star.one hb) hd hG hH
/-- the end of a walk: the first thing is handed back, the others are dropped -/
theorem Held.did' {T : Th} (h : Held F Z W (T :: ts) w) : Did W F Z [T] w := (h.pick [0] [T] (by simp) rfl).did
end
/-- a thing that a call has made in new blocks -/
def Made (w : World) (T : Th) (w' : World) : Prop := Below w.heap.size w w' ∧ ∃ N Y : BS, (∀ k, N k → w.heap.size ≤ k) ∧ (∀ k, Y k → w.heap.size ≤ k) ∧ Dj N Y ∧ T.on w' N Y
theorem Held.made {F Z : BS} {W w w' : World} {ts : List Th} {T : Th} (h : Held F Z W ts w) (hm : Made w T w') : Held F Z W (ts ++ [T]) w' := by
  obtain ⟨hb, N, Y, h1, h2, h3, h4⟩ := hm
  exact h.adds ⟨⟨hb.os, hb.tape, hb.output, hb.size, fun k hl _ => hb.block k hl⟩, Y, fun k hk => .inr (.inr (h2 k hk)), Star.one (T.mono h4 (fun k h => ⟨.inr (h1 k h), h3 k h⟩) fun _ h => h)⟩
/-- one thing changed, in its own blocks and new ones; it reads no pool -/
theorem Did.one0 {G Z : BS} {w w' : World} {T : Th} (hf : Fr G w w') (h : T.on w' (fun k => G k ∨ w.heap.size ≤ k) (fun _ => False)) : Did w G Z [T] w' :=
  ⟨hf, fun _ => False, fun _ f => f.elim, Star.one (T.mono h (fun _ g => ⟨g, id⟩) fun _ f => f)⟩
end Go.Proofs.YtdmfjmdnkfeljaaDoor
