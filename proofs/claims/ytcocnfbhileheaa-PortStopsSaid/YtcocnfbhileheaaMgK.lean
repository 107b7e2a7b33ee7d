/- Several texts in one: A flow of frames over a way that loses nothing, in numbers alone: everything arrives within a bound. No program in sight. A tick of a port that is up, when a whole batch of packets of its peer's session comes: what it does, in detail. No program in sight. Two ports over a way that loses nothing, over time: the run, and the time in which both are up. No program in sight. Two ports over a way that loses nothing: one direction is a flow. No program in sight. Two ports over a way that loses nothing: one direction is a flow (the law). No program in sight. Two ports over a way that loses nothing: after a while both are up. No program in sight. What a port counts: frames acknowledged, kept and waiting are all that were offered in its life; frames received are taken or in the buffer. No program in sight. A pair of ports, nothing lost, everything taken: in the end everything has come. No program in sight. A pair of ports, nothing lost, everything taken: both are up, nothing is kept, nothing waits, everything was taken. No program in sight. A pair of ports: what is counted, through all events; in the end everything that was offered was taken. No program in sight. -/
import Derived.Test.YtcocnfbhileheaaMgI
import Derived.Test.YtcocnfbhileheaaMgG
/- A flow of frames over a way that loses nothing, in numbers alone: everything arrives within a bound. No program in sight. -/
namespace Go.Proofs.Ytcocnfbhileheaa

/-- one direction over time (n: before the n-th tick): D: the delay; tm, wd: timeout and window; R: frames received; A: acknowledged; K: kept; P: the position; T: the timer; W: waiting;
s, l, w: sent, limit and waiting of a class at the sender; fr, re: freed and received at the receiver -/
structure Flow0 (D tm wd cl : Nat) (R A K P T W : Nat → Nat) (s l w fr re : Nat → Nat → Nat) (base room : Nat → Nat) : Prop where
  tm1 : 1 ≤ tm
  wd1 : 1 ≤ wd
  mono : ∀ n, R n ≤ R (n + 1)
  ack : ∀ n, R (n + 1) ≤ A (n + D + 1)
  low : ∀ n, A n ≤ R n
  up : ∀ n, A n ≤ A (n + 1) ∧ A (n + 1) ≤ A n + K n
  pos : ∀ n, P n ≤ K n
  tim : ∀ n, T n ≤ tm
  /-- what the sender does: ch is 1 where a frame is chosen -/
  step : ∀ n, ∃ ch k1 p1 t1, k1 = K n - (A (n + 1) - A n) ∧ p1 = P n - (A (n + 1) - A n) ∧ ((A (n + 1) = A n → t1 = T n) ∧ (A (n + 1) ≠ A n → t1 = 0)) ∧ K (n + 1) = k1 + ch ∧ W (n + 1) + ch = W n ∧
    (ch = 0 ∧ (wd ≤ k1 ∨ ∀ c, c < cl → w n c = 0 ∨ l (n + 1) c ≤ s n c) ∧ (∀ c, s (n + 1) c = s n c) ∨ ch = 1) ∧
    ((K (n + 1) = 0 ∧ P (n + 1) = p1 ∧ T (n + 1) = t1 ∧ R (n + D + 1) = R (n + D)) ∨
     (0 < K (n + 1) ∧ K (n + 1) ≤ p1 ∧ t1 + 1 < tm ∧ P (n + 1) = p1 ∧ T (n + 1) = t1 + 1 ∧ R (n + D + 1) = R (n + D)) ∨
     (0 < K (n + 1) ∧ K (n + 1) ≤ p1 ∧ tm ≤ t1 + 1 ∧ P (n + 1) = 1 ∧ T (n + 1) = 0 ∧ (R (n + D + 1) = R (n + D) + 1 ∧ A (n + 1) = R (n + D) ∨ R (n + D + 1) = R (n + D) ∧ A (n + 1) ≠ R (n + D))) ∨
     (p1 < K (n + 1) ∧ P (n + 1) = p1 + 1 ∧ T (n + 1) = 0 ∧ (R (n + D + 1) = R (n + D) + 1 ∧ A (n + 1) + p1 = R (n + D) ∨ R (n + D + 1) = R (n + D) ∧ A (n + 1) + p1 ≠ R (n + D))))
  wait : ∀ n, 0 < W n → ∃ c, c < cl ∧ 0 < w n c
  crd : ∀ n c, c < cl → room c + fr n c ≤ base c + l (n + D + 1) c
  rm : ∀ c, c < cl → 1 ≤ room c
  got : ∀ n c, c < cl → R n = A n + K n → re n c = base c + s n c
  top : ∀ n, R n ≤ A n + K n
/-- x: how long a full buffer lasts when nothing comes -/
structure Flow (D x tm wd cl : Nat) (R A K P T W : Nat → Nat) (s l w fr re : Nat → Nat → Nat) (base room : Nat → Nat) : Prop extends Flow0 D tm wd cl R A K P T W s l w fr re base room where
  drain : ∀ n c, c < cl → R (n + x) = R n → fr (n + x) c = re (n + x) c
section
variable {D x tm wd cl : Nat} {R A K P T W : Nat → Nat} {s l w fr re : Nat → Nat → Nat} {base room : Nat → Nat}
theorem Flow0.le (h : Flow0 D tm wd cl R A K P T W s l w fr re base room) {n m : Nat} (hm : n ≤ m) : R n ≤ R m := by
  induction m with
  | zero => have : n = 0 := by omega
            rw [this]; exact Nat.le_refl _
  | succ m ih =>
    rcases Nat.lt_or_ge n (m + 1) with h1 | h1
    · exact Nat.le_trans (ih (by omega)) (h.mono m)
    · have : n = m + 1 := by omega
      rw [this]; exact Nat.le_refl _
/-- frames are neither lost nor made -/
theorem Flow0.sum (h : Flow0 D tm wd cl R A K P T W s l w fr re base room) (n : Nat) : A n + K n + W n = A 0 + K 0 + W 0 := by
  induction n with
  | zero => rfl
  | succ n ih =>
    obtain ⟨ch, k1, p1, t1, e1, e2, -, e4, e5, -⟩ := h.step n
    have := h.up n
    omega
theorem Flow0.hmono (h : Flow0 D tm wd cl R A K P T W s l w fr re base room) {n m : Nat} (hm : n ≤ m) : A n + K n ≤ A m + K m := by
  induction m with
  | zero => have : n = 0 := by omega
            rw [this]; exact Nat.le_refl _
  | succ m ih =>
    rcases Nat.lt_or_ge n (m + 1) with h1 | h1
    · have := ih (by omega)
      obtain ⟨ch, k1, p1, t1, e1, e2, -, e4, e5, -⟩ := h.step m
      have := h.up m
      omega
    · have : n = m + 1 := by omega
      rw [this]; exact Nat.le_refl _
/-- the sender is not ahead of what will have come -/
def Sync (D : Nat) (R A P : Nat → Nat) (n : Nat) : Prop := A n + P n ≤ R (n + D)
theorem Flow0.sync_next (h : Flow0 D tm wd cl R A K P T W s l w fr re base room) {n : Nat} (hs : Sync D R A P n) : Sync D R A P (n + 1) := by
  obtain ⟨ch, k1, p1, t1, e1, e2, -, e4, e5, -, e7⟩ := h.step n
  have h1 := h.up n; have h2 := h.low (n + 1); have h3 := h.le (show n + 1 ≤ n + D + 1 by omega); have h4 := h.mono (n + D); have h5 := h.pos n
  have h6 := h.ack n
  unfold Sync at *
  rw [show n + 1 + D = n + D + 1 by omega]
  have hlow : A (n + 1) ≤ R (n + D) ∨ D = 0 := by
    rcases Nat.eq_zero_or_pos D with hd | hd
    · exact .inr hd
    · exact .inl (Nat.le_trans h2 (h.le (by omega)))
  rcases e7 with ⟨_, q1, _, q3⟩ | ⟨_, _, _, q1, _, q3⟩ | ⟨_, _, _, q1, _, q3⟩ | ⟨_, q1, _, q3⟩
  · omega
  · omega
  · omega
  · omega
theorem Flow0.sync_on (h : Flow0 D tm wd cl R A K P T W s l w fr re base room) {n m : Nat} (hm : n ≤ m) (hs : Sync D R A P n) : Sync D R A P m := by
  induction m with
  | zero => have : n = 0 := by omega
            rwa [← this]
  | succ m ih =>
    rcases Nat.lt_or_ge n (m + 1) with h1 | h1
    · exact h.sync_next (ih (by omega))
    · have : n = m + 1 := by omega
      rwa [← this]
theorem Flow0.amono (h : Flow0 D tm wd cl R A K P T W s l w fr re base room) (n : Nat) : A 0 ≤ A n := by
  induction n with
  | zero => exact Nat.le_refl _
  | succ n ih => exact Nat.le_trans ih (h.up n).1
/-- the sender is soon not ahead any more -/
theorem Flow0.sync_soon (h : Flow0 D tm wd cl R A K P T W s l w fr re base room) (hD : 1 ≤ D) : ∃ n, n ≤ 2 * D + (K 0 + W 0 + 1) * (tm + 1) ∧ Sync D R A P n := by
  apply Classical.byContradiction
  intro hno
  have hns : ∀ n, n ≤ 2 * D + (K 0 + W 0 + 1) * (tm + 1) → R (n + D) < A n + P n := fun n hn => Nat.lt_of_not_le fun hs => hno ⟨n, hn, hs⟩
  -- nothing comes any more
  have hR : ∀ n, n ≤ 2 * D + (K 0 + W 0 + 1) * (tm + 1) → R (n + D) = R D := fun n => by
    induction n with
    | zero => intro _; rw [Nat.zero_add]
    | succ n ih =>
      intro hn
      have i1 := ih (by omega)
      have i2 := hns n (by omega)
      have i3 := hns (n + 1) hn
      obtain ⟨ch, k1, p1, t1, e1, e2, -, e4, e5, -, e7⟩ := h.step n
      have h1 := h.up n; have h2 := h.low (n + 1); have h3 := h.le (show n + 1 ≤ n + D by omega)
      rw [show n + 1 + D = n + D + 1 by omega] at i3 ⊢
      rcases e7 with ⟨_, q1, _, q3⟩ | ⟨_, _, _, q1, _, q3⟩ | ⟨_, _, _, q1, _, q3⟩ | ⟨_, q1, _, q3⟩
      · omega
      · omega
      · omega
      · omega
  have hA : ∀ n, 2 * D ≤ n → n ≤ 2 * D + (K 0 + W 0 + 1) * (tm + 1) → A n = R D := fun n h1 h2 => by
    have g1 := h.low n
    have g2 := h.le (show n ≤ n + D by omega)
    have g3 := hR n h2
    obtain ⟨j, rfl⟩ : ∃ j, n = j + D + 1 := ⟨n - D - 1, by omega⟩
    have g4 := h.ack j
    have g5 := h.le (show D ≤ j + 1 by omega)
    omega
  -- a measure that falls
  have key : ∀ j, j ≤ (K 0 + W 0 + 1) * (tm + 1) → (K 0 + W 0 - P (2 * D + j)) * (tm + 1) + (tm - T (2 * D + j)) + j ≤ (K 0 + W 0) * (tm + 1) + tm := fun j => by
    induction j with
    | zero =>
      intro _
      rw [Nat.add_zero, Nat.add_zero]
      exact Nat.add_le_add (Nat.mul_le_mul_right _ (Nat.sub_le _ _)) (Nat.sub_le _ _)
    | succ j ih =>
      intro hj
      have i1 := ih (by omega)
      have a1 := hA (2 * D + j) (by omega) (by omega)
      have a2 := hA (2 * D + j + 1) (by omega) (by omega)
      have b1 := hns (2 * D + j) (by omega)
      have b2 := hns (2 * D + j + 1) (by omega)
      have r1 := hR (2 * D + j) (by omega)
      have r2 := hR (2 * D + j + 1) (by omega)
      obtain ⟨ch, k1, p1, t1, e1, e2, E3, e4, e5, -, e7⟩ := h.step (2 * D + j)
      have e3 := E3.1 (by clear E3 e7; omega)
      clear E3
      have u1 := h.tim (2 * D + j)
      have u2 := h.tim (2 * D + j + 1)
      have u3 := h.sum (2 * D + j + 1)
      have u4 := h.pos (2 * D + j + 1)
      rw [show 2 * D + (j + 1) = 2 * D + j + 1 by omega]
      have hp : p1 = P (2 * D + j) := by omega
      rcases e7 with ⟨_, q1, _, q3⟩ | ⟨q0, q1, q2, q3, q4, q5⟩ | ⟨_, _, _, q1, _, q3⟩ | ⟨q0, q1, q2, q3⟩
      · omega
      · rw [q3, q4, hp]; omega
      · rw [show 2 * D + j + 1 + D = 2 * D + j + D + 1 by omega] at b2 r2
        omega
      · have hlt : P (2 * D + j) + 1 ≤ K 0 + W 0 := by have := h.amono (2 * D + j + 1); omega
        rw [q1, hp, q2]
        obtain ⟨d, hd⟩ : ∃ d, K 0 + W 0 = P (2 * D + j) + 1 + d := ⟨_, (Nat.add_sub_cancel' hlt).symm⟩
        rw [hd] at i1 ⊢
        rw [show P (2 * D + j) + 1 + d - P (2 * D + j) = d + 1 by omega, Nat.add_mul] at i1
        rw [show P (2 * D + j) + 1 + d - (P (2 * D + j) + 1) = d by omega]
        omega
  have := key ((K 0 + W 0 + 1) * (tm + 1)) (Nat.le_refl _)
  rw [Nat.add_mul] at this
  omega
/-- what is kept and not yet under way goes out soon -/
theorem Flow0.goes (h : Flow0 D tm wd cl R A K P T W s l w fr re base room) (hD : 1 ≤ D) {n m : Nat} (hs : Sync D R A P n) (hm : m ≤ R (n + D)) (hH : m + 1 ≤ A n + K n) : m + 1 ≤ R (n + 3 * D + 1) := by
  apply Classical.byContradiction
  intro hno
  have hc : ∀ j, n + D ≤ j → j ≤ n + 3 * D + 1 → R j = m := fun j h1 h2 => by
    have := h.le h1
    have := h.le h2
    omega
  have hs2 := h.sync_on (show n ≤ n + 2 * D by omega) hs
  have hs3 := h.sync_on (show n ≤ n + 2 * D + 1 by omega) hs
  unfold Sync at hs2 hs3
  rw [hc _ (by omega) (by omega)] at hs2 hs3
  have ha : m ≤ A (n + 2 * D) := by
    have := h.ack (n + D - 1)
    rw [show n + D - 1 + 1 = n + D by omega, show n + D - 1 + D + 1 = n + 2 * D by omega, hc _ (by omega) (by omega)] at this
    exact this
  have hh := h.hmono (show n ≤ n + 2 * D + 1 by omega)
  obtain ⟨ch, k1, p1, t1, e1, e2, -, e4, e5, -, e7⟩ := h.step (n + 2 * D)
  have h1 := h.up (n + 2 * D)
  have hR1 := hc (n + 2 * D + D + 1) (by omega) (by omega)
  have hR2 := hc (n + 2 * D + D) (by omega) (by omega)
  rw [hR1, hR2] at e7
  rcases e7 with ⟨q0, q1, _, q3⟩ | ⟨q0, q1, q2, q3, q4, q5⟩ | ⟨_, _, _, q1, _, q3⟩ | ⟨q0, q1, q2, q3⟩
  · omega
  · omega
  · omega
  · omega
/-- a frame that waits is chosen soon -/
theorem Flow.chosen (h : Flow D x tm wd cl R A K P T W s l w fr re base room) (hD : 1 ≤ D) {n m : Nat} (hH : A n + K n = m) (hm : m ≤ R n) (hW : 0 < W n) : m + 1 ≤ A (n + x + D + 1) + K (n + x + D + 1) := by
  apply Classical.byContradiction
  intro hno
  have hHc : ∀ j, n ≤ j → j ≤ n + x + D + 1 → A j + K j = m := fun j h1 h2 => by
    have := h.hmono h1
    have := h.hmono h2
    omega
  have hRc : ∀ j, n ≤ j → j ≤ n + x + D + 1 → R j = m := fun j h1 h2 => by
    have := h.le h1
    have := h.top j
    have := hHc j h1 h2
    omega
  have hWc : ∀ j, n ≤ j → j ≤ n + x + D + 1 → 0 < W j := fun j h1 h2 => by
    have := h.sum j; have := h.sum n
    have := hHc j h1 h2
    omega
  have hsc : ∀ i, i ≤ x + D → ∀ c, s (n + i) c = s n c := fun i => by
    induction i with
    | zero => intro _ c; rfl
    | succ i ih =>
      intro hi c
      obtain ⟨ch, k1, p1, t1, e1, e2, -, e4, e5, e6, -⟩ := h.step (n + i)
      have g1 := hHc (n + i) (by omega) (by omega)
      have g2 := hHc (n + i + 1) (by omega) (by omega)
      have g3 := h.up (n + i)
      rcases e6 with ⟨_, _, e6⟩ | e6
      · rw [← Nat.add_assoc, e6 c]; exact ih (by omega) c
      · omega
  obtain ⟨ch, k1, p1, t1, e1, e2, -, e4, e5, e6, -⟩ := h.step (n + x + D)
  have g1 := hHc (n + x + D) (by omega) (by omega)
  have g2 := hHc (n + x + D + 1) (by omega) (by omega)
  have g3 := h.up (n + x + D)
  have g4 := h.ack (n + x)
  rw [hRc (n + x + 1) (by omega) (by omega)] at g4
  rcases e6 with ⟨_, e6 | e6, _⟩ | e6
  · have := h.wd1
    omega
  · obtain ⟨c, hc, hwc⟩ := h.wait (n + x + D) (hWc (n + x + D) (by omega) (by omega))
    have e6 := (e6 c hc).resolve_left (by omega)
    have d1 := h.drain n c hc (by rw [hRc (n + x) (by omega) (by omega), hRc n (by omega) (by omega)])
    have d2 := h.got (n + x) c hc (by rw [hRc (n + x) (by omega) (by omega), hHc (n + x) (by omega) (by omega)])
    have d3 := h.crd (n + x) c hc
    have d4 := h.rm c hc
    have d5 := hsc x (by omega) c
    have d6 := hsc (x + D) (by omega) c
    rw [← Nat.add_assoc] at d6
    omega
  · omega
/-- one frame more -/
theorem Flow.next (h : Flow D x tm wd cl R A K P T W s l w fr re base room) (hD : 1 ≤ D) {n m : Nat} (hs : Sync D R A P n) (hm : m ≤ R n) (hM : m + 1 ≤ A 0 + K 0 + W 0) : m + 1 ≤ R (n + x + 4 * D + 2) := by
  have h0 := h.top n
  have hsum := h.sum n
  rcases Nat.lt_or_ge m (R n) with h1 | h1
  · exact Nat.le_trans h1 (h.le (by omega))
  · rcases Nat.lt_or_ge m (A n + K n) with h2 | h2
    · exact Nat.le_trans (h.goes hD hs (Nat.le_trans hm (h.le (by omega))) h2) (h.le (by omega))
    · have h3 := h.chosen hD (n := n) (m := m) (by omega) hm (by omega)
      have h4 := h.goes hD (n := n + x + D + 1) (m := m) (h.sync_on (by omega) hs) (Nat.le_trans hm (h.le (by omega))) h3
      exact Nat.le_trans h4 (h.le (by omega))
theorem Flow.each (h : Flow D x tm wd cl R A K P T W s l w fr re base room) (hD : 1 ≤ D) {n : Nat} (hs : Sync D R A P n) : ∀ m, m ≤ K 0 + W 0 → A 0 + m ≤ R (n + m * (x + 4 * D + 2))
  | 0, _ => Nat.le_trans (h.amono n) (Nat.le_trans (h.low n) (h.le (by omega)))
  | m + 1, hm => by
    have ih := h.each hD hs m (by omega)
    have := h.next hD (n := n + m * (x + 4 * D + 2)) (m := A 0 + m) (h.sync_on (by omega) hs) ih (by omega)
    refine Nat.le_trans this (h.le ?_)
    rw [Nat.add_mul]
    omega
/-- in the end everything has come, is acknowledged, and nothing waits -/
theorem Flow.done_from (h : Flow D x tm wd cl R A K P T W s l w fr re base room) (hD : 1 ≤ D) {n0 n : Nat} (hs : Sync D R A P n0) (hn : n0 + (K 0 + W 0) * (x + 4 * D + 2) + D + x + 1 ≤ n) :
    R n = A 0 + K 0 + W 0 ∧ A n = A 0 + K 0 + W 0 ∧ K n = 0 ∧ W n = 0 ∧ ∀ c, c < cl → fr n c = re n c := by
  have h1 := h.each hD hs _ (Nat.le_refl _)
  have hsum := h.sum n
  have htop := h.top n
  obtain ⟨j, rfl⟩ : ∃ j, n = j + 1 + D + x := ⟨n - D - x - 1, by omega⟩
  have h2 : A 0 + (K 0 + W 0) ≤ R (j + 1) := Nat.le_trans h1 (h.le (by omega))
  have hj := h.top (j + 1)
  have hjs := h.sum (j + 1)
  have h3 := h.le (show j + 1 ≤ j + 1 + D + x by omega)
  have h4 : A 0 + K 0 + W 0 ≤ A (j + 1 + D + x) := by
    have hm : ∀ i, A (j + 1 + D) ≤ A (j + 1 + D + i) := fun i => by
      induction i with
      | zero => exact Nat.le_refl _
      | succ i ih => exact Nat.le_trans ih (h.up _).1
    have a1 := hm x
    have a2 := h.ack j
    rw [show j + D + 1 = j + 1 + D by omega] at a2
    omega
  have h5 := h.low (j + 1 + D + x)
  refine ⟨by omega, by omega, by omega, by omega, fun c hc => h.drain (j + 1 + D) c hc ?_⟩
  have h6 := h.le (show j + 1 ≤ j + 1 + D by omega)
  have h7 := h.top (j + 1 + D)
  have h8 := h.sum (j + 1 + D)
  omega
theorem Flow.done (h : Flow D x tm wd cl R A K P T W s l w fr re base room) (hD : 1 ≤ D) {n : Nat} (hn : 2 * D + (K 0 + W 0 + 1) * (tm + 1) + (K 0 + W 0) * (x + 4 * D + 2) + D + x + 1 ≤ n) :
    R n = A 0 + K 0 + W 0 ∧ A n = A 0 + K 0 + W 0 ∧ K n = 0 ∧ W n = 0 ∧ ∀ c, c < cl → fr n c = re n c := by
  obtain ⟨n0, h0, hs⟩ := h.sync_soon hD
  exact h.done_from hD hs (by omega)
end
end Go.Proofs.Ytcocnfbhileheaa

/- A tick of a port that is up, when a whole batch of packets of its peer's session comes: what it does, in detail. No program in sight. -/
namespace Go.Proofs.Ytcocnfbhileheaa

/-- what a port that is up sends: its greeting, an acknowledgment, a credit for each class, and data or none -/
def upB (i v r : Nat) (l : Nat → Int) (k : Nat) (ds : List Pt) : List Pt :=
  (⟨1#8, 0, (i : Int), (v : Int), []⟩ : Pt) :: ⟨3#8, 0, ((r % 256 : Nat) : Int), (i : Int), []⟩ :: ((List.range k).map fun (c : Nat) => (⟨4#8, (c : Int), l c, (i : Int), []⟩ : Pt)) ++ ds
theorem handle_hail {a : Prt} {i v : Nat} (hm : a.side.mine = a.inc) (h1 : 1 ≤ i) (h2 : i ≤ 1099511627775) (hs : a.side.seen ≤ i) (hp : a.peer = i) :
    a.handle ⟨1#8, 0, (i : Int), (v : Int), []⟩ = { a with side := { a.side with seen := i, silent := 0, peer := i, state := if v = a.inc then 2 else 1 } } := by
  have e : a.side.receive (i : Int) (v : Int) = { a.side with seen := i, silent := 0, peer := i, state := if v = a.inc then 2 else 1 } := by
    unfold Side.receive
    have e3 : (if (v : Int) = (a.side.mine : Int) then 2 else 1) = if v = a.inc then 2 else 1 := by
      rw [hm]
      by_cases hv : v = a.inc
      · rw [if_pos hv, if_pos (by rw [hv])]
      · rw [if_neg hv, if_neg (by omega)]
    rw [if_neg (by omega), Int.toNat_natCast, e3]
  unfold Prt.handle
  rw [if_pos rfl]
  unfold Prt.greet
  dsimp only
  rw [e]
  exact if_neg fun h => h.2 hp.symm
theorem handle_up {a : Prt} {i : Nat} (hs : a.side.state = 2) (hp : a.side.peer = i) (hi : 1 ≤ i) (k : BitVec 8) (hk : ¬ k = 1#8) (c n : Int) (d : Bytes) :
    a.handle ⟨k, c, n, (i : Int), d⟩ = if k = 2#8 then a.receive ⟨k, c, n, (i : Int), d⟩ else if k = 3#8 then a.acknowledge ⟨k, c, n, (i : Int), d⟩ else if k = 4#8 then a.raise ⟨k, c, n, (i : Int), d⟩ else a := by
  unfold Prt.handle
  rw [if_neg hk, if_neg]
  exact fun h => h ⟨hs, by omega, by show (a.side.peer : Int) = (i : Int); rw [hp]⟩
theorem handle_creds {i : Nat} (hi : 1 ≤ i) (l : Nat → Int) {a : Prt} (hs : a.side.state = 2) (hp : a.side.peer = i) (hl : a.tak.length = a.rooms.length) : ∀ k,
    ∃ tk : List Tak, ((List.range k).map fun (c : Nat) => (⟨4#8, (c : Int), l c, (i : Int), []⟩ : Pt)).foldl Prt.handle a = { a with tak := tk } ∧ tk.length = a.tak.length ∧ ∀ c, tk.getD c ⟨0, 0⟩ = if c < k ∧ c < a.rooms.length then (a.tk c).raise (l c) else a.tk c
  | 0 => ⟨a.tak, rfl, rfl, fun c => by rw [if_neg fun h => Nat.not_lt_zero c h.1]⟩
  | k + 1 => by
    obtain ⟨tk, e, h1, h2⟩ := handle_creds hi l hs hp hl k
    by_cases hk : k < a.rooms.length
    · refine ⟨tk.set k ((a.tk k).raise (l k)), ?_, by simp [h1], fun c => ?_⟩
      · rw [List.range_succ, List.map_append, List.foldl_append, e]
        show Prt.handle { a with tak := tk } ⟨4#8, (k : Int), l k, (i : Int), []⟩ = _
        rw [handle_up (a := { a with tak := tk }) hs hp hi _ kk41, if_neg kk42, if_neg kk43, if_pos rfl]
        unfold Prt.raise
        rw [if_pos (show Prt.has { a with tak := tk } (k : Int) from (show 0 ≤ (k : Int) ∧ (k : Int) < (a.rooms.length : Int) by omega))]
        dsimp only
        rw [Int.toNat_natCast, h2 k, if_neg fun h => Nat.lt_irrefl k h.1]
      · rw [getD_set _ _ _ _ _ (by omega), h2 c]
        by_cases e : k = c
        · subst e; rw [if_pos rfl, if_pos ⟨by omega, hk⟩]
        · rw [if_neg e]
          by_cases h : c < k ∧ c < a.rooms.length
          · rw [if_pos h, if_pos ⟨by omega, h.2⟩]
          · rw [if_neg h, if_neg fun h' => h ⟨by omega, h'.2⟩]
    · refine ⟨tk, ?_, h1, fun c => ?_⟩
      · rw [List.range_succ, List.map_append, List.foldl_append, e]
        show Prt.handle { a with tak := tk } ⟨4#8, (k : Int), l k, (i : Int), []⟩ = _
        rw [handle_up (a := { a with tak := tk }) hs hp hi _ kk41, if_neg kk42, if_neg kk43, if_pos rfl]
        unfold Prt.raise
        rw [if_neg (show ¬ Prt.has { a with tak := tk } (k : Int) from fun h => hk (by have h : 0 ≤ (k : Int) ∧ (k : Int) < (a.rooms.length : Int) := h
                                                                                       omega))]
      · rw [h2 c]
        by_cases h : c < k ∧ c < a.rooms.length
        · rw [if_pos h, if_pos ⟨by omega, h.2⟩]
        · rw [if_neg h, if_neg fun h' => h ⟨by omega, h'.2⟩]
theorem receive_upd (a : Prt) (sd : Side) (s : Snd) (ak : List Nat) (kp : List (Nat × Bytes)) (tk : List Tak) (y : Pt) :
    ({ a with side := sd, snd := s, acked := ak, kept := kp, tak := tk } : Prt).receive y = { a.receive y with side := sd, snd := s, acked := ak, kept := kp, tak := tk } := by
  unfold Prt.receive
  by_cases h : ¬ a.has y.cls ∨ y.number ≠ (a.rcv % 256 : Nat)
  · rw [if_pos h, if_pos (show ¬ Prt.has { a with side := sd, snd := s, acked := ak, kept := kp, tak := tk } y.cls ∨ _ from h)]
  · rw [if_neg h, if_neg (show ¬ (¬ Prt.has { a with side := sd, snd := s, acked := ak, kept := kp, tak := tk } y.cls ∨ _) from h)]
    dsimp only
    split <;> rfl
/-- the frames of data that come -/
def Prt.recvs (a : Prt) (ds : List Pt) : Prt := ds.foldl Prt.receive a
def IsData (i : Nat) (ds : List Pt) : Prop := ds = [] ∨ ∃ c n d, ds = [⟨2#8, c, n, (i : Int), d⟩]
theorem foldl_upB {N : Nat} {a : Prt} (ok : a.Ok N) (hm : a.Min) {i r k : Nat} {l : Nat → Int} {ds : List Pt} (h1 : 1 ≤ i) (h2 : i ≤ 1099511627775) (hs : a.side.seen ≤ i) (hp : a.peer = i)
    (hr : a.snd.acked ≤ r) (hr2 : r ≤ a.snd.acked + a.snd.sent) (hd : IsData i ds) :
    ∃ tk ak, tk.length = a.tak.length ∧ (∀ c, tk.getD c ⟨0, 0⟩ = if c < k ∧ c < a.rooms.length then (a.tk c).raise (l c) else a.tk c) ∧
      (upB i a.inc r l k ds).foldl Prt.handle a = { a.recvs ds with side := { a.side with seen := i, silent := 0, peer := i, state := 2 }, snd := a.snd.drop (r - a.snd.acked), acked := ak, kept := a.kept.drop (r - a.snd.acked), tak := tk } := by
  obtain ⟨sd, hsd⟩ : ∃ sd : Side, sd = { a.side with seen := i, silent := 0, peer := i, state := 2 } := ⟨_, rfl⟩
  have e1 : a.handle ⟨1#8, 0, (i : Int), (a.inc : Int), []⟩ = { a with side := sd } := by
    rw [handle_hail hm h1 h2 hs hp, if_pos rfl, hsd]
  have s2 : sd.state = 2 := by rw [hsd]
  have s3 : sd.peer = i := by rw [hsd]
  have e2 : Prt.handle { a with side := sd } ⟨3#8, 0, ((r % 256 : Nat) : Int), (i : Int), []⟩ = { a with side := sd, snd := a.snd.drop (r - a.snd.acked), acked := tally a.acked (a.kept.take (r - a.snd.acked)), kept := a.kept.drop (r - a.snd.acked) } := by
    rw [handle_up (a := { a with side := sd }) s2 s3 h1 _ kk31, if_neg kk32, if_pos rfl]
    exact (ack_exact (a := { a with side := sd }) (y := ⟨3#8, 0, ((r % 256 : Nat) : Int), (i : Int), []⟩) ok.snd hr hr2 rfl).1
  obtain ⟨tk, e3, h3, h4⟩ := handle_creds h1 l (a := { a with side := sd, snd := a.snd.drop (r - a.snd.acked), acked := tally a.acked (a.kept.take (r - a.snd.acked)), kept := a.kept.drop (r - a.snd.acked) }) s2 s3 ok.tl k
  refine ⟨tk, tally a.acked (a.kept.take (r - a.snd.acked)), h3, h4, ?_⟩
  show (((List.range k).map fun (c : Nat) => (⟨4#8, (c : Int), l c, (i : Int), []⟩ : Pt)) ++ ds).foldl Prt.handle (Prt.handle (a.handle ⟨1#8, 0, (i : Int), (a.inc : Int), []⟩) ⟨3#8, 0, ((r % 256 : Nat) : Int), (i : Int), []⟩) = _
  rw [e1, e2, List.foldl_append, e3]
  rcases hd with rfl | ⟨c, n, d, rfl⟩
  · rw [hsd]; rfl
  · show Prt.handle { a with side := sd, snd := a.snd.drop (r - a.snd.acked), acked := tally a.acked (a.kept.take (r - a.snd.acked)), kept := a.kept.drop (r - a.snd.acked), tak := tk } ⟨2#8, c, n, (i : Int), d⟩ = _
    rw [handle_up (a := { a with side := sd, snd := a.snd.drop (r - a.snd.acked), acked := tally a.acked (a.kept.take (r - a.snd.acked)), kept := a.kept.drop (r - a.snd.acked), tak := tk }) s2 s3 h1 _ kk21, if_pos rfl, receive_upd, hsd]
    rfl
/-- what receives changes -/
theorem receive_same (a : Prt) (y : Pt) : (a.receive y).inc = a.inc ∧ (a.receive y).rooms = a.rooms ∧ (a.receive y).window = a.window ∧ (a.receive y).timeout = a.timeout ∧ (a.receive y).peer = a.peer ∧ (a.receive y).base = a.base ∧ (a.receive y).taken = a.taken ∧ (a.receive y).waiting = a.waiting ∧ (a.receive y).arb = a.arb ∧ (a.receive y).dead = a.dead := by
  unfold Prt.receive
  split
  · exact ⟨rfl, rfl, rfl, rfl, rfl, rfl, rfl, rfl, rfl, rfl⟩
  · dsimp only; split <;> exact ⟨rfl, rfl, rfl, rfl, rfl, rfl, rfl, rfl, rfl, rfl⟩
theorem recvs_same {i : Nat} {ds : List Pt} (h : IsData i ds) (a : Prt) : (a.recvs ds).inc = a.inc ∧ (a.recvs ds).rooms = a.rooms ∧ (a.recvs ds).window = a.window ∧ (a.recvs ds).timeout = a.timeout ∧ (a.recvs ds).peer = a.peer ∧ (a.recvs ds).base = a.base ∧ (a.recvs ds).taken = a.taken ∧ (a.recvs ds).waiting = a.waiting ∧ (a.recvs ds).arb = a.arb ∧ (a.recvs ds).dead = a.dead := by
  rcases h with rfl | ⟨c, n, d, rfl⟩
  · exact ⟨rfl, rfl, rfl, rfl, rfl, rfl, rfl, rfl, rfl, rfl⟩
  · exact receive_same _ _
theorem firstReq_none {req : List Bool} {ptr n : Nat} : ∀ {k i : Nat}, firstReq req ptr n i k = none → ∀ j, i ≤ j → j < i + k → req.getD ((ptr + j) % n) false = false
  | 0, i, _, j, h1, h2 => by omega
  | k + 1, i, h, j, h1, h2 => by
    unfold firstReq at h
    split at h
    · cases h
    · rename_i hr
      by_cases e : j = i
      · subst e; simpa using hr
      · exact firstReq_none h j (by omega) (by omega)
theorem choice_none {arb : Arb} {req : List Bool} (ok : arb.Ok req.length) (h : arb.choice req = none) {c : Nat} (hc : c < req.length) : req.getD c false = false := by
  have hp := ok.ptr
  have key := firstReq_none h
  rcases Nat.lt_or_ge c arb.ptr with h1 | h1
  · have := key (c + req.length - arb.ptr) (Nat.zero_le _) (by omega)
    rwa [show arb.ptr + (c + req.length - arb.ptr) = c + req.length by omega, Nat.add_mod_right, Nat.mod_eq_of_lt hc] at this
  · have := key (c - arb.ptr) (Nat.zero_le _) (by omega)
    rwa [show arb.ptr + (c - arb.ptr) = c by omega, Nat.mod_eq_of_lt hc] at this
/-- what choose does, and why it does nothing -/
theorem Prt.choose_all {N : Nat} {a : Prt} (h : a.Ok N) : (∃ r, a.choose = { a with arb := r } ∧ (a.window ≤ a.snd.kept.length ∨ ∀ c, c < a.rooms.length → a.waiting.getD c [] = [] ∨ (a.tk c).limit ≤ (a.tk c).sent)) ∨
    ∃ (c : Nat) (d : Bytes) (l : List Bytes) (r : Arb), c < a.rooms.length ∧ a.waiting.getD c [] = d :: l ∧ a.snd.kept.length < a.window ∧
      a.choose = { a with arb := r, waiting := a.waiting.set c l, tak := a.tak.set c { a.tk c with sent := (a.tk c).sent + 1 }, snd := { a.snd with kept := a.snd.kept ++ [d] }, kept := a.kept ++ [(c, d)] } := by
  by_cases hw : a.window ≤ a.snd.kept.length
  · refine .inl ⟨a.arb, ?_, .inl hw⟩
    unfold Prt.choose
    rw [if_pos hw]
  · rcases Prt.choose_eq h with ⟨r, e⟩ | ⟨c, d, l, r, h1, h2, h3, h4, e⟩
    · cases hp : (a.arb.pick a.requests).1 with
      | none =>
        refine .inl ⟨r, e, .inr fun c hc => ?_⟩
        have hl : a.requests.length = a.rooms.length := by unfold Prt.requests; simp [h.wl]
        have := choice_none (req := a.requests) (by rw [hl]; exact h.arb) hp (c := c) (by rw [hl]; exact hc)
        unfold Prt.requests at this
        rw [List.getD, List.getElem?_map, List.getElem?_range (by rw [h.wl]; exact hc)] at this
        have this : (decide (0 < (a.waiting.getD c []).length) && decide ((a.tak.getD c ⟨0, 0⟩).sent < (a.tak.getD c ⟨0, 0⟩).limit)) = false := this
        rw [Bool.and_eq_false_iff] at this
        rcases this with h1 | h1
        · have h1 := of_decide_eq_false h1
          exact .inl (List.eq_nil_of_length_eq_zero (by omega))
        · have h1 := of_decide_eq_false h1
          exact .inr (Nat.le_of_not_lt h1)
      | some c =>
        exfalso
        have e2 : a.choose.kept = a.kept := by rw [e]
        unfold Prt.choose at e2
        rw [if_neg hw, hp] at e2
        have := congrArg List.length e2
        simp at this
    · exact .inr ⟨c, d, l, r, h1, h2, h4, e⟩
/-- what a tick does to a port that is up; q: the port behind it; ds: the data that came, ds': the data that go -/
structure Turn (a q : Prt) (i r k : Nat) (l : Nat → Int) (ds ds' : List Pt) : Prop where
  side : q.side = { a.side with seen := i, silent := 1, peer := i, state := 2 }
  inc : q.inc = a.inc
  rooms : q.rooms = a.rooms
  window : q.window = a.window
  timeout : q.timeout = a.timeout
  dead : q.dead = a.dead
  peer : q.peer = a.peer
  base : q.base = a.base
  taken : q.taken = a.taken
  rcv : q.rcv = (a.recvs ds).rcv
  giv : q.giv = (a.recvs ds).giv
  buffer : q.buffer = (a.recvs ds).buffer
  send : ∃ (ch : Hist) (tk : List Tak), tk.length = a.tak.length ∧ (∀ c, tk.getD c ⟨0, 0⟩ = if c < k ∧ c < a.rooms.length then (a.tk c).raise (l c) else a.tk c) ∧
    q.kept = a.kept.drop (r - a.snd.acked) ++ ch ∧
    q.snd = ({ a.snd.drop (r - a.snd.acked) with kept := (a.snd.drop (r - a.snd.acked)).kept ++ ch.map (·.2) } : Snd).tick.2 ∧
    (({ a.snd.drop (r - a.snd.acked) with kept := (a.snd.drop (r - a.snd.acked)).kept ++ ch.map (·.2) } : Snd).tick.1 = none ∧ ds' = [] ∨
      ∃ (n : Nat) (d : Bytes) (c : Nat), ({ a.snd.drop (r - a.snd.acked) with kept := (a.snd.drop (r - a.snd.acked)).kept ++ ch.map (·.2) } : Snd).tick.1 = some (n, d) ∧ ds' = [⟨2#8, (c : Int), (n : Int), (a.inc : Int), d⟩]) ∧
    ((ch = [] ∧ q.waiting = a.waiting ∧ q.tak = tk ∧ (a.window ≤ (a.snd.drop (r - a.snd.acked)).kept.length ∨ ∀ c, c < a.rooms.length → a.waiting.getD c [] = [] ∨ (tk.getD c ⟨0, 0⟩).limit ≤ (tk.getD c ⟨0, 0⟩).sent)) ∨
     ∃ (c : Nat) (d : Bytes) (w : List Bytes), ch = [(c, d)] ∧ c < a.rooms.length ∧ a.waiting.getD c [] = d :: w ∧ q.waiting = a.waiting.set c w ∧ q.tak = tk.set c { tk.getD c ⟨0, 0⟩ with sent := (tk.getD c ⟨0, 0⟩).sent + 1 } ∧ (a.snd.drop (r - a.snd.acked)).kept.length < a.window)
theorem tick_upB {N : Nat} {a : Prt} (ok : a.Ok N) (hm : a.Min) (hdd : 2 ≤ a.side.dead) {i r k : Nat} {l : Nat → Int} {ds : List Pt} (h1 : 1 ≤ i) (h2 : i ≤ 1099511627775) (hs : a.side.seen ≤ i) (hp : a.peer = i)
    (hr : a.snd.acked ≤ r) (hr2 : r ≤ a.snd.acked + a.snd.sent) (hd : IsData i ds) (hpay : ∀ y ∈ ds, y.pay.length ≤ 1000) :
    ∃ (q : Prt) (ds' : List Pt), a.tick (upB i a.inc r l k ds) = (upB a.inc i q.rcv (fun c => ((q.gv c).limit : Int) - ((q.bs c : Nat) : Int)) a.rooms.length ds', q) ∧ IsData a.inc ds' ∧ Turn a q i r k l ds ds' := by
  obtain ⟨tk, ak, t1, t2, e⟩ := foldl_upB ok hm (l := l) h1 h2 hs hp hr hr2 hd
  obtain ⟨b1, b2, b3, b4, b5, b6, b7, b8, b9, b10⟩ := recvs_same hd a
  have okA := ok.handles (upB i a.inc r l k ds) fun y hy => by
    unfold upB at hy
    rcases List.mem_cons.1 hy with rfl | hy
    · exact Nat.zero_le _
    · rcases List.mem_cons.1 hy with rfl | hy
      · exact Nat.zero_le _
      · rcases List.mem_append.1 hy with hy | hy
        · obtain ⟨c, _, rfl⟩ := List.mem_map.1 hy
          exact Nat.zero_le _
        · exact hpay y hy
  obtain ⟨a1, ha1⟩ : ∃ a1, a1 = (upB i a.inc r l k ds).foldl Prt.handle a := ⟨_, rfl⟩
  rw [← ha1] at okA e
  have hst : a1.side.tick = { a.side with seen := i, silent := 1, peer := i, state := 2 } := by
    rw [e]
    unfold Side.tick
    dsimp only
    rw [if_neg (by omega), if_neg (by omega)]
  have hs2 : a1.side.tick.state = 2 := by rw [hst]
  rw [Prt.tick_up ha1 hs2]
  have ok2 : Prt.Ok (N + 200 * (upB i a.inc r l k ds).length) { a1 with side := a1.side.tick } := okA.sideTick
  have hch := Prt.choose_all ok2
  have q0 : a1.hail = ⟨1#8, 0, (a.inc : Int), (i : Int), []⟩ := by
    show (⟨1#8, 0, (a1.inc : Int), (a1.side.tick.peer : Int), []⟩ : Pt) = _
    rw [hst, e]; dsimp only; rw [b1]
  have q1 : a1.ackn = ⟨3#8, 0, (((a.recvs ds).rcv % 256 : Nat) : Int), (a.inc : Int), []⟩ := by
    show (⟨3#8, 0, ((a1.rcv % 256 : Nat) : Int), (a1.inc : Int), []⟩ : Pt) = _
    rw [e]; dsimp only; rw [b1]
  have q2 : (List.range a1.base.length).map a1.cred = (List.range a.rooms.length).map fun (c : Nat) => (⟨4#8, (c : Int), (((a.recvs ds).giv.getD c ⟨0, 0, 0⟩).limit : Int) - ((a.base.getD c 0 : Nat) : Int), (a.inc : Int), []⟩ : Pt) := by
    rw [show a1.base.length = a.rooms.length by rw [e]; dsimp only; rw [b6, ok.sl]]
    refine List.map_congr_left fun c _ => ?_
    show (⟨4#8, (c : Int), ((a1.giv.getD c ⟨0, 0, 0⟩).limit : Int) - ((a1.base.getD c 0 : Nat) : Int), (a1.inc : Int), []⟩ : Pt) = _
    rw [e]; dsimp only; rw [b1, b6]
  rw [q0, q1, q2]
  have hA : a1.snd = a.snd.drop (r - a.snd.acked) ∧ a1.kept = a.kept.drop (r - a.snd.acked) ∧ a1.tak = tk ∧ a1.waiting = a.waiting ∧ a1.rooms = a.rooms ∧ a1.window = a.window ∧ a1.timeout = a.timeout ∧ a1.dead = a.dead ∧ a1.peer = a.peer ∧ a1.base = a.base ∧ a1.taken = a.taken ∧ a1.inc = a.inc ∧ a1.rcv = (a.recvs ds).rcv ∧ a1.giv = (a.recvs ds).giv ∧ a1.buffer = (a.recvs ds).buffer := by
    rw [e]; exact ⟨rfl, rfl, rfl, b8, b2, b3, b4, b10, b5, b6, b7, b1, rfl, rfl, rfl⟩
  obtain ⟨c1, c2, c3, c4, c5, c6, c7, c8, c9, c10, c11, c12, c13, c14, c15⟩ := hA
  clear e q0 q1 q2 ok2 okA
  -- what is chosen
  have hq : ∃ (ch : Hist) (q : Prt), Prt.choose { a1 with side := a1.side.tick } = q ∧ q.side = a1.side.tick ∧ q.inc = a.inc ∧ q.rooms = a.rooms ∧ q.window = a.window ∧ q.timeout = a.timeout ∧ q.dead = a.dead ∧ q.peer = a.peer ∧ q.base = a.base ∧ q.taken = a.taken ∧ q.rcv = (a.recvs ds).rcv ∧ q.giv = (a.recvs ds).giv ∧ q.buffer = (a.recvs ds).buffer ∧
      q.kept = a.kept.drop (r - a.snd.acked) ++ ch ∧ q.snd = { a.snd.drop (r - a.snd.acked) with kept := (a.snd.drop (r - a.snd.acked)).kept ++ ch.map (·.2) } ∧
      ((ch = [] ∧ q.waiting = a.waiting ∧ q.tak = tk ∧ (a.window ≤ (a.snd.drop (r - a.snd.acked)).kept.length ∨ ∀ c, c < a.rooms.length → a.waiting.getD c [] = [] ∨ (tk.getD c ⟨0, 0⟩).limit ≤ (tk.getD c ⟨0, 0⟩).sent)) ∨
       ∃ (c : Nat) (d : Bytes) (w : List Bytes), ch = [(c, d)] ∧ c < a.rooms.length ∧ a.waiting.getD c [] = d :: w ∧ q.waiting = a.waiting.set c w ∧ q.tak = tk.set c { tk.getD c ⟨0, 0⟩ with sent := (tk.getD c ⟨0, 0⟩).sent + 1 } ∧ (a.snd.drop (r - a.snd.acked)).kept.length < a.window) := by
    rcases hch with ⟨rr, e, h⟩ | ⟨c, d, w, rr, g1, g2, g3, e⟩
    · refine ⟨[], _, e, rfl, c12, c5, c6, c7, c8, c9, c10, c11, c13, c14, c15, by rw [List.append_nil]; exact c2, ?_, .inl ⟨rfl, c4, c3, ?_⟩⟩
      · rw [List.map_nil, List.append_nil]; exact c1
      · have h : a1.window ≤ a1.snd.kept.length ∨ ∀ c, c < a1.rooms.length → a1.waiting.getD c [] = [] ∨ (a1.tak.getD c ⟨0, 0⟩).limit ≤ (a1.tak.getD c ⟨0, 0⟩).sent := h
        rw [c6, c1, c5, c4, c3] at h
        exact h
    · have g1 : c < a1.rooms.length := g1
      have g2 : a1.waiting.getD c [] = d :: w := g2
      have g3 : a1.snd.kept.length < a1.window := g3
      rw [c5] at g1
      rw [c4] at g2
      rw [c1, c6] at g3
      refine ⟨[(c, d)], _, e, rfl, c12, c5, c6, c7, c8, c9, c10, c11, c13, c14, c15, ?_, ?_, .inr ⟨c, d, w, rfl, g1, g2, ?_, ?_, g3⟩⟩
      · show a1.kept ++ [(c, d)] = _
        rw [c2]
      · show ({ a1.snd with kept := a1.snd.kept ++ [d] } : Snd) = _
        rw [c1]; rfl
      · show a1.waiting.set c w = _
        rw [c4]
      · show a1.tak.set c { a1.tak.getD c ⟨0, 0⟩ with sent := (a1.tak.getD c ⟨0, 0⟩).sent + 1 } = _
        rw [c3]
  obtain ⟨ch, q, hq0, d1, d2, d3, d4, d5, d6, d7, d8, d9, d10, d11, d12, d13, d14, d15⟩ := hq
  rw [hq0]
  have hlim : (fun (c : Nat) => (⟨4#8, (c : Int), (((a.recvs ds).giv.getD c ⟨0, 0, 0⟩).limit : Int) - ((a.base.getD c 0 : Nat) : Int), (a.inc : Int), []⟩ : Pt)) = fun (c : Nat) => (⟨4#8, (c : Int), ((q.gv c).limit : Int) - ((q.bs c : Nat) : Int), (a.inc : Int), []⟩ : Pt) := by
    funext c
    show _ = (⟨4#8, (c : Int), ((q.giv.getD c ⟨0, 0, 0⟩).limit : Int) - ((q.base.getD c 0 : Nat) : Int), (a.inc : Int), []⟩ : Pt)
    rw [d11, d8]
  rw [hlim, ← d10]
  have mk : ∀ (s : Snd) (ds' : List Pt), q.snd.tick.2 = s → (q.snd.tick.1 = none ∧ ds' = [] ∨ ∃ (n : Nat) (d : Bytes) (c : Nat), q.snd.tick.1 = some (n, d) ∧ ds' = [⟨2#8, (c : Int), (n : Int), (a.inc : Int), d⟩]) → Turn a { q with snd := s } i r k l ds ds' := fun s ds' hs' hds => by
    rw [d14] at hs' hds
    exact ⟨d1.trans hst, d2, d3, d4, d5, d6, d7, d8, d9, d10, d11, d12, ch, tk, t1, t2, d13, hs'.symm, hds, d15⟩
  rcases hsn : q.snd.tick with ⟨o, s⟩
  cases o with
  | none => exact ⟨{ q with snd := s }, [], by unfold upB; rw [List.append_nil], .inl rfl, mk s [] (by rw [hsn]) (.inl ⟨by rw [hsn], rfl⟩)⟩
  | some nd =>
    obtain ⟨n, d⟩ := nd
    refine ⟨{ q with snd := s }, [⟨2#8, ((Prt.classOf { q with snd := s } n : Nat) : Int), (n : Int), (a.inc : Int), d⟩], ?_, .inr ⟨_, _, _, rfl⟩, mk s _ (by rw [hsn]) (.inr ⟨n, d, _, by rw [hsn], rfl⟩)⟩
    dsimp only
    rw [d2]; rfl
end Go.Proofs.Ytcocnfbhileheaa

/- Two ports over a way that loses nothing, over time: the run, and the time in which both are up. No program in sight. -/
namespace Go.Proofs.Ytcocnfbhileheaa

/-- frames are taken at a port -/
inductive Took (a : Prt) : Prt → Prop
  | refl : Took a a
  | step {p : Prt} {c : Nat} {d : Bytes} {l : List Bytes} : Took a p → c < p.rooms.length → p.buffer.getD c [] = d :: l →
      Took a { p with buffer := p.buffer.set c l, giv := p.giv.set c (p.gv c).free, taken := p.taken.set c (p.taken.getD c 0 + 1) }
theorem Took.eq {a p : Prt} (h : Took a p) : p = { a with buffer := p.buffer, giv := p.giv, taken := p.taken } := by
  induction h with
  | refl => rfl
  | @step p c d l _ _ _ ih =>
    have e : ∀ (x : List (List Bytes)) (y : List Giv) (z : List Nat), ({ p with buffer := x, giv := y, taken := z } : Prt) = { a with buffer := x, giv := y, taken := z } := fun x y z => by rw [ih]
    exact e _ _ _
theorem take_is {a : Prt} {c : Nat} {d : Bytes} {l : List Bytes} (hc : c < a.rooms.length) (hd : a.buffer.getD c [] = d :: l) :
    (a.take (c : Int)).2 = { a with buffer := a.buffer.set c l, giv := a.giv.set c (a.gv c).free, taken := a.taken.set c (a.taken.getD c 0 + 1) } := by
  have hh : a.has (c : Int) := ⟨by omega, by omega⟩
  have hp : a.peek (c : Int) = some d := by unfold Prt.peek; rw [if_pos hh, Int.toNat_natCast, hd]; rfl
  unfold Prt.take
  rw [hp]
  simp only [Int.toNat_natCast, hd, List.drop_succ_cons, List.drop_zero]
theorem Took.ok {a p : Prt} (h : Took a p) (hk : ∃ N, a.Ok N) : ∃ N, p.Ok N := by
  induction h with
  | refl => exact hk
  | @step p c d l _ hc hd ih =>
    obtain ⟨N, ih⟩ := ih
    have := ih.take (c : Int)
    rw [take_is hc hd] at this
    exact ⟨_, this⟩
section
variable {a b p : Prt} {wa wb : List Way} {oa ga ob gb : Nat → List Bytes} {da db : Nat → Nat}
theorem Took.both (h : Took a p) (hb : Both a b wa wb oa ga ob gb da db) : ∃ ga', Both p b wa wb oa ga' ob gb da db := by
  induction h with
  | refl => exact ⟨ga, hb⟩
  | step _ hc hd ih =>
    obtain ⟨ga', ih⟩ := ih
    exact ⟨_, ih.take hc hd⟩
/-- how far the credits went -/
theorem Took.freed (h : Took a p) (hb : Both a b wa wb oa ga ob gb da db) : ∀ c, (p.gv c).received = (a.gv c).received ∧ (p.gv c).room = (a.gv c).room ∧ (a.gv c).freed ≤ (p.gv c).freed := by
  induction h with
  | refl => exact fun c => ⟨rfl, rfl, Nat.le_refl _⟩
  | @step p c d l ht hc hd ih =>
    obtain ⟨ga', hA, tA, hB, tB, _, d2, _⟩ := ht.both hb
    intro k
    obtain ⟨i1, i2, i3⟩ := ih k
    have hcg : c < p.giv.length := by rw [d2.rc.gl]; exact hc
    show ((p.giv.set c (p.gv c).free).getD k ⟨0, 0, 0⟩).received = _ ∧ ((p.giv.set c (p.gv c).free).getD k ⟨0, 0, 0⟩).room = _ ∧ _ ≤ ((p.giv.set c (p.gv c).free).getD k ⟨0, 0, 0⟩).freed
    rw [getD_set _ _ _ _ _ hcg]
    by_cases e : c = k
    · subst e
      rw [if_pos rfl]
      unfold Giv.free
      split
      · exact ⟨i1, i2, i3⟩
      · exact ⟨i1, i2, Nat.le_succ_of_le i3⟩
    · rw [if_neg e]; exact ⟨i1, i2, i3⟩
end
/-- what is sent is short -/
theorem sent_pay {N : Nat} {a : Prt} (ok : a.Ok N) {l : List Pt} (hl : ∀ y ∈ l, y.pay.length ≤ 1000) : ∀ y ∈ (a.tick l).1, y.pay.length ≤ 1000 := by
  have ok1 := ok.handles l hl
  obtain ⟨a1, ha⟩ : ∃ a1, a1 = l.foldl Prt.handle a := ⟨_, rfl⟩
  rw [← ha] at ok1
  by_cases hs : a1.side.tick.state = 2
  · rw [Prt.tick_up ha hs]
    have ok3 := (show Prt.Ok (N + 200 * l.length) { a1 with side := a1.side.tick } from ok1.sideTick).choose
    have hsent : ∀ y ∈ a1.hail :: a1.ackn :: (List.range a1.base.length).map a1.cred, y.pay.length ≤ 1000 := fun y hy => by
      rcases List.mem_cons.1 hy with rfl | hy
      · exact Nat.zero_le _
      · rcases List.mem_cons.1 hy with rfl | hy
        · exact Nat.zero_le _
        · obtain ⟨c, _, rfl⟩ := List.mem_map.1 hy
          exact Nat.zero_le _
    generalize Prt.choose { a1 with side := a1.side.tick } = q at ok3 ⊢
    generalize a1.hail :: a1.ackn :: (List.range a1.base.length).map a1.cred = sent at hsent ⊢
    rcases Snd.tick_cases q.snd with ⟨e1, t, e2⟩ | ⟨i, hi, e1, e2⟩
    · rcases hq : q.snd.tick with ⟨o, s⟩
      rw [hq] at e1
      dsimp only at e1
      subst e1
      exact hsent
    · rcases hq : q.snd.tick with ⟨o, s⟩
      rw [hq] at e1
      dsimp only at e1
      subst e1
      intro y hy
      rcases List.mem_append.1 hy with hy | hy
      · exact hsent y hy
      · rw [List.mem_singleton.1 hy]
        refine Nat.le_trans (ok3.snd.small _ ?_) (by decide)
        rw [List.getD, List.getElem?_eq_getElem hi]
        exact List.getElem_mem hi
  · rw [Prt.tick_down ha hs]
    intro y hy
    rw [List.mem_singleton.1 hy]
    exact Nat.zero_le _
/-- the side's patience -/
theorem handle_dead (p : Prt) (y : Pt) : (p.handle y).side.dead = p.side.dead := by
  have hr : ∀ (s : Side) (m v : Int), (s.receive m v).dead = s.dead := fun s m v => by unfold Side.receive; split <;> rfl
  unfold Prt.handle
  split
  · unfold Prt.greet; dsimp only
    split
    · exact hr _ _ _
    · exact hr _ _ _
  · split
    · rfl
    · split
      · unfold Prt.receive; split
        · rfl
        · dsimp only; split <;> rfl
      · split
        · rfl
        · split
          · unfold Prt.raise; split <;> rfl
          · rfl
theorem handles_dead : ∀ (l : List Pt) (p : Prt), (l.foldl Prt.handle p).side.dead = p.side.dead
  | [], _ => rfl
  | y :: l, p => by rw [List.foldl_cons, handles_dead l, handle_dead]
theorem tick_dead (p : Prt) (l : List Pt) : (p.tick l).2.side.dead = p.side.dead := by
  have hs : ∀ s : Side, s.tick.dead = s.dead := fun s => by unfold Side.tick; split; rfl; split <;> rfl
  obtain ⟨a, ha⟩ : ∃ a, a = l.foldl Prt.handle p := ⟨_, rfl⟩
  have h1 : a.side.dead = p.side.dead := by rw [ha]; exact handles_dead l p
  by_cases h : a.side.tick.state = 2
  · rw [Prt.tick_up ha h]
    have c1 := (choose_side { a with side := a.side.tick }).1
    have h2 : (Prt.choose { a with side := a.side.tick }).side.dead = p.side.dead := by rw [c1]; exact (hs _).trans h1
    split
    · exact h2
    · exact h2
  · rw [Prt.tick_down ha h]
    exact (hs _).trans h1

/-- what is under way -/
def ways (B : Nat → List Way) (D n : Nat) : List Way := ((List.range D).map fun j => B (n + j)).flatten
theorem ways_succ (B : Nat → List Way) {D : Nat} (hD : 1 ≤ D) (n : Nat) : ∃ rest, ways B D n = B n ++ rest ∧ ways B D (n + 1) = rest ++ B (n + D) := by
  obtain ⟨d, rfl⟩ : ∃ d, D = d + 1 := ⟨D - 1, by omega⟩
  refine ⟨((List.range d).map fun j => B (n + 1 + j)).flatten, ?_, ?_⟩
  · unfold ways
    rw [List.range_succ_eq_map, List.map_cons, List.flatten_cons, List.map_map, Nat.add_zero]
    congr 2
    refine List.map_congr_left fun j _ => ?_
    show B (n + (j + 1)) = _
    rw [show n + (j + 1) = n + 1 + j by omega]
  · unfold ways
    rw [List.range_succ, List.map_append, List.flatten_append]
    congr 1
    show [B (n + 1 + d)].flatten = _
    rw [List.flatten_cons, List.flatten_nil, List.append_nil, show n + 1 + d = n + (d + 1) by omega]
theorem ways_mem {B : Nat → List Way} {D n : Nat} {j : Nat} (hj : j < D) : ∀ p ∈ B (n + j), p ∈ ways B D n := fun _ hp =>
  List.mem_flatten.2 ⟨B (n + j), List.mem_map.2 ⟨j, List.mem_range.2 hj, rfl⟩, hp⟩
/-- two ports over time, nothing is lost; Ba n: what comes to b at its n-th tick -/
structure Go (D : Nat) (a b : Nat → Prt) (Ba Bb : Nat → List Way) : Prop where
  hD : 1 ≤ D
  ba : ∀ n, Ba (n + D) = ((a n).tick ((Bb n).map (·.2))).1.map fun y => (((a n).tick ((Bb n).map (·.2))).2.tag, y)
  bb : ∀ n, Bb (n + D) = ((b n).tick ((Ba n).map (·.2))).1.map fun y => (((b n).tick ((Ba n).map (·.2))).2.tag, y)
  na : ∀ n, Took ((a n).tick ((Bb n).map (·.2))).2 (a (n + 1))
  nb : ∀ n, Took ((b n).tick ((Ba n).map (·.2))).2 (b (n + 1))
  okA : ∃ N, (a 0).Ok N
  okB : ∃ N, (b 0).Ok N
  minA : (a 0).Min
  minB : (b 0).Min
  payA : ∀ j, j < D → ∀ p ∈ Ba j, p.2.pay.length ≤ 1000
  payB : ∀ j, j < D → ∀ p ∈ Bb j, p.2.pay.length ≤ 1000
  both : ∃ oa ga ob gb da db, Both (a 0) (b 0) (ways Ba D 0) (ways Bb D 0) oa ga ob gb da db
/-- what holds at each time -/
structure At' (D : Nat) (a b : Nat → Prt) (Ba Bb : Nat → List Way) (n : Nat) : Prop where
  okA : ∃ N, (a n).Ok N
  okB : ∃ N, (b n).Ok N
  minA : (a n).Min
  minB : (b n).Min
  payA : ∀ j, j < n + D → ∀ p ∈ Ba j, p.2.pay.length ≤ 1000
  payB : ∀ j, j < n + D → ∀ p ∈ Bb j, p.2.pay.length ≤ 1000
  both : ∃ oa ga ob gb da db, Both (a n) (b n) (ways Ba D n) (ways Bb D n) oa ga ob gb da db
section
variable {D : Nat} {a b : Nat → Prt} {Ba Bb : Nat → List Way}
theorem Go.swap (g : Go D a b Ba Bb) : Go D b a Bb Ba := by
  obtain ⟨oa, ga, ob, gb, da, db, h⟩ := g.both
  exact ⟨g.hD, g.bb, g.ba, g.nb, g.na, g.okB, g.okA, g.minB, g.minA, g.payB, g.payA, ob, gb, oa, ga, db, da, h.swap⟩
theorem At'.swap {n : Nat} (g : At' D a b Ba Bb n) : At' D b a Bb Ba n := by
  obtain ⟨oa, ga, ob, gb, da, db, h⟩ := g.both
  exact ⟨g.okB, g.okA, g.minB, g.minA, g.payB, g.payA, ob, gb, oa, ga, db, da, h.swap⟩
theorem min_took {p q : Prt} (h : Took p q) (hm : p.Min) : q.Min := by rw [h.eq]; exact hm
theorem Go.at (g : Go D a b Ba Bb) (n : Nat) : At' D a b Ba Bb n := by
  induction n with
  | zero => exact ⟨g.okA, g.okB, g.minA, g.minB, fun j hj => g.payA j (by omega), fun j hj => g.payB j (by omega), g.both⟩
  | succ n ih =>
    have hD := g.hD
    obtain ⟨NA, okA⟩ := ih.okA
    obtain ⟨NB, okB⟩ := ih.okB
    have pA : ∀ y ∈ (Ba n).map (·.2), y.pay.length ≤ 1000 := fun y hy => by
      obtain ⟨p, hp, rfl⟩ := List.mem_map.1 hy
      exact ih.payA n (by omega) p hp
    have pB : ∀ y ∈ (Bb n).map (·.2), y.pay.length ≤ 1000 := fun y hy => by
      obtain ⟨p, hp, rfl⟩ := List.mem_map.1 hy
      exact ih.payB n (by omega) p hp
    obtain ⟨oa, ga, ob, gb, da, db, hb⟩ := ih.both
    obtain ⟨ra, ea1, ea2⟩ := ways_succ Ba hD n
    obtain ⟨rb, eb1, eb2⟩ := ways_succ Bb hD n
    rw [ea1, eb1] at hb
    have h1 := hb.tick okA okB.i2 fun x hx => ih.payB n (by omega) x hx
    rw [← g.ba n, List.append_assoc] at h1
    have okA' : ((a n).tick ((Bb n).map (·.2))).2.inc ≤ 1099511627775 := by rw [(tick_keeps _ _).2.1]; exact okA.i2
    have h2 := h1.swap.tick okB okA' fun x hx => ih.payA n (by omega) x hx
    rw [← g.bb n, ← ea2, ← eb2] at h2
    obtain ⟨gb', h3⟩ := (g.nb n).both h2
    obtain ⟨ga', h4⟩ := (g.na n).both h3.swap
    refine ⟨(g.na n).ok ⟨_, okA.tick pB⟩, (g.nb n).ok ⟨_, okB.tick pA⟩, min_took (g.na n) ((tick_keeps _ _).2.2 ih.minA), min_took (g.nb n) ((tick_keeps _ _).2.2 ih.minB), fun j hj => ?_, fun j hj => ?_, _, _, _, _, _, _, h4⟩
    · rcases Nat.lt_or_ge j (n + D) with h | h
      · exact ih.payA j h
      · obtain rfl : j = n + D := by omega
        intro p hp
        rw [g.ba n] at hp
        obtain ⟨y, hy, rfl⟩ := List.mem_map.1 hp
        exact sent_pay okA pB y hy
    · rcases Nat.lt_or_ge j (n + D) with h | h
      · exact ih.payB j h
      · obtain rfl : j = n + D := by omega
        intro p hp
        rw [g.bb n] at hp
        obtain ⟨y, hy, rfl⟩ := List.mem_map.1 hp
        exact sent_pay okB pA y hy
/-- a whole batch of a session -/
def Bat (i v k : Nat) (B : List Way) : Prop := ∃ (t : Tag) (l : Nat → Int) (ds : List Pt), B = (upB i v t.r l k ds).map (fun y => (t, y)) ∧ IsData i ds ∧ t.i = i ∧ t.s = v
/-- both are up, and so is what is under way -/
structure Up (D : Nat) (a b : Nat → Prt) (Ba Bb : Nat → List Way) (n : Nat) : Prop where
  lk : Lkd (a n) (b n)
  fa : ∀ j, j < D → Bat (a n).inc (b n).inc (a n).rooms.length (Ba (n + j))
  fb : ∀ j, j < D → Bat (b n).inc (a n).inc (b n).rooms.length (Bb (n + j))
  dA : 2 ≤ (a n).side.dead
  dB : 2 ≤ (b n).side.dead
theorem Up.swap {n : Nat} (u : Up D a b Ba Bb n) : Up D b a Bb Ba n := ⟨⟨u.lk.2, u.lk.1⟩, u.fb, u.fa, u.dB, u.dA⟩
/-- the tick of a port at such a time -/
theorem Go.turn (g : Go D a b Ba Bb) {n : Nat} (u : Up D a b Ba Bb n) : ∃ (t : Tag) (l : Nat → Int) (ds ds' : List Pt) (q : Prt), Bb n = (upB (b n).inc (a n).inc t.r l (b n).rooms.length ds).map (fun y => (t, y)) ∧ t.i = (b n).inc ∧ t.s = (a n).inc ∧ IsData (b n).inc ds ∧ IsData (a n).inc ds' ∧
    (a n).snd.acked ≤ t.r ∧ t.r ≤ (a n).snd.acked + (a n).snd.sent ∧ (a n).tick ((Bb n).map (·.2)) = (upB (a n).inc (b n).inc q.rcv (fun c => ((q.gv c).limit : Int) - ((q.bs c : Nat) : Int)) (a n).rooms.length ds', q) ∧
    Turn (a n) q (b n).inc t.r (b n).rooms.length l ds ds' ∧ Took q (a (n + 1)) := by
  have hD := g.hD
  have A := g.at n
  obtain ⟨N, ok⟩ := A.okA
  obtain ⟨NB, okB⟩ := A.okB
  obtain ⟨oa, ga, ob, gb, da, db, hA, tA, hB, tB, ⟨d1, _⟩, d2, _⟩ := A.both
  obtain ⟨t, l, ds, e, hds, ti, ts⟩ := u.fb 0 (by omega)
  rw [Nat.add_zero] at e
  have hm : (Bb n).map (·.2) = upB (b n).inc (a n).inc t.r l (b n).rooms.length ds := by rw [e, List.map_map]; exact List.map_id _
  have hmem : (t, (⟨1#8, 0, ((b n).inc : Int), ((a n).inc : Int), []⟩ : Pt)) ∈ ways Bb D n := ways_mem (j := 0) (by omega) _ (by rw [Nat.add_zero, e]; exact List.mem_cons_self ..)
  have hl := d1.lnk u.lk.1 u.lk.2
  have r1 : (a n).snd.acked ≤ t.r := d1.akd _ hmem ti ts u.lk.1 u.lk.2
  have r2 : t.r ≤ (b n).rcv := ((d2.cur _ hmem).2 (show t.i = (b n).inc from ti) (show t.s = (b n).peer from ts.trans u.lk.1.symm)).2.1
  have r3 : t.r ≤ (a n).snd.acked + (a n).snd.sent := by have := hl.tq; have := d1.rc.rt; omega
  have hpay : ∀ y ∈ ds, y.pay.length ≤ 1000 := fun y hy => A.payB n (by omega) (t, y) (by
    rw [e]
    refine List.mem_map.2 ⟨y, ?_, rfl⟩
    unfold upB
    exact List.mem_cons_of_mem _ (List.mem_cons_of_mem _ (List.mem_append_right _ hy)))
  obtain ⟨q, ds', e2, hds', ht⟩ := tick_upB ok A.minA u.dA (k := (b n).rooms.length) (l := l) d1.inc okB.i2 d2.sl u.lk.2 r1 r3 hds hpay
  have htk := g.na n
  rw [hm, e2] at htk
  exact ⟨t, l, ds, ds', q, e, ti, ts, hds, hds', r1, r3, by rw [hm]; exact e2, ht, htk⟩
/-- both stay up -/
theorem Go.up_next (g : Go D a b Ba Bb) {n : Nat} (u : Up D a b Ba Bb n) : Up D a b Ba Bb (n + 1) := by
  obtain ⟨t, l, ds, ds', q, e, ti, ts, hds, hds', r1, r3, htick, ht, htk⟩ := g.turn u
  obtain ⟨t2, l2, dt, dt', p, e2, ti2, ts2, hdt, hdt', r12, r32, htick2, ht2, htk2⟩ := g.swap.turn u.swap
  have ea := htk.eq
  have eb := htk2.eq
  have a1 : (a (n + 1)).inc = (a n).inc := by rw [ea]; exact ht.inc
  have a2 : (a (n + 1)).peer = (a n).peer := by rw [ea]; exact ht.peer
  have a3 : (a (n + 1)).rooms = (a n).rooms := by rw [ea]; exact ht.rooms
  have b1 : (b (n + 1)).inc = (b n).inc := by rw [eb]; exact ht2.inc
  have b2 : (b (n + 1)).peer = (b n).peer := by rw [eb]; exact ht2.peer
  have b3 : (b (n + 1)).rooms = (b n).rooms := by rw [eb]; exact ht2.rooms
  refine ⟨⟨by rw [b2, a1]; exact u.lk.1, by rw [a2, b1]; exact u.lk.2⟩, fun j hj => ?_, fun j hj => ?_, ?_, ?_⟩
  · rw [a1, b1, a3]
    rcases Nat.lt_or_ge (j + 1) D with h | h
    · have := u.fa (j + 1) h
      rwa [show n + (j + 1) = n + 1 + j by omega] at this
    · rw [show n + 1 + j = n + D by omega, g.ba n, htick]
      exact ⟨q.tag, _, ds', rfl, hds', ht.inc, show q.peer = _ from ht.peer.trans u.lk.2⟩
  · rw [a1, b1, b3]
    rcases Nat.lt_or_ge (j + 1) D with h | h
    · have := u.fb (j + 1) h
      rwa [show n + (j + 1) = n + 1 + j by omega] at this
    · rw [show n + 1 + j = n + D by omega, g.bb n, htick2]
      exact ⟨p.tag, _, dt', rfl, hdt', ht2.inc, show p.peer = _ from ht2.peer.trans u.lk.1⟩
  · rw [ea]
    show 2 ≤ q.side.dead
    rw [ht.side]; exact u.dA
  · rw [eb]
    show 2 ≤ p.side.dead
    rw [ht2.side]; exact u.dB
theorem Go.up_all (g : Go D a b Ba Bb) (u : Up D a b Ba Bb 0) (n : Nat) : Up D a b Ba Bb n := by
  induction n with
  | zero => exact u
  | succ n ih => exact g.up_next ih
end
end Go.Proofs.Ytcocnfbhileheaa

/- Two ports over a way that loses nothing: one direction is a flow. No program in sight. -/
namespace Go.Proofs.Ytcocnfbhileheaa

theorem snd_tick4 (s : Snd) : (s.kept.length = 0 ∧ s.tick = (none, s)) ∨ (0 < s.kept.length ∧ s.kept.length ≤ s.pos ∧ s.timer + 1 < s.timeout ∧ s.tick = (none, { s with timer := s.timer + 1 })) ∨
    (0 < s.kept.length ∧ s.kept.length ≤ s.pos ∧ s.timeout ≤ s.timer + 1 ∧ ∃ d, s.tick = (some (s.acked % 256, d), { s with pos := 1, sent := max s.sent 1, timer := 0 })) ∨
    (s.pos < s.kept.length ∧ ∃ d, s.tick = (some ((s.acked + s.pos) % 256, d), { s with pos := s.pos + 1, sent := max s.sent (s.pos + 1), timer := 0 })) := by
  unfold Snd.tick
  by_cases h0 : s.kept.length = 0
  · rw [if_pos h0]; exact .inl ⟨h0, rfl⟩
  · rw [if_neg h0]
    by_cases h1 : s.kept.length ≤ s.pos
    · rw [if_pos h1]
      by_cases h2 : s.timer + 1 < s.timeout
      · rw [if_pos h2]; exact .inr (.inl ⟨by omega, h1, h2, rfl⟩)
      · rw [if_neg h2]; exact .inr (.inr (.inl ⟨by omega, h1, by omega, _, rfl⟩))
    · rw [if_neg h1]; exact .inr (.inr (.inr ⟨by omega, _, rfl⟩))
theorem upB_inj {i v r k : Nat} {l l' : Nat → Int} {ds ds' : List Pt} {t t' : Tag} (_ : r = t.r) (h : (upB i v r l k ds).map (fun y => (t, y)) = (upB i v t'.r l' k ds').map (fun y => (t', y))) : t = t' ∧ ds = ds' ∧ ∀ c, c < k → l c = l' c := by
  unfold upB at h
  simp only [List.cons_append, List.map_cons, List.cons.injEq, Prod.mk.injEq] at h
  obtain ⟨⟨rfl, _⟩, _, h⟩ := h
  have h2 : ((List.range k).map fun (c : Nat) => (⟨4#8, (c : Int), l c, (i : Int), []⟩ : Pt)) ++ ds = ((List.range k).map fun (c : Nat) => (⟨4#8, (c : Int), l' c, (i : Int), []⟩ : Pt)) ++ ds' := by
    have := congrArg (List.map (fun p : Way => p.2)) h
    rw [List.map_map, List.map_map] at this
    exact (List.map_id _).symm.trans (this.trans (List.map_id _))
  obtain ⟨h3, h4⟩ := List.append_inj h2 (by simp)
  refine ⟨rfl, h4, fun c hc => ?_⟩
  have h5 := congrArg (fun x => x[c]?) h3
  simp only [List.getElem?_map, List.getElem?_range hc, Option.map_some, Option.some.injEq, Pt.mk.injEq] at h5
  exact h5.2.2.1
/-- data that come: the next frame is taken in, no other -/
theorem recv_index {p : Prt} {hist : Hist} {top t idx : Nat} {y : Pt} (h : Rec p hist top) (h1 : p.rcv ≤ t) (h2 : t ≤ top) (hc : Carries hist t y) (hn : y.number = ((idx % 256 : Nat) : Int)) (hi : idx < t) (hi2 : t ≤ idx + 128) :
    ((p.receive y).rcv = p.rcv + 1 ∧ idx = p.rcv) ∨ ((p.receive y).rcv = p.rcv ∧ idx ≠ p.rcv) := by
  obtain ⟨m, c, m1, m2, m3, m4, m5⟩ := hc
  have hlow := h.low
  have hm : m % 256 = idx % 256 := by rw [m5] at hn; exact_mod_cast hn
  obtain rfl : m = idx := by omega
  have hcl : c < p.rooms.length := h.cls _ (List.mem_of_getElem? m4)
  by_cases hr : m = p.rcv
  · refine .inl ⟨?_, hr⟩
    unfold Prt.receive
    rw [if_neg]
    · dsimp only; split <;> rfl
    · rintro (hh | hh)
      · exact hh (show 0 ≤ y.cls ∧ y.cls < p.rooms.length by omega)
      · exact hh (by rw [hn, hr])
  · refine .inr ⟨?_, hr⟩
    unfold Prt.receive
    rw [if_pos (.inr fun hh => hr (by rw [hn] at hh; have : m % 256 = p.rcv % 256 := by exact_mod_cast hh
                                      omega))]
theorem receive_gv (p : Prt) (y : Pt) (c : Nat) : ((p.receive y).gv c).freed = (p.gv c).freed ∧ ((p.receive y).gv c).room = (p.gv c).room := by
  unfold Prt.receive
  split
  · exact ⟨rfl, rfl⟩
  · dsimp only
    split
    · exact ⟨rfl, rfl⟩
    · show ((p.giv.set y.cls.toNat ((p.giv.getD y.cls.toNat ⟨0, 0, 0⟩).receive.2)).getD c ⟨0, 0, 0⟩).freed = _ ∧ ((p.giv.set y.cls.toNat ((p.giv.getD y.cls.toNat ⟨0, 0, 0⟩).receive.2)).getD c ⟨0, 0, 0⟩).room = _
      rcases Nat.lt_or_ge y.cls.toNat p.giv.length with h | h
      · rw [getD_set _ _ _ _ _ h]
        split
        · rename_i e; subst e
          unfold Giv.receive
          split <;> exact ⟨rfl, rfl⟩
        · exact ⟨rfl, rfl⟩
      · rw [List.set_eq_of_length_le h]; exact ⟨rfl, rfl⟩
theorem recvs_gv {i : Nat} {ds : List Pt} (h : IsData i ds) (p : Prt) (c : Nat) : ((p.recvs ds).gv c).freed = (p.gv c).freed ∧ ((p.recvs ds).gv c).room = (p.gv c).room := by
  rcases h with rfl | ⟨_, _, _, rfl⟩
  · exact ⟨rfl, rfl⟩
  · exact receive_gv _ _ _
/-- frames that wait -/
def wt (p : Prt) : Nat := (p.waiting.map List.length).sum
theorem wt_set : ∀ {l : List (List Bytes)} {c : Nat} {d : Bytes} {w : List Bytes}, l.getD c [] = d :: w → ((l.set c w).map List.length).sum + 1 = (l.map List.length).sum
  | [], c, d, w, h => by simp at h
  | x :: l, 0, d, w, h => by
    have h : x = d :: w := h
    subst h
    simp only [List.set_cons_zero, List.map_cons, List.sum_cons, List.length_cons]
    omega
  | x :: l, c + 1, d, w, h => by
    have := wt_set (l := l) (c := c) (d := d) (w := w) h
    simp only [List.set_cons_succ, List.map_cons, List.sum_cons]
    omega
theorem wt_zero : ∀ {l : List (List Bytes)}, (∀ c, c < l.length → l.getD c [] = []) → (l.map List.length).sum = 0
  | [], _ => rfl
  | x :: l, h => by
    have h0 : x = [] := h 0 (by simp)
    have := wt_zero (l := l) fun c hc => h (c + 1) (by simpa using hc)
    subst h0
    simp only [List.map_cons, List.sum_cons, List.length_nil, this]
section
variable {D : Nat} {a b : Nat → Prt} {Ba Bb : Nat → List Way}
/-- what a port is made as does not change -/
theorem Go.const (g : Go D a b Ba Bb) (u : Up D a b Ba Bb 0) (n : Nat) : (a n).inc = (a 0).inc ∧ (a n).rooms = (a 0).rooms ∧ (a n).window = (a 0).window ∧ (a n).base = (a 0).base ∧ (a n).snd.timeout = (a 0).snd.timeout := by
  induction n with
  | zero => exact ⟨rfl, rfl, rfl, rfl, rfl⟩
  | succ n ih =>
    obtain ⟨t, l, ds, ds', q, e, ti, ts, hds, hds', r1, r3, htick, ht, htk⟩ := g.turn (g.up_all u n)
    have ea := htk.eq
    obtain ⟨i1, i2, i3, i4, i5⟩ := ih
    refine ⟨by rw [ea]; exact ht.inc.trans i1, by rw [ea]; exact ht.rooms.trans i2, by rw [ea]; exact ht.window.trans i3, by rw [ea]; exact ht.base.trans i4, ?_⟩
    rw [ea]
    show q.snd.timeout = _
    obtain ⟨ch, tk, _, _, _, hs, _⟩ := ht.send
    have hd : ∀ (s : Snd) (k : Nat), (s.drop k).timeout = s.timeout := fun s k => by unfold Snd.drop; split <;> rfl
    have htk : ∀ s : Snd, s.tick.2.timeout = s.timeout := fun s => by
      rcases snd_tick4 s with ⟨_, e⟩ | ⟨_, _, _, e⟩ | ⟨_, _, _, _, e⟩ | ⟨_, _, e⟩ <;> rw [e]
    rw [hs, htk]
    exact (hd _ _).trans i5
/-- the sender's numbers -/
theorem Go.sender (g : Go D a b Ba Bb) (u : Up D a b Ba Bb 0) (n : Nat) :
    ∃ (t : Tag) (l : Nat → Int) (ds ds' : List Pt) (q : Prt), Bb n = (upB (b n).inc (a n).inc t.r l (b n).rooms.length ds).map (fun y => (t, y)) ∧ Ba (n + D) = (upB (a n).inc (b n).inc q.tag.r (fun c => ((q.gv c).limit : Int) - ((q.bs c : Nat) : Int)) (a n).rooms.length ds').map (fun y => (q.tag, y)) ∧ IsData (a n).inc ds' ∧ IsData (b n).inc ds ∧
      Turn (a n) q (b n).inc t.r (b n).rooms.length l ds ds' ∧ Took q (a (n + 1)) ∧ (a n).snd.acked ≤ t.r ∧ t.r ≤ (a n).snd.acked + (a n).snd.sent ∧ (a (n + 1)).snd.acked = t.r ∧ t.r ≤ (a n).snd.acked + (a n).snd.kept.length ∧ q.snd = (a (n + 1)).snd ∧ q.rcv = (a (n + 1)).rcv ∧ t.i = (b n).inc ∧ t.s = (a n).inc ∧ (∃ N, q.Ok N) := by
  obtain ⟨t, l, ds, ds', q, e, ti, ts, hds, hds', r1, r3, htick, ht, htk⟩ := g.turn (g.up_all u n)
  have ea := htk.eq
  have h1 : q.snd = (a (n + 1)).snd := by rw [ea]
  have h2 : q.rcv = (a (n + 1)).rcv := by rw [ea]
  have A := g.at n
  obtain ⟨N, ok⟩ := A.okA
  have h3 : (a (n + 1)).snd.acked = t.r := by
    rw [← h1]
    obtain ⟨ch, tk, _, _, _, hs, _⟩ := ht.send
    rw [hs, (tick_snd _).1]
    show ((a n).snd.drop (t.r - (a n).snd.acked)).acked = t.r
    rw [(drop_acked _ _ (by omega)).1]
    omega
  have hq : ∃ N, q.Ok N := by
    have := ok.tick (l := (Bb n).map (·.2)) fun y hy => by
      obtain ⟨p, hp, rfl⟩ := List.mem_map.1 hy
      have := g.hD
      exact A.payB n (by omega) p hp
    rw [htick] at this
    exact ⟨_, this⟩
  refine ⟨t, l, ds, ds', q, e, ?_, hds', hds, ht, htk, r1, r3, h3, by have := ok.snd.sent; omega, h1, h2, ti, ts, hq⟩
  rw [g.ba n, htick]
  rfl
end
end Go.Proofs.Ytcocnfbhileheaa

/- Two ports over a way that loses nothing: one direction is a flow (the law). No program in sight. -/
namespace Go.Proofs.Ytcocnfbhileheaa

theorem drop_facts (s : Snd) (k : Nat) : (s.drop k).kept.length = s.kept.length - k ∧ (s.drop k).pos = s.pos - k ∧ ((k = 0 → (s.drop k).timer = s.timer) ∧ (k ≠ 0 → (s.drop k).timer = 0)) ∧ (s.drop k).timeout = s.timeout := by
  unfold Snd.drop
  split
  · rename_i h; subst h; exact ⟨rfl, rfl, ⟨fun _ => rfl, fun h => absurd rfl h⟩, rfl⟩
  · exact ⟨List.length_drop, rfl, ⟨fun h => by omega, fun _ => rfl⟩, rfl⟩
theorem raise_sent (t : Tak) (l : Int) : (t.raise l).sent = t.sent := by unfold Tak.raise; split <;> rfl
theorem getD_mem_rm {l : List Nat} (h : ∀ x ∈ l, 1 ≤ x ∧ x ≤ 64) {c : Nat} (hc : c < l.length) : 1 ≤ l.getD c 0 := by
  rw [List.getD, List.getElem?_eq_getElem hc]
  exact (h _ (List.getElem_mem hc)).1
section
variable {D : Nat} {a b : Nat → Prt} {Ba Bb : Nat → List Way}
theorem Go.step (g : Go D a b Ba Bb) (u : Up D a b Ba Bb 0) (n : Nat) : ∃ ch k1 p1 t1, k1 = (a n).snd.kept.length - ((a (n + 1)).snd.acked - (a n).snd.acked) ∧ p1 = (a n).snd.pos - ((a (n + 1)).snd.acked - (a n).snd.acked) ∧
    (((a (n + 1)).snd.acked = (a n).snd.acked → t1 = (a n).snd.timer) ∧ ((a (n + 1)).snd.acked ≠ (a n).snd.acked → t1 = 0)) ∧ (a (n + 1)).snd.kept.length = k1 + ch ∧ wt (a (n + 1)) + ch = wt (a n) ∧
    (ch = 0 ∧ ((a 0).window ≤ k1 ∨ ∀ c, c < (a 0).rooms.length → ((a n).waiting.getD c []).length = 0 ∨ ((a (n + 1)).tk c).limit ≤ ((a n).tk c).sent) ∧ (∀ c, ((a (n + 1)).tk c).sent = ((a n).tk c).sent) ∨ ch = 1) ∧
    (((a (n + 1)).snd.kept.length = 0 ∧ (a (n + 1)).snd.pos = p1 ∧ (a (n + 1)).snd.timer = t1 ∧ (b (n + D + 1)).rcv = (b (n + D)).rcv) ∨
     (0 < (a (n + 1)).snd.kept.length ∧ (a (n + 1)).snd.kept.length ≤ p1 ∧ t1 + 1 < (a 0).snd.timeout ∧ (a (n + 1)).snd.pos = p1 ∧ (a (n + 1)).snd.timer = t1 + 1 ∧ (b (n + D + 1)).rcv = (b (n + D)).rcv) ∨
     (0 < (a (n + 1)).snd.kept.length ∧ (a (n + 1)).snd.kept.length ≤ p1 ∧ (a 0).snd.timeout ≤ t1 + 1 ∧ (a (n + 1)).snd.pos = 1 ∧ (a (n + 1)).snd.timer = 0 ∧ ((b (n + D + 1)).rcv = (b (n + D)).rcv + 1 ∧ (a (n + 1)).snd.acked = (b (n + D)).rcv ∨ (b (n + D + 1)).rcv = (b (n + D)).rcv ∧ (a (n + 1)).snd.acked ≠ (b (n + D)).rcv)) ∨
     (p1 < (a (n + 1)).snd.kept.length ∧ (a (n + 1)).snd.pos = p1 + 1 ∧ (a (n + 1)).snd.timer = 0 ∧ ((b (n + D + 1)).rcv = (b (n + D)).rcv + 1 ∧ (a (n + 1)).snd.acked + p1 = (b (n + D)).rcv ∨ (b (n + D + 1)).rcv = (b (n + D)).rcv ∧ (a (n + 1)).snd.acked + p1 ≠ (b (n + D)).rcv))) := by
  have hD := g.hD
  obtain ⟨t, l, ds, ds', q, eB, eA, hds', hds, ht, htk, r1, r3, hA1, rK, hs, hr, ti, ts, Nq, okq⟩ := g.sender u n
  obtain ⟨t', l', dt, dt', p, eB2, eA2, hdt', hdt, ht2, htk2, r12, r32, hA12, rK2, hs2, hr2, ti2, ts2, _⟩ := g.swap.sender u.swap (n + D)
  obtain ⟨c1, c2, c3, c4, c5⟩ := g.const u n
  obtain ⟨d1, d2, d3, d4, d5⟩ := g.const u (n + D)
  obtain ⟨e1, e2, e3, e4, e5⟩ := g.swap.const u.swap n
  obtain ⟨f1, f2, f3, f4, f5⟩ := g.swap.const u.swap (n + D)
  rw [c1, c2, e1] at eA
  rw [d1, d2, f1] at eB2
  obtain ⟨rfl, rfl, _⟩ := upB_inj rfl (eA.symm.trans eB2)
  have hrcv : (b (n + D + 1)).rcv = ((b (n + D)).recvs ds').rcv := hr2.symm.trans ht2.rcv
  have A := g.at (n + D)
  have hup := g.up_all u (n + D)
  obtain ⟨oa, ga, ob, gb, da, db, hA, tA, hB, tB, ⟨w1, _⟩, _, _⟩ := A.both
  have hmem : ∀ y ∈ ds', (q.tag, y) ∈ ways Ba D (n + D) := fun y hy => ways_mem (j := 0) (by omega) _ (by
    rw [Nat.add_zero, eA]
    refine List.mem_map.2 ⟨y, ?_, rfl⟩
    unfold upB
    exact List.mem_cons_of_mem _ (List.mem_cons_of_mem _ (List.mem_append_right _ hy)))
  have hidx : ∀ (idx : Nat) (c : Int) (d : Bytes), ds' = [⟨2#8, c, ((idx % 256 : Nat) : Int), ((a n).inc : Int), d⟩] → idx < q.snd.acked + q.snd.sent → q.snd.acked + q.snd.sent ≤ idx + 128 →
      ((b (n + D + 1)).rcv = (b (n + D)).rcv + 1 ∧ idx = (b (n + D)).rcv) ∨ ((b (n + D + 1)).rcv = (b (n + D)).rcv ∧ idx ≠ (b (n + D)).rcv) := fun idx c d e h1 h2 => by
    rw [hrcv, e]
    obtain ⟨g1, g2, g3⟩ := w1.fly _ (hmem _ (by rw [e]; exact List.mem_cons_self ..)) (show q.inc = (b (n + D)).peer by rw [hup.lk.1, d1, ht.inc, c1]) (show q.peer = (b (n + D)).inc by rw [ht.peer, (g.up_all u n).lk.2, e1, f1])
    exact recv_index w1.rc g1 g2 (g3 rfl) rfl h1 h2
  have hnone : ds' = [] → (b (n + D + 1)).rcv = (b (n + D)).rcv := fun e => by rw [hrcv, e]; rfl
  obtain ⟨ch, tk, g1, g2, g3, g4, g5, g6⟩ := ht.send
  obtain ⟨N, ok⟩ := (g.at n).okA
  obtain ⟨k1, k2, k3, k4⟩ := drop_facts (a n).snd (t.r - (a n).snd.acked)
  have hac : ((a n).snd.drop (t.r - (a n).snd.acked)).acked = t.r := by rw [(drop_acked _ _ (by omega)).1]; omega
  have hwin := okq.snd.kept; have hw2 := okq.snd.w2; have hsk := okq.snd.sent
  rw [hA1]
  obtain ⟨s2, hs2'⟩ : ∃ s2 : Snd, s2 = { (a n).snd.drop (t.r - (a n).snd.acked) with kept := ((a n).snd.drop (t.r - (a n).snd.acked)).kept ++ ch.map (·.2) } := ⟨_, rfl⟩
  rw [← hs2'] at g4 g5
  have m1 : s2.kept.length = (a n).snd.kept.length - (t.r - (a n).snd.acked) + ch.length := by rw [hs2']; simp [k1]
  have m2 : s2.pos = (a n).snd.pos - (t.r - (a n).snd.acked) := by rw [hs2']; exact k2
  have m3 : (t.r = (a n).snd.acked → s2.timer = (a n).snd.timer) ∧ (t.r ≠ (a n).snd.acked → s2.timer = 0) := ⟨fun h => by rw [hs2']; exact k3.1 (by omega), fun h => by rw [hs2']; exact k3.2 (by omega)⟩
  have m4 : s2.timeout = (a 0).snd.timeout := by rw [hs2']; exact k4.trans c5
  have m5 : s2.acked = t.r := by rw [hs2']; exact hac
  have m6 : (a (n + 1)).snd.kept.length = s2.kept.length := by rw [← hs, g4, (tick_snd s2).2.2]
  have hea := htk.eq
  have hwt : wt (a (n + 1)) = wt q := by unfold wt; rw [hea]
  have htak : (a (n + 1)).tak = q.tak := by rw [hea]
  refine ⟨ch.length, _, _, s2.timer, rfl, rfl, m3, m6.trans m1, ?_, ?_, ?_⟩
  · rw [hwt]
    rcases g6 with ⟨rfl, x1, _⟩ | ⟨c, d, w, rfl, x1, x2, x3, _⟩
    · unfold wt; rw [x1]; rfl
    · unfold wt; rw [x3]; exact wt_set x2
  · rcases g6 with ⟨rfl, x1, x2, x3⟩ | ⟨c, d, w, rfl, _⟩
    · refine .inl ⟨rfl, ?_, fun c => ?_⟩
      · rcases x3 with x3 | x3
        · refine .inl ?_
          rw [c3, k1] at x3
          exact x3
        · refine .inr fun c hc => ?_
          have hc3 : c < (a n).rooms.length := by rw [c2]; exact hc
          rcases x3 c hc3 with h | this
          · exact .inl (by rw [h]; rfl)
          · refine .inr ?_
            unfold Prt.tk
            rw [htak, x2]
            refine Nat.le_trans this (Nat.le_of_eq ?_)
            rw [g2 c]
            split
            · exact raise_sent _ _
            · rfl
      · unfold Prt.tk
        rw [htak, x2, g2 c]
        split
        · exact raise_sent _ _
        · rfl
    · exact .inr rfl
  · rw [m6, ← hs, g4]
    rw [g4] at hidx hsk hwin hw2
    have hdat : ∀ (m : Nat) (d : Bytes), s2.tick.1 = some (m, d) → ∃ c : Nat, ds' = [⟨2#8, (c : Int), (m : Int), ((a n).inc : Int), d⟩] := fun m d e => by
      rcases g5 with ⟨e', _⟩ | ⟨m', d', c, e', e2⟩
      · rw [e] at e'; cases e'
      · rw [e] at e'
        simp only [Option.some.injEq, Prod.mk.injEq] at e'
        obtain ⟨rfl, rfl⟩ := e'
        exact ⟨c, e2⟩
    have hnon : s2.tick.1 = none → ds' = [] := fun e => by
      rcases g5 with ⟨_, e'⟩ | ⟨m', d', c, e', _⟩
      · exact e'
      · rw [e] at e'; cases e'
    rcases snd_tick4 s2 with ⟨x1, x2⟩ | ⟨x1, x2, x3, x4⟩ | ⟨x1, x2, x3, d, x4⟩ | ⟨x1, d, x4⟩
    · refine .inl ⟨x1, ?_, ?_, hnone (hnon (by rw [x2]))⟩
      · rw [x2]; exact m2
      · rw [x2]
    · refine .inr (.inl ⟨x1, by omega, by omega, ?_, ?_, hnone (hnon (by rw [x4]))⟩)
      · rw [x4]; exact m2
      · rw [x4]
    · obtain ⟨c, e⟩ := hdat _ _ (by rw [x4])
      rw [x4] at hidx hsk hwin hw2
      dsimp only at hidx hsk hwin hw2
      refine .inr (.inr (.inl ⟨x1, by omega, by omega, by rw [x4], by rw [x4], ?_⟩))
      have := hidx s2.acked c d e (by omega) (by omega)
      rwa [m5] at this
    · obtain ⟨c, e⟩ := hdat _ _ (by rw [x4])
      rw [x4] at hidx hsk hwin hw2
      dsimp only at hidx hsk hwin hw2
      refine .inr (.inr (.inr ⟨by omega, by rw [x4, ← m2], by rw [x4], ?_⟩))
      have := hidx (s2.acked + s2.pos) c d e (by omega) (by omega)
      rwa [m5, m2] at this
theorem Go.total (g : Go D a b Ba Bb) (u : Up D a b Ba Bb 0) (n : Nat) : (a n).snd.acked + (a n).snd.kept.length + wt (a n) = (a 0).snd.acked + (a 0).snd.kept.length + wt (a 0) := by
  induction n with
  | zero => rfl
  | succ n ih =>
    obtain ⟨ch, k1, p1, t1, e1, _, _, e4, e5, _⟩ := g.step u n
    obtain ⟨t, l, ds, ds', q, eB, eA, hds', hds, ht, htk, r1, r3, hA1, rK, _⟩ := g.sender u n
    clear e1 e4 e5
    obtain ⟨ch, k1, p1, t1, e1, -, -, e4, e5, -⟩ := g.step u n
    omega
/-- one direction as a flow -/
theorem Go.flow0 (g : Go D a b Ba Bb) (u : Up D a b Ba Bb 0) (hr : (b 0).rooms.length = (a 0).rooms.length) (hM : (a 0).snd.acked + (a 0).snd.kept.length + wt (a 0) ≤ 1000000000) :
    Flow0 D (a 0).snd.timeout (a 0).window (a 0).rooms.length (fun n => (b n).rcv) (fun n => (a n).snd.acked) (fun n => (a n).snd.kept.length) (fun n => (a n).snd.pos) (fun n => (a n).snd.timer) (fun n => wt (a n)) (fun n c => ((a n).tk c).sent) (fun n c => ((a n).tk c).limit)
      (fun n c => ((a n).waiting.getD c []).length) (fun n c => ((b n).gv c).freed) (fun n c => ((b n).gv c).received) (fun c => (b 0).bs c) (fun c => (b 0).rooms.getD c 0) := by
  have hhist : ∀ n, ∃ (hA : Hist) (tA : Nat), Rec (b n) hA tA ∧ Lnk (a n) (b n) hA tA ∧ hA.length = (a n).snd.acked + (a n).snd.kept.length := fun n => by
    obtain ⟨oa, ga, ob, gb, da, db, hA, tA, hB, tB, ⟨w1, _⟩, _, _⟩ := (g.at n).both
    have hup := g.up_all u n
    obtain ⟨N, ok⟩ := (g.at n).okA
    have hl := w1.lnk hup.lk.1 hup.lk.2
    refine ⟨hA, tA, w1.rc, hl, ?_⟩
    have h1 : (a n).kept.length = (a n).snd.kept.length := by rw [← ok.kept, List.length_map]
    have h2 := congrArg List.length hl.kept
    rw [List.length_drop] at h2
    have h3 := hl.ack; have h4 := w1.rc.rt; have h5 := w1.rc.tl
    omega
  refine ⟨?_, ?_, fun n => ?_, fun n => ?_, fun n => ?_, fun n => ?_, fun n => ?_, fun n => ?_, fun n => g.step u n, fun n hn => ?_, fun n c hc => ?_, fun c hc => ?_, fun n c hc hR => ?_, fun n => ?_⟩
  · obtain ⟨N, ok⟩ := g.okA
    exact ok.snd.t1
  · obtain ⟨N, ok⟩ := g.okA
    exact ok.w1
  · obtain ⟨t, l, ds, ds', q, eB, eA, hds', hds, ht, htk, r1, r3, hA1, rK, hs, hr, ti, ts, Nq, okq⟩ := g.swap.sender u.swap n
    show (b n).rcv ≤ (b (n + 1)).rcv
    rw [← hr, ht.rcv]
    rcases hds with rfl | ⟨_, _, _, rfl⟩
    · exact Nat.le_refl _
    · show (b n).rcv ≤ ((b n).receive _).rcv
      unfold Prt.receive
      split
      · exact Nat.le_refl _
      · dsimp only; split <;> exact Nat.le_succ _
  · obtain ⟨t, l, ds, ds', q, eB, eA, hds', hds, ht, htk, r1, r3, hA1, rK, hs, hr, ti, ts, Nq, okq⟩ := g.sender u (n + D)
    obtain ⟨t2, l2, dt, dt', p, eB2, eA2, hdt', hdt, ht2, htk2, r12, r32, hA12, rK2, hs2, hr2, ti2, ts2, _⟩ := g.swap.sender u.swap n
    obtain ⟨c1, _⟩ := g.const u n
    obtain ⟨d1, _⟩ := g.const u (n + D)
    obtain ⟨e1, e2, _⟩ := g.swap.const u.swap n
    obtain ⟨f1, f2, _⟩ := g.swap.const u.swap (n + D)
    rw [c1, e1, e2] at eA2
    rw [d1, f1, f2] at eB
    obtain ⟨rfl, _, _⟩ := upB_inj rfl (eA2.symm.trans eB)
    show (b (n + 1)).rcv ≤ (a (n + D + 1)).snd.acked
    rw [hA1, ← hr2]
    exact Nat.le_refl _
  · obtain ⟨hA, tA, h1, h2, h3⟩ := hhist n
    exact h2.ack
  · obtain ⟨t, l, ds, ds', q, eB, eA, hds', hds, ht, htk, r1, r3, hA1, rK, hs, hr, ti, ts, Nq, okq⟩ := g.sender u n
    show (a n).snd.acked ≤ (a (n + 1)).snd.acked ∧ (a (n + 1)).snd.acked ≤ _
    rw [hA1]
    exact ⟨r1, rK⟩
  · obtain ⟨N, ok⟩ := (g.at n).okA
    exact Nat.le_trans ok.snd.pos ok.snd.sent
  · obtain ⟨N, ok⟩ := (g.at n).okA
    have := ok.snd.timer
    have := (g.const u n).2.2.2.2
    show (a n).snd.timer ≤ (a 0).snd.timeout
    omega
  · obtain ⟨N, ok⟩ := (g.at n).okA
    obtain ⟨_, c2, _⟩ := g.const u n
    apply Classical.byContradiction
    intro hno
    have hz : wt (a n) = 0 := wt_zero fun c hc => by
      have hc' : c < (a 0).rooms.length := by rw [← c2, ← ok.wl]; exact hc
      exact List.eq_nil_of_length_eq_zero (Nat.le_zero.1 (Nat.le_of_not_lt fun h => hno ⟨c, hc', h⟩))
    have hn : 0 < wt (a n) := hn
    omega
  · obtain ⟨t, l, ds, ds', q, eB, eA, hds', hds, ht, htk, r1, r3, hA1, rK, hs, hrr, ti, ts, Nq, okq⟩ := g.sender u (n + D)
    obtain ⟨t2, l2, dt, dt', p, eB2, eA2, hdt', hdt, ht2, htk2, r12, r32, hA12, rK2, hs2, hr2, ti2, ts2, _⟩ := g.swap.sender u.swap n
    obtain ⟨c1, c2, _⟩ := g.const u n
    obtain ⟨d1, d2, _⟩ := g.const u (n + D)
    obtain ⟨e1, e2, _, e4, _⟩ := g.swap.const u.swap n
    obtain ⟨f1, f2, _⟩ := g.swap.const u.swap (n + D)
    rw [c1, e1, e2] at eA2
    rw [d1, f1, f2] at eB
    obtain ⟨rfl, _, hl⟩ := upB_inj rfl (eA2.symm.trans eB)
    have hl := hl c (by omega)
    obtain ⟨ch, tk, g1, g2, g3, g4, g5, g6⟩ := ht.send
    obtain ⟨hA, tA, w1, w2, w3⟩ := hhist n
    have hcr : c < (b n).rooms.length := by rw [e2]; omega
    have b1 := w1.room c; have b2 := w1.got c; have b3 := w1.rm c hcr; have b4 := w1.buf c hcr
    have b5 := cnt_take_le hA (b n).rcv c
    have b6 : cnt hA c ≤ hA.length := by unfold cnt; exact List.length_filter_le _ _
    have b7 := g.total u n
    have b8 : (b n).rooms.getD c 0 ≤ 64 := by
      obtain ⟨N, ok⟩ := (g.at n).okB
      exact getD_all (P := fun x : Nat => x ≤ 64) (fun x hx => (ok.rm x hx).2) (Nat.zero_le _) c
    have hbs : (b n).bs c = (b 0).bs c := by unfold Prt.bs; rw [e4]
    have hpb : p.bs c = (b 0).bs c := by unfold Prt.bs; rw [ht2.base, e4]
    have hpg : (p.gv c).limit = (b n).rooms.getD c 0 + ((b n).gv c).freed := by
      have q1 := recvs_gv hdt (b n) c
      show (p.giv.getD c ⟨0, 0, 0⟩).limit = _
      rw [ht2.giv]
      show ((b n).recvs dt |>.gv c).room + ((b n).recvs dt |>.gv c).freed = _
      rw [q1.1, q1.2, b3]
    unfold Giv.limit at b1
    rw [hpb, hpg] at hl
    have hlim : (b 0).rooms.getD c 0 + ((b n).gv c).freed ≤ (b 0).bs c + ((tk.getD c ⟨0, 0⟩).limit) := by
      rw [g2 c, if_pos ⟨by rw [f2]; omega, by rw [d2]; exact hc⟩, ← hl]
      unfold Tak.raise
      rw [if_neg (by rw [e2] at *; omega)]
      dsimp only
      rw [e2] at *
      omega
    refine Nat.le_trans hlim (Nat.add_le_add_left ?_ _)
    show _ ≤ ((a (n + D + 1)).tak.getD c ⟨0, 0⟩).limit
    rw [show (a (n + D + 1)).tak = q.tak by rw [htk.eq]]
    rcases g6 with ⟨_, _, x2, _⟩ | ⟨k, d, w, _, x1, _, _, x4, _⟩
    · rw [x2]; exact Nat.le_refl _
    · rw [x4]
      obtain ⟨N, ok⟩ := (g.at (n + D)).okA
      rw [getD_set _ _ _ _ _ (by rw [g1, ok.tl]; exact x1)]
      split
      · rename_i e; subst e; exact Nat.le_refl _
      · exact Nat.le_refl _
  · obtain ⟨N, ok⟩ := g.okB
    exact getD_mem_rm ok.rm (by omega)
  · obtain ⟨hA, tA, w1, w2, w3⟩ := hhist n
    have b2 := w1.got c
    have hR : (b n).rcv = (a n).snd.acked + (a n).snd.kept.length := hR
    rw [List.take_of_length_le (by omega), ← w2.sent c] at b2
    obtain ⟨_, _, _, e4, _⟩ := g.swap.const u.swap n
    show ((b n).gv c).received = (b 0).bs c + ((a n).tk c).sent
    rw [b2]
    unfold Prt.bs
    rw [e4]
  · obtain ⟨hA, tA, w1, w2, w3⟩ := hhist n
    have h4 := w1.rt; have h5 := w1.tl
    show (b n).rcv ≤ (a n).snd.acked + (a n).snd.kept.length
    omega
/-- .. with buffers that run dry within x ticks in which nothing comes -/
theorem Go.flow (g : Go D a b Ba Bb) (u : Up D a b Ba Bb 0) (hr : (b 0).rooms.length = (a 0).rooms.length) (hM : (a 0).snd.acked + (a 0).snd.kept.length + wt (a 0) ≤ 1000000000) (x : Nat)
    (hx : ∀ n c, c < (a 0).rooms.length → (b (n + x)).rcv = (b n).rcv → ((b (n + x)).buffer.getD c []) = []) :
    Flow D x (a 0).snd.timeout (a 0).window (a 0).rooms.length (fun n => (b n).rcv) (fun n => (a n).snd.acked) (fun n => (a n).snd.kept.length) (fun n => (a n).snd.pos) (fun n => (a n).snd.timer) (fun n => wt (a n)) (fun n c => ((a n).tk c).sent) (fun n c => ((a n).tk c).limit)
      (fun n c => ((a n).waiting.getD c []).length) (fun n c => ((b n).gv c).freed) (fun n c => ((b n).gv c).received) (fun c => (b 0).bs c) (fun c => (b 0).rooms.getD c 0) := by
  refine ⟨g.flow0 u hr hM, fun n c hc hR => ?_⟩
  obtain ⟨oa, ga, ob, gb, da, db, hA, tA, hB, tB, ⟨w1, _⟩, _, _⟩ := (g.at (n + x)).both
  have := w1.rc.buf c (by rw [(g.swap.const u.swap (n + x)).2.1]; omega)
  rw [hx n c hc hR] at this
  exact this.symm
end
end Go.Proofs.Ytcocnfbhileheaa

/- Two ports over a way that loses nothing: after a while both are up. No program in sight. -/
namespace Go.Proofs.Ytcocnfbhileheaa

theorem handle_other {p : Prt} {y : Pt} (h : ¬ y.kind = 1#8) : (p.handle y).side = p.side ∧ (p.handle y).peer = p.peer ∧ (p.handle y).inc = p.inc := by
  unfold Prt.handle
  rw [if_neg h]
  split
  · exact ⟨rfl, rfl, rfl⟩
  · split
    · unfold Prt.receive; split
      · exact ⟨rfl, rfl, rfl⟩
      · dsimp only; split <;> exact ⟨rfl, rfl, rfl⟩
    · split
      · exact ⟨rfl, rfl, rfl⟩
      · split
        · unfold Prt.raise; split <;> exact ⟨rfl, rfl, rfl⟩
        · exact ⟨rfl, rfl, rfl⟩
theorem handles_other : ∀ {l : List Pt} {p : Prt}, (∀ y ∈ l, ¬ y.kind = 1#8) → (l.foldl Prt.handle p).side = p.side ∧ (l.foldl Prt.handle p).peer = p.peer ∧ (l.foldl Prt.handle p).inc = p.inc
  | [], _, _ => ⟨rfl, rfl, rfl⟩
  | y :: l, p, h => by
    obtain ⟨h1, h2, h3⟩ := handles_other (l := l) (p := p.handle y) fun z hz => h z (List.mem_cons_of_mem _ hz)
    obtain ⟨k1, k2, k3⟩ := handle_other (p := p) (h y (List.mem_cons_self ..))
    rw [List.foldl_cons]
    exact ⟨h1.trans k1, h2.trans k2, h3.trans k3⟩
/-- a batch: a greeting first, then others -/
def Greets (i : Nat) (v : Nat) (l : List Pt) : Prop := ∃ rest, l = ⟨1#8, 0, (i : Int), (v : Int), []⟩ :: rest ∧ ∀ y ∈ rest, ¬ y.kind = 1#8
theorem data_kind {i : Nat} {ds : List Pt} (h : IsData i ds) : ∀ y ∈ ds, ¬ y.kind = 1#8 := by
  rcases h with rfl | ⟨c, n, d, rfl⟩
  · intro y hy; cases hy
  · intro y hy; rw [List.mem_singleton.1 hy]; exact kk21
theorem upB_greets {i v r k : Nat} {l : Nat → Int} {ds : List Pt} (h : IsData i ds) : Greets i v (upB i v r l k ds) := by
  refine ⟨_, rfl, fun y hy => ?_⟩
  rcases List.mem_cons.1 hy with rfl | hy
  · exact kk31
  · rcases List.mem_append.1 hy with hy | hy
    · obtain ⟨c, _, rfl⟩ := List.mem_map.1 hy
      exact kk41
    · exact data_kind h y hy
/-- what a port sends that is up -/
theorem tick_form_up {N : Nat} {a a1 : Prt} {l : List Pt} (ok : a1.Ok N) (h : a1 = l.foldl Prt.handle a) (hs : a1.side.tick.state = 2) :
    (a.tick l).2.inc = a1.inc ∧ (a.tick l).2.peer = a1.peer ∧ (a.tick l).2.side = a1.side.tick ∧ ∃ (li : Nat → Int) (ds : List Pt), IsData a1.inc ds ∧ (a.tick l).1 = upB a1.inc a1.side.tick.peer (a.tick l).2.rcv li a1.rooms.length ds := by
  have hf : (Prt.choose { a1 with side := a1.side.tick }).inc = a1.inc ∧ (Prt.choose { a1 with side := a1.side.tick }).peer = a1.peer ∧ (Prt.choose { a1 with side := a1.side.tick }).side = a1.side.tick ∧ (Prt.choose { a1 with side := a1.side.tick }).rcv = a1.rcv := by
    unfold Prt.choose
    split
    · exact ⟨rfl, rfl, rfl, rfl⟩
    · split <;> exact ⟨rfl, rfl, rfl, rfl⟩
  obtain ⟨f1, f2, f3, f4⟩ := hf
  rw [Prt.tick_up h hs]
  have hb : a1.base.length = a1.rooms.length := ok.sl
  have e : ∀ ds : List Pt, a1.hail :: a1.ackn :: (List.range a1.base.length).map a1.cred ++ ds = upB a1.inc a1.side.tick.peer a1.rcv (fun c => ((a1.giv.getD c ⟨0, 0, 0⟩).limit : Int) - ((a1.base.getD c 0 : Nat) : Int)) a1.rooms.length ds := fun ds => by rw [hb]; rfl
  generalize Prt.choose { a1 with side := a1.side.tick } = q at f1 f2 f3 f4 ⊢
  rcases hq : q.snd.tick with ⟨o, s⟩
  cases o with
  | none => exact ⟨f1, f2, f3, _, [], .inl rfl, by
      show a1.hail :: a1.ackn :: (List.range a1.base.length).map a1.cred = upB a1.inc a1.side.tick.peer q.rcv _ _ _
      rw [f4, ← e, List.append_nil]⟩
  | some nd =>
    obtain ⟨n, d⟩ := nd
    refine ⟨f1, f2, f3, fun c => ((a1.giv.getD c ⟨0, 0, 0⟩).limit : Int) - ((a1.base.getD c 0 : Nat) : Int), [⟨2#8, ((Prt.classOf { q with snd := s } n : Nat) : Int), (n : Int), (q.inc : Int), d⟩], .inr ⟨((Prt.classOf { q with snd := s } n : Nat) : Int), (n : Int), d, by rw [f1]⟩, ?_⟩
    show a1.hail :: a1.ackn :: (List.range a1.base.length).map a1.cred ++ _ = upB a1.inc a1.side.tick.peer q.rcv _ _ _
    rw [f4, e]
    rfl
/-- a tick of any port greets -/
theorem tick_greets {N : Nat} {a : Prt} (ok : a.Ok N) (l : List Pt) (hl : ∀ y ∈ l, y.pay.length ≤ 1000) : Greets a.inc (a.tick l).2.side.peer (a.tick l).1 := by
  obtain ⟨a1, ha⟩ : ∃ a1, a1 = l.foldl Prt.handle a := ⟨_, rfl⟩
  have ok1 := ok.handles l hl
  have hi := (handles_rooms l a).2
  rw [← ha] at ok1 hi
  by_cases hs : a1.side.tick.state = 2
  · obtain ⟨f1, f2, f3, li, ds, f4, f5⟩ := tick_form_up ok1 ha hs
    rw [f5, f3, hi]
    exact upB_greets (by rw [← hi]; exact f4)
  · rw [Prt.tick_down ha hs]
    exact ⟨[], by show [(⟨1#8, 0, (a1.inc : Int), (a1.side.tick.peer : Int), []⟩ : Pt)] = _; rw [hi], fun y hy => by cases hy⟩
/-- a tick in which a greeting of the other's present life comes -/
theorem tick_greeted {N : Nat} {a : Prt} (ok : a.Ok N) (hm : a.Min) (hd : 2 ≤ a.side.dead) {i v : Nat} (h1 : 1 ≤ i) (h2 : i ≤ 1099511627775) (hs : a.side.seen ≤ i) {l : List Pt} (hl : ∀ y ∈ l, y.pay.length ≤ 1000) (hg : Greets i v l) :
    (a.tick l).2.side.peer = i ∧ (a.tick l).2.peer = i ∧ (a.tick l).2.side.state = (if v = a.inc then 2 else 1) ∧
      (v = a.inc → ∃ (li : Nat → Int) (ds : List Pt), IsData a.inc ds ∧ (a.tick l).1 = upB a.inc i (a.tick l).2.rcv li a.rooms.length ds) := by
  obtain ⟨rest, e, hr⟩ := hg
  obtain ⟨a1, ha⟩ : ∃ a1, a1 = l.foldl Prt.handle a := ⟨_, rfl⟩
  have ok1 := ok.handles l hl
  obtain ⟨r1, r2⟩ := handles_rooms l a
  rw [← ha] at ok1 r1 r2
  have hm' : a.side.mine = a.inc := hm
  have e1 : a.side.receive (i : Int) (v : Int) = { a.side with seen := i, silent := 0, peer := i, state := if v = a.inc then 2 else 1 } := by
    unfold Side.receive
    have e3 : (if (v : Int) = (a.side.mine : Int) then 2 else 1) = if v = a.inc then 2 else 1 := by
      rw [hm']
      by_cases hv : v = a.inc
      · rw [if_pos hv, if_pos (by rw [hv])]
      · rw [if_neg hv, if_neg (by omega)]
    rw [if_neg (by omega), Int.toNat_natCast, e3]
  have hside : (a.handle ⟨1#8, 0, (i : Int), (v : Int), []⟩).side = { a.side with seen := i, silent := 0, peer := i, state := if v = a.inc then 2 else 1 } ∧ (a.handle ⟨1#8, 0, (i : Int), (v : Int), []⟩).peer = i := by
    unfold Prt.handle
    rw [if_pos rfl]
    unfold Prt.greet
    dsimp only
    rw [e1]
    by_cases hp : i ≠ 0 ∧ i ≠ a.peer
    · rw [if_pos hp]; exact ⟨rfl, rfl⟩
    · rw [if_neg hp]; exact ⟨rfl, by show a.peer = i; omega⟩
  obtain ⟨q1, q2, q3⟩ := handles_other (p := a.handle ⟨1#8, 0, (i : Int), (v : Int), []⟩) hr
  have hA : a1.side = { a.side with seen := i, silent := 0, peer := i, state := if v = a.inc then 2 else 1 } ∧ a1.peer = i := by
    rw [ha, e, List.foldl_cons]
    exact ⟨q1.trans hside.1, q2.trans hside.2⟩
  have ht : a1.side.tick = { a.side with seen := i, silent := 1, peer := i, state := if v = a.inc then 2 else 1 } := by
    rw [hA.1]
    unfold Side.tick
    dsimp only
    rw [if_neg (by omega), if_neg (by omega)]
  by_cases hv : v = a.inc
  · have hs2 : a1.side.tick.state = 2 := by rw [ht]; exact if_pos hv
    obtain ⟨f1, f2, f3, li, ds, f4, f5⟩ := tick_form_up ok1 ha hs2
    refine ⟨by rw [f3, ht], f2.trans hA.2, by rw [f3, ht], fun _ => ⟨li, ds, by rw [← r2]; exact f4, ?_⟩⟩
    rw [f5, r2, r1, ht]
  · have hs2 : a1.side.tick.state ≠ 2 := by rw [ht]; dsimp only; rw [if_neg hv]; decide
    rw [Prt.tick_down ha hs2]
    exact ⟨by show a1.side.tick.peer = i; rw [ht], hA.2, by show a1.side.tick.state = _; rw [ht], fun h => absurd h hv⟩
section
variable {D : Nat} {a b : Nat → Prt} {Ba Bb : Nat → List Way}
theorem Go.shift (g : Go D a b Ba Bb) (m : Nat) : Go D (fun n => a (n + m)) (fun n => b (n + m)) (fun n => Ba (n + m)) (fun n => Bb (n + m)) := by
  have A := g.at m
  refine ⟨g.hD, fun n => ?_, fun n => ?_, fun n => ?_, fun n => ?_, by rw [Nat.zero_add]; exact A.okA, by rw [Nat.zero_add]; exact A.okB, by rw [Nat.zero_add]; exact A.minA, by rw [Nat.zero_add]; exact A.minB, fun j hj => A.payA (j + m) (by omega), fun j hj => A.payB (j + m) (by omega), ?_⟩
  · have := g.ba (n + m)
    rwa [show n + m + D = n + D + m by omega] at this
  · have := g.bb (n + m)
    rwa [show n + m + D = n + D + m by omega] at this
  · have := g.na (n + m)
    rwa [show n + m + 1 = n + 1 + m by omega] at this
  · have := g.nb (n + m)
    rwa [show n + m + 1 = n + 1 + m by omega] at this
  · have e : ∀ B : Nat → List Way, ways (fun n => B (n + m)) D 0 = ways B D m := fun B => by
      unfold ways
      congr 1
      refine List.map_congr_left fun j _ => ?_
      show B (0 + j + m) = B (m + j)
      rw [show 0 + j + m = m + j by omega]
    rw [e, e, Nat.zero_add]
    exact A.both
theorem Go.kinds (g : Go D a b Ba Bb) (n : Nat) : (a n).inc = (a 0).inc ∧ (a n).rooms = (a 0).rooms ∧ (a n).side.dead = (a 0).side.dead := by
  induction n with
  | zero => exact ⟨rfl, rfl, rfl⟩
  | succ n ih =>
    obtain ⟨h1, h2, h3⟩ := ih
    obtain ⟨k1, k2, _⟩ := tick_keeps (a n) ((Bb n).map (·.2))
    have k3 := tick_dead (a n) ((Bb n).map (·.2))
    rw [(g.na n).eq]
    exact ⟨k2.trans h1, k1.trans h2, k3.trans h3⟩
theorem Go.greets (g : Go D a b Ba Bb) (n : Nat) : Greets (a 0).inc (a (n + 1)).side.peer ((Ba (n + D)).map (·.2)) ∧ ∀ y ∈ (Bb n).map (·.2), y.pay.length ≤ 1000 := by
  have A := g.at n
  obtain ⟨N, ok⟩ := A.okA
  have hp : ∀ y ∈ (Bb n).map (·.2), y.pay.length ≤ 1000 := fun y hy => by
    obtain ⟨p, hp, rfl⟩ := List.mem_map.1 hy
    have := g.hD
    exact A.payB n (by omega) p hp
  have h := tick_greets ok _ hp
  rw [(g.kinds n).1] at h
  have e : (Ba (n + D)).map (·.2) = ((a n).tick ((Bb n).map (·.2))).1 := by rw [g.ba n, List.map_map]; exact List.map_id _
  have es : (a (n + 1)).side = ((a n).tick ((Bb n).map (·.2))).2.side := by rw [(g.na n).eq]
  rw [e, es]
  exact ⟨h, hp⟩
/-- from the first whole batch on a port knows the other -/
theorem Go.knows (g : Go D a b Ba Bb) (hd : 2 ≤ (a 0).side.dead) {n : Nat} (hn : D ≤ n) : (a (n + 1)).side.peer = (b 0).inc ∧ (a (n + 1)).peer = (b 0).inc ∧ (a (n + 1)).side.state = (if (b (n - D + 1)).side.peer = (a 0).inc then 2 else 1) ∧
    ((b (n - D + 1)).side.peer = (a 0).inc → Bat (a 0).inc (b 0).inc (a 0).rooms.length (Ba (n + D))) := by
  obtain ⟨m, rfl⟩ : ∃ m, n = m + D := ⟨n - D, by omega⟩
  rw [Nat.add_sub_cancel]
  obtain ⟨h1, _⟩ := g.swap.greets m
  have A := g.at (m + D)
  obtain ⟨N, ok⟩ := A.okA
  obtain ⟨NB, okB⟩ := g.okB
  obtain ⟨oa, ga, ob, gb, da, db, hA, tA, hB, tB, ⟨d1, _⟩, d2, _⟩ := A.both
  obtain ⟨c1, c2, c3⟩ := g.kinds (m + D)
  have e1 := (g.swap.kinds (m + D)).1
  have hs := d2.sl
  rw [e1] at hs
  obtain ⟨q1, q2, q3, q4⟩ := tick_greeted ok A.minA (by rw [c3]; exact hd) okB.i1 okB.i2 hs (g.greets (m + D)).2 h1
  have ea := (g.na (m + D)).eq
  have es : (a (m + D + 1)).side = ((a (m + D)).tick ((Bb (m + D)).map (·.2))).2.side := by rw [ea]
  have ep : (a (m + D + 1)).peer = ((a (m + D)).tick ((Bb (m + D)).map (·.2))).2.peer := by rw [ea]
  rw [c1] at q3 q4
  refine ⟨by rw [es]; exact q1, by rw [ep]; exact q2, by rw [es]; exact q3, fun hv => ?_⟩
  obtain ⟨li, ds, x1, x2⟩ := q4 hv
  rw [g.ba (m + D), x2, c2]
  refine ⟨_, li, ds, rfl, x1, ?_, ?_⟩
  · show ((a (m + D)).tick ((Bb (m + D)).map (·.2))).2.inc = _
    rw [(tick_keeps _ _).2.1, c1]
  · exact q2
/-- from the second on both are up -/
theorem Go.up_from (g : Go D a b Ba Bb) (hd : 2 ≤ (a 0).side.dead) {n : Nat} (hn : 2 * D ≤ n) (hd2 : 2 ≤ (b 0).side.dead) : (a (n + 1)).side.state = 2 ∧ Bat (a 0).inc (b 0).inc (a 0).rooms.length (Ba (n + D)) := by
  have h1 := (g.swap.knows hd2 (n := n - D) (by omega)).1
  obtain ⟨_, _, h2, h3⟩ := g.knows hd (n := n) (by have := g.hD; omega)
  rw [if_pos h1] at h2
  exact ⟨h2, h3 h1⟩
theorem Go.up_at (g : Go D a b Ba Bb) (hd : 2 ≤ (a 0).side.dead) (hd2 : 2 ≤ (b 0).side.dead) {n : Nat} (hn : 3 * D ≤ n) : Up D a b Ba Bb n := by
  have hD := g.hD
  obtain ⟨c1, c2, c3⟩ := g.kinds n
  obtain ⟨e1, e2, e3⟩ := g.swap.kinds n
  obtain ⟨m, rfl⟩ : ∃ m, n = m + 1 := ⟨n - 1, by omega⟩
  have k1 := (g.knows hd (n := m) (by omega)).2.1
  have k2 := (g.swap.knows hd2 (n := m) (by omega)).2.1
  refine ⟨⟨by rw [k2, c1], by rw [k1, e1]⟩, fun j hj => ?_, fun j hj => ?_, by rw [c3]; exact hd, by rw [e3]; exact hd2⟩
  · rw [c1, e1, c2]
    have := (g.up_from hd (n := m + 1 + j - D) (by omega) hd2).2
    rwa [show m + 1 + j - D + D = m + 1 + j by omega] at this
  · rw [c1, e1, e2]
    have := (g.swap.up_from hd2 (n := m + 1 + j - D) (by omega) hd).2
    rwa [show m + 1 + j - D + D = m + 1 + j by omega] at this
theorem Up.shift {n m : Nat} (u : Up D a b Ba Bb (n + m)) : Up D (fun n => a (n + m)) (fun n => b (n + m)) (fun n => Ba (n + m)) (fun n => Bb (n + m)) n :=
  ⟨u.lk, fun j hj => by have := u.fa j hj; rwa [show n + m + j = n + j + m by omega] at this, fun j hj => by have := u.fb j hj; rwa [show n + m + j = n + j + m by omega] at this, u.dA, u.dB⟩
end
end Go.Proofs.Ytcocnfbhileheaa

/- What a port counts: frames acknowledged, kept and waiting are all that were offered in its life; frames received are taken or in the buffer. No program in sight. -/
namespace Go.Proofs.Ytcocnfbhileheaa

theorem tally_get : ∀ (ks : List (Nat × Bytes)) (l : List Nat) (c : Nat), (∀ f ∈ ks, f.1 < l.length) → (tally l ks).getD c 0 = l.getD c 0 + cnt ks c
  | [], l, c, _ => by unfold tally cnt; simp
  | f :: ks, l, c, h => by
    have h0 := h f (List.mem_cons_self ..)
    show (tally (l.set f.1 (l.getD f.1 0 + 1)) ks).getD c 0 = _
    rw [tally_get ks _ c fun g hg => by rw [List.length_set]; exact h g (List.mem_cons_of_mem _ hg), getD_set _ _ _ _ _ h0]
    have e : cnt (f :: ks) c = cnt ks c + if f.1 = c then 1 else 0 := by
      rw [show f :: ks = [(f.1, f.2)] ++ ks from rfl, cnt_append, cnt_one, Nat.add_comm]
    rw [e]
    split
    · rename_i e; subst e; omega
    · omega
/-- the port counts right; m: how much was offered in its life -/
structure Prt.Cons (p : Prt) (m : Nat → Nat) : Prop where
  off : ∀ c, c < p.rooms.length → p.acked.getD c 0 + cnt p.kept c + (p.waiting.getD c []).length = m c
  got : ∀ c, c < p.rooms.length → p.received.getD c 0 = p.taken.getD c 0 + (p.buffer.getD c []).length
  tmo : p.snd.timeout = p.timeout
  dd : p.side.dead = p.dead
section
variable {N : Nat} {p : Prt} {m : Nat → Nat}
theorem again_len (ks : Hist) (c : Nat) : ((ks.filter fun f => f.1 == c).map (·.2)).length = cnt ks c := by rw [List.length_map]; rfl
theorem Prt.Cons.begin (h : p.Cons m) (ok : p.Ok N) (i : Nat) : (p.begin i).Cons m := by
  refine ⟨fun c hc => ?_, h.got, rfl, h.dd⟩
  have h1 := h.off c hc
  show p.acked.getD c 0 + cnt [] c + ((p.begin i).waiting.getD c []).length = m c
  rw [begin_waiting (by rw [ok.wl]; exact ok.kcl), List.length_append]
  have h2 : (frm c p.kept).length = cnt p.kept c := again_len p.kept c
  have h3 : cnt [] c = 0 := rfl
  omega
theorem Prt.Cons.side (h : p.Cons m) {s : Side} (hs : s.dead = p.side.dead) : ({ p with side := s } : Prt).Cons m := ⟨h.off, h.got, h.tmo, hs.trans h.dd⟩
theorem side_ok {s : Side} (h : p.Ok N) (hs : s.Ok) : ({ p with side := s } : Prt).Ok N := ⟨h.n1, h.n4, h.rm, h.i1, h.i2, h.w1, h.w2, h.t1, h.t2, h.d1, h.d2, hs, h.arb, h.wl, h.bl, h.tl, h.gl, h.sl, h.al, h.rl, h.kl, h.peer, h.snd, h.win, h.tot, h.rcv, h.kept, h.kcl, h.wsz, h.wln, h.bsz, h.bln, h.tak, h.giv, h.bas, h.acn, h.ren, h.tan, h.ovn⟩
theorem Prt.Cons.handle (h : p.Cons m) (ok : p.Ok N) (y : Pt) : (p.handle y).Cons m := by
  have hd := handle_dead p y
  unfold Prt.handle at hd ⊢
  split
  · unfold Prt.greet
    dsimp only
    have hr : (p.side.receive y.number y.value).dead = p.side.dead := by unfold Side.receive; split <;> rfl
    split
    · exact (h.side hr).begin (side_ok ok (ok.side.receive _ _)) _
    · exact h.side hr
  · split
    · exact h
    · split
      · unfold Prt.receive
        split
        · exact h
        · rename_i hx
          dsimp only
          split
          · exact ⟨h.off, h.got, h.tmo, h.dd⟩
          · refine ⟨h.off, fun c hc => ?_, h.tmo, h.dd⟩
            have hh : 0 ≤ y.cls ∧ y.cls < p.rooms.length := Decidable.byContradiction fun hn => hx (.inl hn)
            have hc2 : y.cls.toNat < p.rooms.length := by omega
            show (p.received.set y.cls.toNat (p.received.getD y.cls.toNat 0 + 1)).getD c 0 = p.taken.getD c 0 + ((p.buffer.set y.cls.toNat (p.buffer.getD y.cls.toNat [] ++ [y.pay])).getD c []).length
            rw [getD_set _ _ _ _ _ (by rw [ok.rl]; exact hc2), getD_set _ _ _ _ _ (by rw [ok.bl]; exact hc2)]
            have := h.got c hc
            split
            · rename_i e; subst e
              rw [List.length_append, List.length_singleton]; omega
            · exact this
      · split
        · obtain ⟨k, hk, e⟩ := ack_step p y
          rw [e]
          refine ⟨fun c hc => ?_, h.got, ?_, h.dd⟩
          · show (tally p.acked (p.kept.take k)).getD c 0 + cnt (p.kept.drop k) c + (p.waiting.getD c []).length = m c
            rw [tally_get _ _ _ fun f hf => by rw [ok.al]; exact ok.kcl f (List.mem_of_mem_take hf)]
            have h1 := h.off c hc
            have h2 : cnt (p.kept.take k) c + cnt (p.kept.drop k) c = cnt p.kept c := by rw [← cnt_append, List.take_append_drop]
            omega
          · show (p.snd.drop k).timeout = p.timeout
            rw [← h.tmo]; unfold Snd.drop; split <;> rfl
        · split
          · unfold Prt.raise
            split
            · exact ⟨h.off, h.got, h.tmo, h.dd⟩
            · exact h
          · exact h
theorem Prt.Cons.handles : ∀ {N : Nat} {p : Prt} (l : List Pt), p.Cons m → p.Ok N → (∀ y ∈ l, y.pay.length ≤ 1000) → (l.foldl Prt.handle p).Cons m
  | _, _, [], h, _, _ => h
  | _, _, y :: l, h, ok, hl => by
    rw [List.foldl_cons]
    exact Prt.Cons.handles l (h.handle ok y) (ok.handle y (hl y (List.mem_cons_self ..))) fun z hz => hl z (List.mem_cons_of_mem _ hz)
theorem Prt.Cons.choose (h : p.Cons m) (ok : p.Ok N) : p.choose.Cons m := by
  rcases Prt.choose_eq ok with ⟨r, e⟩ | ⟨c, d, l, r, h1, h2, h3, h4, e⟩
  · rw [e]; exact ⟨h.off, h.got, h.tmo, h.dd⟩
  · rw [e]
    refine ⟨fun k hk => ?_, h.got, h.tmo, h.dd⟩
    show p.acked.getD k 0 + cnt (p.kept ++ [(c, d)]) k + ((p.waiting.set c l).getD k []).length = m k
    rw [cnt_append, cnt_one, getD_set _ _ _ _ _ (by rw [ok.wl]; exact h1)]
    have := h.off k hk
    by_cases e : c = k
    · subst e
      rw [if_pos rfl, if_pos rfl]
      rw [h2, List.length_cons] at this
      omega
    · rw [if_neg e, if_neg e]; omega
theorem Prt.Cons.tick (h : p.Cons m) (ok : p.Ok N) {l : List Pt} (hl : ∀ y ∈ l, y.pay.length ≤ 1000) : (p.tick l).2.Cons m := by
  have ok1 := ok.handles l hl
  have h1 := Prt.Cons.handles l h ok hl
  obtain ⟨a, ha⟩ : ∃ a, a = l.foldl Prt.handle p := ⟨_, rfl⟩
  rw [← ha] at ok1 h1
  have hs : ∀ s : Side, s.tick.dead = s.dead := fun s => by unfold Side.tick; split; rfl; split <;> rfl
  have h2 : ({ a with side := a.side.tick } : Prt).Cons m := h1.side (hs _)
  by_cases hst : a.side.tick.state = 2
  · rw [Prt.tick_up ha hst]
    have h3 := h2.choose (show Prt.Ok (N + 200 * l.length) { a with side := a.side.tick } from ok1.sideTick)
    generalize Prt.choose { a with side := a.side.tick } = q at h3 ⊢
    have h4 : ∀ s, q.snd.tick.2 = s → ({ q with snd := s } : Prt).Cons m := fun s e => by
      refine ⟨h3.off, h3.got, ?_, h3.dd⟩
      show s.timeout = q.timeout
      rw [← e, ← h3.tmo]
      rcases snd_tick4 q.snd with ⟨_, e⟩ | ⟨_, _, _, e⟩ | ⟨_, _, _, _, e⟩ | ⟨_, _, e⟩ <;> rw [e]
    rcases hq : q.snd.tick with ⟨o, s⟩
    cases o with
    | none => exact h4 s (by rw [hq])
    | some nd => exact h4 s (by rw [hq])
  · rw [Prt.tick_down ha hst]
    exact h2
theorem Prt.Cons.offer (h : p.Cons m) (ok : p.Ok N) {c : Nat} (hc : c < p.rooms.length) (d : Bytes) : ({ p with waiting := p.waiting.set c (p.waiting.getD c [] ++ [d]) } : Prt).Cons (fun k => if k = c then m c + 1 else m k) := by
  refine ⟨fun k hk => ?_, h.got, h.tmo, h.dd⟩
  show p.acked.getD k 0 + cnt p.kept k + ((p.waiting.set c (p.waiting.getD c [] ++ [d])).getD k []).length = _
  rw [getD_set _ _ _ _ _ (by rw [ok.wl]; exact hc)]
  have := h.off k hk
  by_cases e : c = k
  · subst e
    rw [if_pos rfl, if_pos rfl, List.length_append, List.length_singleton]
    omega
  · rw [if_neg e, if_neg fun h => e h.symm]; exact this
theorem Prt.Cons.take (h : p.Cons m) (ok : p.Ok N) {c : Nat} (hc : c < p.rooms.length) {d : Bytes} {l : List Bytes} (hd : p.buffer.getD c [] = d :: l) :
    ({ p with buffer := p.buffer.set c l, giv := p.giv.set c (p.gv c).free, taken := p.taken.set c (p.taken.getD c 0 + 1) } : Prt).Cons m := by
  refine ⟨h.off, fun k hk => ?_, h.tmo, h.dd⟩
  show p.received.getD k 0 = (p.taken.set c (p.taken.getD c 0 + 1)).getD k 0 + ((p.buffer.set c l).getD k []).length
  rw [getD_set _ _ _ _ _ (by rw [ok.kl]; exact hc), getD_set _ _ _ _ _ (by rw [ok.bl]; exact hc)]
  have := h.got k hk
  split
  · rename_i e; subst e
    rw [hd, List.length_cons] at this
    omega
  · exact this
theorem new_cons (i : Nat) (rooms : List Nat) (wi ti de : Nat) : (newPrt i rooms wi ti de).Cons fun _ => 0 := by
  have hz : ∀ c, (List.replicate rooms.length 0).getD c 0 = 0 := fun c => by
    rw [List.getD, List.getElem?_replicate]
    split <;> rfl
  refine ⟨fun c _ => ?_, fun c _ => ?_, rfl, rfl⟩
  · rw [new_wait]
    show (List.replicate rooms.length 0).getD c 0 + 0 + 0 = 0
    rw [hz]
  · rw [new_buf]
    show (List.replicate rooms.length 0).getD c 0 = (List.replicate rooms.length 0).getD c 0 + 0
    rfl
/-- what is kept and waits, all classes together -/
theorem cnt_sum : ∀ (n : Nat) (ks : Hist), (∀ f ∈ ks, f.1 < n) → ((List.range n).map (cnt ks)).sum = ks.length
  | n, [], _ => by
    have : ∀ l : List Nat, (l.map (cnt [])).sum = 0 := fun l => by
      induction l with
      | nil => rfl
      | cons x l ih => rw [List.map_cons, List.sum_cons, ih]; rfl
    exact this _
  | n, f :: ks, h => by
    have h0 := h f (List.mem_cons_self ..)
    have ih := cnt_sum n ks fun g hg => h g (List.mem_cons_of_mem _ hg)
    have e : ∀ c, cnt (f :: ks) c = cnt ks c + if f.1 = c then 1 else 0 := fun c => by
      rw [show f :: ks = [(f.1, f.2)] ++ ks from rfl, cnt_append, cnt_one, Nat.add_comm]
    have key : ∀ (n : Nat), ((List.range n).map (cnt (f :: ks))).sum = ((List.range n).map (cnt ks)).sum + if f.1 < n then 1 else 0 := fun n => by
      induction n with
      | zero => rfl
      | succ n ih =>
        rw [List.range_succ, List.map_append, List.map_append, List.sum_append, List.sum_append, ih]
        show _ + (cnt (f :: ks) n + 0) = _ + (cnt ks n + 0) + _
        rw [e n]
        by_cases h1 : f.1 < n
        · rw [if_pos h1, if_neg (by omega), if_pos (by omega)]; omega
        · rw [if_neg h1]
          by_cases h2 : f.1 = n
          · rw [if_pos h2, if_pos (by omega)]; omega
          · rw [if_neg h2, if_neg (by omega)]; omega
    rw [key, if_pos h0, ih, List.length_cons]
end
end Go.Proofs.Ytcocnfbhileheaa

/- A pair of ports, nothing lost, everything taken: in the end everything has come. No program in sight. -/
namespace Go.Proofs.Ytcocnfbhileheaa

/-- a tick without losses, then one frame of each class is taken at each side -/
def Pr.serve (P : Pr) : Pr := ((((P.tick 0 0).take 0 0).take 1 0).take 0 1).take 1 1
def serves (P : Pr) : Nat → Pr
  | 0 => P
  | n + 1 => (serves P n).serve
def Nd.take2 (n : Nd) : Nd := (n.take 0).take 1
theorem serve_eq (P : Pr) : P.serve = ⟨(P.tick 0 0).l.take2, (P.tick 0 0).r.take2⟩ := rfl
theorem tick_l (P : Pr) : (P.tick 0 0).l = { P.l with prt := (P.l.prt.tick P.r.fly).2, fly := (P.l.prt.tick P.r.fly).1 } := by
  show ({ P.l with prt := _, fly := sift 0 0 0 _ } : Nd) = _
  rw [sift_id]
theorem tick_r (P : Pr) : (P.tick 0 0).r = { P.r with prt := (P.r.prt.tick P.l.fly).2, fly := (P.r.prt.tick P.l.fly).1 } := by
  show ({ P.r with prt := _, fly := sift 0 0 _ _ } : Nd) = _
  rw [sift_id]
section
variable {N : Nat} {P : Pr} {oa ga ob gb : Nat → List Bytes} {da db : Nat → Nat}
/-- what a take leaves -/
theorem take_leaves {n : Nd} (h : n.Ok N) {c : Nat} (hc : c < 2) : Took n.prt (n.take c).prt ∧ (n.take c).fly = n.fly ∧ (n.take c).off = n.off ∧ ∀ k, (n.take c).prt.buffer.getD k [] = if c = k then (n.prt.buffer.getD k []).drop 1 else n.prt.buffer.getD k [] := by
  rcases take_cases h hc with ⟨h1, _, e⟩ | ⟨x, l, h1, _, _, e⟩
  · rw [e]
    refine ⟨.refl, rfl, rfl, fun k => ?_⟩
    split
    · rename_i e; subst e; rw [h1]; rfl
    · rfl
  · rw [e]
    refine ⟨.step .refl (by rw [h.two]; exact hc) h1, rfl, rfl, fun k => ?_⟩
    show (n.prt.buffer.set c l).getD k [] = _
    rw [getD_set _ _ _ _ _ (by rw [h.ok.bl, h.two]; exact hc)]
    split
    · rename_i e; subst e; rw [h1]; rfl
    · rfl
theorem Took.trans {a p q : Prt} (h1 : Took a p) (h2 : Took p q) : Took a q := by
  induction h2 with
  | refl => exact h1
  | step _ hc hd ih => exact .step ih hc hd
theorem take2_leaves {n : Nd} (h : n.Ok N) : Took n.prt n.take2.prt ∧ n.take2.fly = n.fly ∧ n.take2.off = n.off ∧ ∀ k, k < 2 → n.take2.prt.buffer.getD k [] = (n.prt.buffer.getD k []).drop 1 := by
  obtain ⟨a1, a2, a3, a4⟩ := take_leaves h (c := 0) (by decide)
  obtain ⟨b1, b2, b3, b4⟩ := take_leaves (h.take (c := 0) (by decide)) (c := 1) (by decide)
  refine ⟨a1.trans b1, b2.trans a2, b3.trans a3, fun k hk => ?_⟩
  show ((n.take 0).take 1).prt.buffer.getD k [] = _
  rw [b4, a4]
  obtain rfl | rfl : k = 0 ∨ k = 1 := by omega
  · rw [if_neg (by decide), if_pos rfl]
  · rw [if_pos rfl, if_neg (by decide)]
theorem Pr.Ok.serve (h : P.Ok N) : P.serve.Ok (N + 2010) := ((((h.tick 0 0).take 0 (by decide)).take 1 (by decide)).take 0 (by decide)).take 1 (by decide) |>.mono (by omega)
theorem serves_ok (h : P.Ok N) : ∀ n, (serves P n).Ok (N + 2010 * n)
  | 0 => h
  | n + 1 => (serves_ok h n).serve.mono (by omega)
/-- the run -/
theorem pair_run2 {wa wb : List Way} (ea : wa.map (·.2) = P.l.fly) (eb : wb.map (·.2) = P.r.fly) (hb : Both P.l.prt P.r.prt wa wb oa ga ob gb da db) (ok : P.Ok N) :
    ∃ Ba Bb, Go 1 (fun n => (serves P n).l.prt) (fun n => (serves P n).r.prt) Ba Bb ∧ (∀ n, (Ba n).map (·.2) = (serves P n).l.fly) ∧ (∀ n, (Bb n).map (·.2) = (serves P n).r.fly) ∧ Ba 0 = wa ∧ Bb 0 = wb := by
  have hfl : ∀ n, (serves P (n + 1)).l.fly = ((serves P n).l.prt.tick (serves P n).r.fly).1 := fun n => by
    show (serves P n).serve.l.fly = _
    rw [serve_eq]
    dsimp only
    rw [(take2_leaves (((serves_ok ok n).tick 0 0).l)).2.1, tick_l]
  have hfr : ∀ n, (serves P (n + 1)).r.fly = ((serves P n).r.prt.tick (serves P n).l.fly).1 := fun n => by
    show (serves P n).serve.r.fly = _
    rw [serve_eq]
    dsimp only
    rw [(take2_leaves (((serves_ok ok n).tick 0 0).r)).2.1, tick_r]
  obtain ⟨Ba, hBa⟩ : ∃ Ba : Nat → List Way, ∀ n, Ba n = match n with | 0 => wa | n + 1 => ((serves P n).l.prt.tick (serves P n).r.fly).1.map fun y => (((serves P n).l.prt.tick (serves P n).r.fly).2.tag, y) := ⟨_, fun _ => rfl⟩
  obtain ⟨Bb, hBb⟩ : ∃ Bb : Nat → List Way, ∀ n, Bb n = match n with | 0 => wb | n + 1 => ((serves P n).r.prt.tick (serves P n).l.fly).1.map fun y => (((serves P n).r.prt.tick (serves P n).l.fly).2.tag, y) := ⟨_, fun _ => rfl⟩
  have ma : ∀ n, (Ba n).map (·.2) = (serves P n).l.fly := fun n => by
    rw [hBa]
    cases n with
    | zero => exact ea
    | succ n => rw [hfl]; dsimp only; rw [List.map_map]; exact List.map_id _
  have mb : ∀ n, (Bb n).map (·.2) = (serves P n).r.fly := fun n => by
    rw [hBb]
    cases n with
    | zero => exact eb
    | succ n => rw [hfr]; dsimp only; rw [List.map_map]; exact List.map_id _
  refine ⟨Ba, Bb, ⟨Nat.le_refl _, fun n => ?_, fun n => ?_, fun n => ?_, fun n => ?_, ⟨_, ok.l.ok⟩, ⟨_, ok.r.ok⟩, ok.l.min, ok.r.min, fun j hj p hp => ?_, fun j hj p hp => ?_, oa, ga, ob, gb, da, db, ?_⟩, ma, mb, hBa 0, hBb 0⟩
  · rw [mb n, hBa]
  · rw [ma n, hBb]
  · rw [mb n]
    show Took _ (serves P n).serve.l.prt
    rw [serve_eq]
    have := (take2_leaves (((serves_ok ok n).tick 0 0).l)).1
    rwa [tick_l] at this ⊢
  · rw [ma n]
    show Took _ (serves P n).serve.r.prt
    rw [serve_eq]
    have := (take2_leaves (((serves_ok ok n).tick 0 0).r)).1
    rwa [tick_r] at this ⊢
  · obtain rfl : j = 0 := by omega
    refine Nat.le_trans (ok.l.f1 p.2 ?_).1 (by decide)
    rw [← show (Ba 0).map (·.2) = P.l.fly from ma 0]
    exact List.mem_map.2 ⟨p, hp, rfl⟩
  · obtain rfl : j = 0 := by omega
    refine Nat.le_trans (ok.r.f1 p.2 ?_).1 (by decide)
    rw [← show (Bb 0).map (·.2) = P.r.fly from mb 0]
    exact List.mem_map.2 ⟨p, hp, rfl⟩
  · have e : ∀ B : Nat → List Way, ways B 1 0 = B 0 := fun B => by unfold ways; simp
    rw [e, e, hBa, hBb]
    exact hb
theorem pair_run (h : P.Inv oa ga ob gb da db) (ok : P.Ok N) : ∃ Ba Bb, Go 1 (fun n => (serves P n).l.prt) (fun n => (serves P n).r.prt) Ba Bb ∧ (∀ n, (Ba n).map (·.2) = (serves P n).l.fly) ∧ ∀ n, (Bb n).map (·.2) = (serves P n).r.fly := by
  obtain ⟨wa, wb, ea, eb, hb⟩ := h
  obtain ⟨Ba, Bb, g, h1, h2, _⟩ := pair_run2 ea eb hb ok
  exact ⟨Ba, Bb, g, h1, h2⟩
end
/-- data that are not taken in change nothing -/
theorem recvs_still {i : Nat} {ds : List Pt} (h : IsData i ds) (p : Prt) : p.rcv ≤ (p.recvs ds).rcv ∧ ((p.recvs ds).rcv = p.rcv → (p.recvs ds).buffer = p.buffer) := by
  rcases h with rfl | ⟨_, _, _, rfl⟩
  · exact ⟨Nat.le_refl _, fun _ => rfl⟩
  · show p.rcv ≤ (p.receive _).rcv ∧ ((p.receive _).rcv = p.rcv → (p.receive _).buffer = p.buffer)
    unfold Prt.receive
    split
    · exact ⟨Nat.le_refl _, fun _ => rfl⟩
    · dsimp only
      split
      · exact ⟨Nat.le_succ _, fun _ => rfl⟩
      · exact ⟨Nat.le_succ _, fun h => by dsimp only at h; omega⟩
section
variable {D : Nat} {a b : Nat → Prt} {Ba Bb : Nat → List Way}
theorem Go.rcv_le (g : Go D a b Ba Bb) (u : Up D a b Ba Bb 0) (n : Nat) : (a n).rcv ≤ (a (n + 1)).rcv ∧ ((a (n + 1)).rcv = (a n).rcv → ((a n).tick ((Bb n).map (·.2))).2.buffer = (a n).buffer) := by
  obtain ⟨t, l, ds, ds', q, e, ti, ts, hds, hds', r1, r3, htick, ht, htk⟩ := g.turn (g.up_all u n)
  obtain ⟨h1, h2⟩ := recvs_still hds (a n)
  have e1 : (a (n + 1)).rcv = q.rcv := by rw [htk.eq]
  rw [e1, ht.rcv, htick]
  refine ⟨h1, fun h => ?_⟩
  show q.buffer = _
  rw [ht.buffer]; exact h2 h
theorem Go.rcv_mono (g : Go D a b Ba Bb) (u : Up D a b Ba Bb 0) (n : Nat) : ∀ j, (a n).rcv ≤ (a (n + j)).rcv
  | 0 => Nat.le_refl _
  | j + 1 => Nat.le_trans (g.rcv_mono u n j) (g.rcv_le u (n + j)).1
/-- where one frame of each class is taken after each tick, a buffer runs dry -/
theorem Go.dry (g : Go D a b Ba Bb) (u : Up D a b Ba Bb 0) {k x : Nat} (hk : k < (a 0).rooms.length) (hroom : (a 0).rooms.getD k 0 ≤ x) (ht : ∀ n, (a (n + 1)).buffer.getD k [] = (((a n).tick ((Bb n).map (·.2))).2.buffer.getD k []).drop 1) (n : Nat) (hr : (a (n + x)).rcv = (a n).rcv) : (a (n + x)).buffer.getD k [] = [] := by
  have hc : ∀ j, j ≤ x → (a (n + j)).buffer.getD k [] = ((a n).buffer.getD k []).drop j := fun j => by
    induction j with
    | zero => intro _; rfl
    | succ j ih =>
      intro hj
      have h1 := g.rcv_mono u n j
      have h2 := g.rcv_le u (n + j)
      have h3 := g.rcv_mono u (n + (j + 1)) (x - (j + 1))
      rw [show n + (j + 1) + (x - (j + 1)) = n + x by omega] at h3
      rw [show n + (j + 1) = n + j + 1 by omega] at h3 ⊢
      rw [ht, h2.2 (by omega), ih (by omega), List.drop_drop]
  rw [hc x (Nat.le_refl _)]
  refine List.drop_eq_nil_of_le ?_
  obtain ⟨oa, ga, ob, gb, da, db, hb⟩ := (g.at n).both
  obtain ⟨_, h2, _⟩ := g.kinds n
  have := hb.room (c := k) (by rw [h2]; exact hk)
  rw [h2] at this
  omega
end
end Go.Proofs.Ytcocnfbhileheaa

/- A pair of ports, nothing lost, everything taken: both are up, nothing is kept, nothing waits, everything was taken. No program in sight. -/
namespace Go.Proofs.Ytcocnfbhileheaa

theorem handle_tmo (p : Prt) (y : Pt) : (p.handle y).timeout = p.timeout := by
  unfold Prt.handle
  split
  · unfold Prt.greet; dsimp only
    split <;> rfl
  · split
    · rfl
    · split
      · unfold Prt.receive; split
        · rfl
        · dsimp only; split <;> rfl
      · split
        · rfl
        · split
          · unfold Prt.raise; split <;> rfl
          · rfl
theorem handles_tmo : ∀ (l : List Pt) (p : Prt), (l.foldl Prt.handle p).timeout = p.timeout
  | [], _ => rfl
  | y :: l, p => by rw [List.foldl_cons, handles_tmo l, handle_tmo]
theorem tick_tmo (p : Prt) (l : List Pt) : (p.tick l).2.timeout = p.timeout := by
  obtain ⟨a, ha⟩ : ∃ a, a = l.foldl Prt.handle p := ⟨_, rfl⟩
  have h1 : a.timeout = p.timeout := by rw [ha]; exact handles_tmo l p
  by_cases h : a.side.tick.state = 2
  · rw [Prt.tick_up ha h]
    have h2 : (Prt.choose { a with side := a.side.tick }).timeout = p.timeout := by
      unfold Prt.choose
      split
      · exact h1
      · split <;> exact h1
    split
    · exact h2
    · exact h2
  · rw [Prt.tick_down ha h]
    exact h1
theorem Took.cons {N : Nat} {a p : Prt} {m : Nat → Nat} (h : Took a p) (ok : a.Ok N) (hc : a.Cons m) : p.Cons m := by
  induction h with
  | refl => exact hc
  | step ht hk hd ih =>
    obtain ⟨N', ok'⟩ := ht.ok ⟨N, ok⟩
    exact ih.take ok' hk hd
/-- everything has come and was taken -/
structure Full (a b : Prt) : Prop where
  ua : a.side.state = 2
  ub : b.side.state = 2
  lk : Lkd a b
  ka : a.kept = []
  kb : b.kept = []
  wa : ∀ c, c < a.rooms.length → a.waiting.getD c [] = []
  wb : ∀ c, c < b.rooms.length → b.waiting.getD c [] = []
  ba : ∀ c, c < a.rooms.length → a.buffer.getD c [] = []
  bb : ∀ c, c < b.rooms.length → b.buffer.getD c [] = []
theorem wt_nil : ∀ {l : List (List Bytes)}, (l.map List.length).sum = 0 → ∀ c, l.getD c [] = []
  | [], _, c => by simp
  | x :: l, h, 0 => by
    simp only [List.map_cons, List.sum_cons] at h
    exact (show x = [] from List.eq_nil_of_length_eq_zero (by omega))
  | x :: l, h, c + 1 => by
    simp only [List.map_cons, List.sum_cons] at h
    exact wt_nil (l := l) (by omega) c
theorem wt_sum : ∀ (l : List (List Bytes)), (l.map List.length).sum = ((List.range l.length).map fun c => (l.getD c []).length).sum
  | [] => rfl
  | x :: l => by
    rw [List.length_cons, List.range_succ_eq_map, List.map_cons, List.map_cons, List.sum_cons, List.sum_cons, wt_sum l, List.map_map]
    rfl
theorem sum_le {n : Nat} {f g : Nat → Nat} (h : ∀ c, c < n → f c ≤ g c) : ((List.range n).map f).sum ≤ ((List.range n).map g).sum := by
  induction n with
  | zero => exact Nat.le_refl _
  | succ n ih =>
    rw [List.range_succ, List.map_append, List.map_append, List.sum_append, List.sum_append]
    exact Nat.add_le_add (ih fun c hc => h c (by omega)) (by show f n + 0 ≤ g n + 0; have := h n (by omega); omega)
theorem sum_add (n : Nat) (f g : Nat → Nat) : ((List.range n).map fun c => f c + g c).sum = ((List.range n).map f).sum + ((List.range n).map g).sum := by
  induction n with
  | zero => rfl
  | succ n ih =>
    rw [List.range_succ, List.map_append, List.map_append, List.map_append, List.sum_append, List.sum_append, List.sum_append, ih]
    show _ + (f n + g n + 0) = _ + (f n + 0) + (_ + (g n + 0))
    omega
/-- what is kept and waits is no more than was offered -/
theorem Prt.Cons.few {N : Nat} {p : Prt} {m : Nat → Nat} (h : p.Cons m) (ok : p.Ok N) : p.snd.kept.length + wt p ≤ ((List.range p.rooms.length).map m).sum := by
  have h1 : p.snd.kept.length = p.kept.length := by rw [← ok.kept, List.length_map]
  unfold wt
  rw [h1, ← cnt_sum p.rooms.length p.kept ok.kcl, wt_sum, ok.wl, ← sum_add]
  exact sum_le fun c hc => by have := h.off c hc; omega
section
variable {N : Nat} {P : Pr} {oa ga ob gb : Nat → List Bytes} {da db : Nat → Nat}
theorem serves_const (ok : P.Ok N) : ∀ n, (serves P n).l.prt.rooms = P.l.prt.rooms ∧ (serves P n).r.prt.rooms = P.r.prt.rooms ∧ (serves P n).l.prt.timeout = P.l.prt.timeout ∧ (serves P n).r.prt.timeout = P.r.prt.timeout
  | 0 => ⟨rfl, rfl, rfl, rfl⟩
  | n + 1 => by
    obtain ⟨h1, h2, h3, h4⟩ := serves_const ok n
    have ok' := (serves_ok ok n).tick 0 0
    have el := (take2_leaves ok'.l).1.eq
    have er := (take2_leaves ok'.r).1.eq
    show (serves P n).serve.l.prt.rooms = _ ∧ (serves P n).serve.r.prt.rooms = _ ∧ (serves P n).serve.l.prt.timeout = _ ∧ (serves P n).serve.r.prt.timeout = _
    rw [serve_eq]
    dsimp only
    rw [el, er, tick_l, tick_r]
    exact ⟨(tick_keeps _ _).1.trans h1, (tick_keeps _ _).1.trans h2, (tick_tmo _ _).trans h3, (tick_tmo _ _).trans h4⟩
theorem serves_cons (ok : P.Ok N) {ml mr : Nat → Nat} (cl : P.l.prt.Cons ml) (cr : P.r.prt.Cons mr) : ∀ n, (serves P n).l.prt.Cons ml ∧ (serves P n).r.prt.Cons mr
  | 0 => ⟨cl, cr⟩
  | n + 1 => by
    obtain ⟨h1, h2⟩ := serves_cons ok cl cr n
    have ok0 := serves_ok ok n
    have ok' := ok0.tick 0 0
    show (serves P n).serve.l.prt.Cons ml ∧ (serves P n).serve.r.prt.Cons mr
    rw [serve_eq]
    refine ⟨(take2_leaves ok'.l).1.cons ok'.l.ok ?_, (take2_leaves ok'.r).1.cons ok'.r.ok ?_⟩
    · rw [tick_l]
      exact h1.tick ok0.l.ok fun y hy => Nat.le_trans (ok0.r.f1 y hy).1 (by decide)
    · rw [tick_r]
      exact h2.tick ok0.r.ok fun y hy => Nat.le_trans (ok0.l.f1 y hy).1 (by decide)
/-- one direction -/
theorem pair_way {a b : Nat → Prt} {Ba Bb : Nat → List Way} (g : Go 1 a b Ba Bb) (u : Up 1 a b Ba Bb 0) (hr : (b 0).rooms.length = (a 0).rooms.length) (hroom : ∀ c, c < (b 0).rooms.length → (b 0).rooms.getD c 0 ≤ 4)
    (ht : ∀ n k, k < (b 0).rooms.length → (b (n + 1)).buffer.getD k [] = (((b n).tick ((Ba n).map (·.2))).2.buffer.getD k []).drop 1) (hM : (a 0).snd.acked + (a 0).snd.kept.length + wt (a 0) ≤ 1000000000) {L : Nat} (hL : (a 0).snd.kept.length + wt (a 0) ≤ L) (htm : (a 0).snd.timeout ≤ 6)
    {n : Nat} (hn : (Sync 1 (fun n => (b n).rcv) (fun n => (a n).snd.acked) (fun n => (a n).snd.pos) 0 ∧ 10 * L + 6 ≤ n) ∨ 17 * L + 15 ≤ n) :
    (a n).kept = [] ∧ (∀ c, (a n).waiting.getD c [] = []) ∧ (∀ c, c < (a 0).rooms.length → (b n).buffer.getD c [] = []) := by
  have hx : ∀ n c, c < (a 0).rooms.length → (b (n + 4)).rcv = (b n).rcv → ((b (n + 4)).buffer.getD c []) = [] := fun n c hc h =>
    g.swap.dry u.swap (by omega) (hroom c (by omega)) (fun n => ht n c (by omega)) n h
  have F := g.flow u hr hM 4 hx
  have hd : (b n).rcv = (a 0).snd.acked + (a 0).snd.kept.length + wt (a 0) ∧ (a n).snd.acked = (a 0).snd.acked + (a 0).snd.kept.length + wt (a 0) ∧ (a n).snd.kept.length = 0 ∧ wt (a n) = 0 ∧ ∀ c, c < (a 0).rooms.length → ((b n).gv c).freed = ((b n).gv c).received := by
    rcases hn with ⟨hs, hn⟩ | hn
    · refine F.done_from (Nat.le_refl _) hs ?_
      show 0 + ((a 0).snd.kept.length + wt (a 0)) * (4 + 4 * 1 + 2) + 1 + 4 + 1 ≤ n
      omega
    · refine F.done (Nat.le_refl _) ?_
      show 2 * 1 + ((a 0).snd.kept.length + wt (a 0) + 1) * ((a 0).snd.timeout + 1) + ((a 0).snd.kept.length + wt (a 0)) * (4 + 4 * 1 + 2) + 1 + 4 + 1 ≤ n
      have := Nat.mul_le_mul (show (a 0).snd.kept.length + wt (a 0) + 1 ≤ L + 1 by omega) (show (a 0).snd.timeout + 1 ≤ 7 by omega)
      omega
  obtain ⟨N, ok⟩ := (g.at n).okA
  refine ⟨?_, wt_nil hd.2.2.2.1, fun c hc => ?_⟩
  · have : (a n).kept.length = 0 := by rw [← hd.2.2.1, ← ok.kept, List.length_map]
    exact List.eq_nil_of_length_eq_zero this
  · obtain ⟨oa, ga, ob, gb, da, db, hA, tA, hB, tB, ⟨w1, _⟩, _, _⟩ := (g.at n).both
    have h1 := w1.rc.buf c (by rw [(g.swap.kinds n).2.1]; omega)
    have h2 := hd.2.2.2.2 c hc
    exact List.eq_nil_of_length_eq_zero (by omega)
theorem pair_takes {Ba Bb : Nat → List Way} (ok : P.Ok N) (ma : ∀ n, (Ba n).map (·.2) = (serves P n).l.fly) (mb : ∀ n, (Bb n).map (·.2) = (serves P n).r.fly) (n k : Nat) (hk : k < 2) :
    (serves P (n + 1)).l.prt.buffer.getD k [] = (((serves P n).l.prt.tick ((Bb n).map (·.2))).2.buffer.getD k []).drop 1 ∧ (serves P (n + 1)).r.prt.buffer.getD k [] = (((serves P n).r.prt.tick ((Ba n).map (·.2))).2.buffer.getD k []).drop 1 := by
  have ok' := (serves_ok ok n).tick 0 0
  have el := (take2_leaves ok'.l).2.2.2 k hk
  have er := (take2_leaves ok'.r).2.2.2 k hk
  rw [ma n, mb n]
  show (serves P n).serve.l.prt.buffer.getD k [] = _ ∧ (serves P n).serve.r.prt.buffer.getD k [] = _
  rw [serve_eq]
  rw [tick_l] at el
  rw [tick_r] at er
  constructor
  · rw [tick_l]; exact el
  · rw [tick_r]; exact er
/-- the pair in the end -/
theorem pair_full (h : P.Inv oa ga ob gb da db) (ok : P.Ok N) (hN : N ≤ 100000000) {ml mr : Nat → Nat} (cl : P.l.prt.Cons ml) (cr : P.r.prt.Cons mr) (tl : P.l.prt.timeout ≤ 6) (tr : P.r.prt.timeout ≤ 6) (dl : 2 ≤ P.l.prt.dead) (dr : 2 ≤ P.r.prt.dead)
    (rl : ∀ c, c < 2 → P.l.prt.rooms.getD c 0 ≤ 4) (rr : ∀ c, c < 2 → P.r.prt.rooms.getD c 0 ≤ 4) {L : Nat} (hL : ml 0 + ml 1 ≤ L) (hR : mr 0 + mr 1 ≤ L) (hL2 : L ≤ 1000000) {n : Nat} (hn : 17 * L + 18 ≤ n) : Full (serves P n).l.prt (serves P n).r.prt := by
  obtain ⟨Ba, Bb, g, ma, mb⟩ := pair_run h ok
  have hdl : 2 ≤ P.l.prt.side.dead := by rw [cl.dd]; exact dl
  have hdr : 2 ≤ P.r.prt.side.dead := by rw [cr.dd]; exact dr
  have u3 := g.up_at (n := 0 + 3) hdl hdr (by decide)
  have u := Up.shift (n := 0) (m := 3) u3
  have g3 := g.shift 3
  obtain ⟨c1, c2, c3, c4⟩ := serves_const ok (0 + 3)
  have ok3 := serves_ok ok (0 + 3)
  obtain ⟨k1, k2⟩ := serves_cons ok cl cr (0 + 3)
  have w1 := k1.few ok3.l.ok
  have w2 := k2.few ok3.r.ok
  rw [ok3.l.two] at w1
  rw [ok3.r.two] at w2
  have s1 : ((List.range 2).map ml).sum = ml 0 + ml 1 := by show ml 0 + (ml 1 + 0) = _; omega
  have s2 : ((List.range 2).map mr).sum = mr 0 + mr 1 := by show mr 0 + (mr 1 + 0) = _; omega
  have t1 := ok3.l.ok.tot
  have t2 := ok3.r.ok.tot
  unfold Snd.total at t1 t2
  obtain ⟨m, rfl⟩ : ∃ m, n = m + 3 := ⟨n - 3, by omega⟩
  have ht := fun n k hk => pair_takes ok ma mb (n + 3) k hk
  obtain ⟨a, ha⟩ : ∃ a : Nat → Prt, (fun n => (serves P (n + 3)).l.prt) = a := ⟨_, rfl⟩
  obtain ⟨b, hb⟩ : ∃ b : Nat → Prt, (fun n => (serves P (n + 3)).r.prt) = b := ⟨_, rfl⟩
  have ea : ∀ n, (serves P (n + 3)).l.prt = a n := fun n => congrFun ha n
  have eb : ∀ n, (serves P (n + 3)).r.prt = b n := fun n => congrFun hb n
  have ht' : ∀ n k, k < 2 → (a (n + 1)).buffer.getD k [] = (((a n).tick ((Bb (n + 3)).map (·.2))).2.buffer.getD k []).drop 1 ∧ (b (n + 1)).buffer.getD k [] = (((b n).tick ((Ba (n + 3)).map (·.2))).2.buffer.getD k []).drop 1 := fun n k hk => by
    have := ht n k hk
    rw [show n + 3 + 1 = n + 1 + 3 by omega, ea, eb, ea, eb] at this
    exact this
  have z1 := ok3.l.two; have z2 := ok3.r.two; have z3 := k1.tmo; have z4 := k2.tmo
  rw [ha, hb] at g3 u
  rw [ea] at w1 t1 z1 z3 c1 c3
  rw [eb] at w2 t2 z2 z4 c2 c4
  clear ht ok3 k1 k2 ma mb
  have A := pair_way g3 u (by rw [z1, z2]) (fun c hc => by rw [c2]; exact rr c (by rw [z2] at hc; exact hc)) (fun n k hk => (ht' n k (by rw [z2] at hk; exact hk)).2) (by omega) (L := L) (by omega) (by rw [z3, c3]; exact tl) (n := m) (.inr (by omega))
  have B := pair_way g3.swap u.swap (by rw [z1, z2]) (fun c hc => by rw [c1]; exact rl c (by rw [z1] at hc; exact hc)) (fun n k hk => (ht' n k (by rw [z1] at hk; exact hk)).1) (by omega) (L := L) (by omega) (by rw [z4, c4]; exact tr) (n := m) (.inr (by omega))
  have okm := serves_ok ok (m + 3)
  have hup := g.up_at (n := m + 3) hdl hdr (by omega)
  have y1 := (g.up_from (n := m + 2) hdl (by omega) hdr).1
  have y2 := (g.swap.up_from (n := m + 2) hdr (by omega) hdl).1
  have y3 := hup.lk
  have y4 := okm.l.two; have y5 := okm.r.two
  try dsimp only at y1 y2 y3
  rw [show m + 2 + 1 = m + 3 by omega] at y1 y2
  rw [ea] at y1 y4
  rw [eb] at y2 y5
  rw [ea, eb] at y3 ⊢
  exact ⟨y1, y2, y3, A.1, B.1, fun c _ => A.2.1 c, fun c _ => B.2.1 c, fun c hc => B.2.2 c (by rw [y4] at hc; rw [z2]; exact hc), fun c hc => A.2.2 c (by rw [y5] at hc; rw [z1]; exact hc)⟩
end
/-- what was offered and what was taken, when everything has come -/
theorem Both.full {a b : Prt} {wa wb : List Way} {oa ga ob gb : Nat → List Bytes} {da db : Nat → Nat} (h : Both a b wa wb oa ga ob gb da db) (f : Full a b) {c : Nat} (hc : c < a.rooms.length) (hc2 : c < b.rooms.length) :
    ∃ (E P0 F : List Bytes), gb c = E ++ F ∧ oa c = P0 ++ F ∧ List.Sublist E P0 ∧ P0.length ≤ da c ∧ F.length = (a.tk c).sent := by
  obtain ⟨hA, tA, hB, tB, ⟨d1, c1⟩, _⟩ := h
  obtain ⟨E, P, g1, g2, g3, _⟩ := c1 c
  obtain ⟨P0, q1, q2, q3⟩ := g3 f.lk
  have hl := d1.lnk f.lk.1 f.lk.2
  have hk := hl.kept
  rw [f.ka] at hk
  have hlen : hA.length ≤ a.snd.acked := by
    have := congrArg List.length hk
    rw [List.length_drop] at this
    have h0 : ([] : Hist).length = 0 := rfl
    omega
  have h1 := hl.ack
  rw [f.bb c hc2, List.append_nil, List.take_of_length_le (by omega)] at g1
  rw [f.ka, f.wa c hc, q1, List.take_of_length_le hlen, frm_nil, List.append_nil, List.append_nil] at g2
  refine ⟨E, P0, frm c hA, g1, g2, q2, q3, ?_⟩
  rw [hl.sent c]
  unfold frm cnt
  rw [List.length_map]
end Go.Proofs.Ytcocnfbhileheaa

/- A pair of ports: what is counted, through all events; in the end everything that was offered was taken. No program in sight. -/
namespace Go.Proofs.Ytcocnfbhileheaa

/-- what a side counts -/
structure Nd.Sum (n : Nd) (k : Nat) : Prop where
  cons : n.prt.Cons fun c => (n.off.getD c []).length
  tak : ∀ c, c < 2 → n.prt.taken.getD c 0 = (n.got.getD c []).length
  few : (n.off.getD 0 []).length + (n.off.getD 1 []).length ≤ k
  tmo : n.prt.timeout ≤ 6
  dead : n.prt.dead = 12
  room : ∀ c, c < 2 → n.prt.rooms.getD c 0 ≤ 4
structure Pr.Sum (P : Pr) (k : Nat) : Prop where
  l : P.l.Sum k
  r : P.r.Sum k
section
variable {N k : Nat} {P : Pr}
theorem tick_deadf (p : Prt) (l : List Pt) : (p.tick l).2.dead = p.dead := by
  have hh : ∀ (p : Prt) (y : Pt), (p.handle y).dead = p.dead := fun p y => by
    unfold Prt.handle
    split
    · unfold Prt.greet; dsimp only
      split <;> rfl
    · split
      · rfl
      · split
        · unfold Prt.receive; split
          · rfl
          · dsimp only; split <;> rfl
        · split
          · rfl
          · split
            · unfold Prt.raise; split <;> rfl
            · rfl
  have hhs : ∀ (l : List Pt) (p : Prt), (l.foldl Prt.handle p).dead = p.dead := fun l => by
    induction l with
    | nil => exact fun _ => rfl
    | cons y l ih => exact fun p => by rw [List.foldl_cons, ih, hh]
  obtain ⟨a, ha⟩ : ∃ a, a = l.foldl Prt.handle p := ⟨_, rfl⟩
  have h1 : a.dead = p.dead := by rw [ha]; exact hhs l p
  by_cases h : a.side.tick.state = 2
  · rw [Prt.tick_up ha h]
    have h2 : (Prt.choose { a with side := a.side.tick }).dead = p.dead := by
      unfold Prt.choose
      split
      · exact h1
      · split <;> exact h1
    split
    · exact h2
    · exact h2
  · rw [Prt.tick_down ha h]
    exact h1
theorem tick_taken (p : Prt) (l : List Pt) : (p.tick l).2.taken = p.taken := by
  have hh : ∀ (p : Prt) (y : Pt), (p.handle y).taken = p.taken := fun p y => by
    unfold Prt.handle
    split
    · unfold Prt.greet; dsimp only
      split <;> rfl
    · split
      · rfl
      · split
        · unfold Prt.receive; split
          · rfl
          · dsimp only; split <;> rfl
        · split
          · rfl
          · split
            · unfold Prt.raise; split <;> rfl
            · rfl
  have hhs : ∀ (l : List Pt) (p : Prt), (l.foldl Prt.handle p).taken = p.taken := fun l => by
    induction l with
    | nil => exact fun _ => rfl
    | cons y l ih => exact fun p => by rw [List.foldl_cons, ih, hh]
  obtain ⟨a, ha⟩ : ∃ a, a = l.foldl Prt.handle p := ⟨_, rfl⟩
  have h1 : a.taken = p.taken := by rw [ha]; exact hhs l p
  by_cases h : a.side.tick.state = 2
  · rw [Prt.tick_up ha h]
    have h2 : (Prt.choose { a with side := a.side.tick }).taken = p.taken := by
      unfold Prt.choose
      split
      · exact h1
      · split <;> exact h1
    split
    · exact h2
    · exact h2
  · rw [Prt.tick_down ha h]
    exact h1
theorem Nd.Sum.ticked {n m : Nd} (h : n.Sum k) (ok : n.Ok N) (ok' : m.Ok N) (fl : List Pt) : ({ n with prt := (n.prt.tick m.fly).2, fly := fl } : Nd).Sum k := by
  obtain ⟨k1, k2, _⟩ := tick_keeps n.prt m.fly
  refine ⟨h.cons.tick ok.ok fun y hy => Nat.le_trans (ok'.f1 y hy).1 (by decide), fun c hc => ?_, h.few, ?_, ?_, fun c hc => ?_⟩
  · show (n.prt.tick m.fly).2.taken.getD c 0 = _
    rw [tick_taken]; exact h.tak c hc
  · show (n.prt.tick m.fly).2.timeout ≤ 6
    rw [tick_tmo]; exact h.tmo
  · show (n.prt.tick m.fly).2.dead = 12
    rw [tick_deadf]; exact h.dead
  · show (n.prt.tick m.fly).2.rooms.getD c 0 ≤ 4
    rw [k1]; exact h.room c hc
theorem Pr.Sum.tick (h : P.Sum k) (ok : P.Ok N) (lose dbl : Nat) : (P.tick lose dbl).Sum k := ⟨h.l.ticked ok.l ok.r _, h.r.ticked ok.r ok.l _⟩
theorem Nd.Sum.mono {n : Nd} (h : n.Sum k) {j : Nat} (hj : k ≤ j) : n.Sum j := ⟨h.cons, h.tak, Nat.le_trans h.few hj, h.tmo, h.dead, h.room⟩
theorem Prt.Cons.of {p : Prt} {m m' : Nat → Nat} (h : p.Cons m) (e : ∀ c, c < p.rooms.length → m c = m' c) : p.Cons m' := ⟨fun c hc => (h.off c hc).trans (e c hc), h.got, h.tmo, h.dd⟩
theorem Nd.Sum.offer {n : Nd} (h : n.Sum k) (ok : n.Ok N) {c : Nat} (hc : c < 2) (b : BitVec 8) : (n.offer c b).Sum (k + 1) := by
  rcases offer_cases ok hc b with ⟨_, e⟩ | ⟨_, e⟩
  · rw [e]; exact h.mono (by omega)
  · rw [e]
    have hl : ∀ j, ((n.off.set c (n.off.getD c [] ++ [b])).getD j []).length = if j = c then (n.off.getD c []).length + 1 else (n.off.getD j []).length := fun j => by
      rw [getD_set _ _ _ _ _ (by rw [ok.o2]; exact hc)]
      by_cases e : c = j
      · subst e; rw [if_pos rfl, if_pos rfl, List.length_append]; rfl
      · rw [if_neg e, if_neg fun h => e h.symm]
    refine ⟨(h.cons.offer ok.ok (c := c) (by rw [ok.two]; exact hc) [b]).of fun j _ => (hl j).symm, h.tak, ?_, h.tmo, h.dead, h.room⟩
    have := h.few
    show ((n.off.set c (n.off.getD c [] ++ [b])).getD 0 []).length + ((n.off.set c (n.off.getD c [] ++ [b])).getD 1 []).length ≤ k + 1
    rw [hl, hl]
    obtain rfl | rfl : c = 0 ∨ c = 1 := by omega
    · rw [if_pos rfl, if_neg (by decide)]; omega
    · rw [if_neg (by decide), if_pos rfl]; omega
theorem Nd.Sum.take {n : Nd} (h : n.Sum k) (ok : n.Ok N) {c : Nat} (hc : c < 2) : (n.take c).Sum k := by
  rcases take_cases ok hc with ⟨_, _, e⟩ | ⟨x, l, h1, _, _, e⟩
  · rw [e]; exact h
  · rw [e]
    refine ⟨h.cons.take ok.ok (by rw [ok.two]; exact hc) h1, fun j hj => ?_, h.few, h.tmo, h.dead, h.room⟩
    show (n.prt.taken.set c (n.prt.taken.getD c 0 + 1)).getD j 0 = ((n.got.set c (n.got.getD c [] ++ [x])).getD j []).length
    rw [getD_set _ _ _ _ _ (by rw [ok.ok.kl, ok.two]; exact hc), getD_set _ _ _ _ _ (by rw [ok.g2]; exact hc)]
    have := h.tak j hj
    split
    · rename_i e; subst e
      rw [List.length_append, List.length_singleton]; omega
    · exact this
theorem Pr.Sum.mono (h : P.Sum k) {j : Nat} (hj : k ≤ j) : P.Sum j := ⟨h.l.mono hj, h.r.mono hj⟩
theorem Pr.Sum.offer (h : P.Sum k) (ok : P.Ok N) (s : Nat) {c : Nat} (hc : c < 2) (b : BitVec 8) : (P.offer s c b).Sum (k + 1) := by
  unfold Pr.offer
  split
  · exact ⟨h.l.offer ok.l hc b, h.r.mono (by omega)⟩
  · exact ⟨h.l.mono (by omega), h.r.offer ok.r hc b⟩
theorem Pr.Sum.take (h : P.Sum k) (ok : P.Ok N) (s : Nat) {c : Nat} (hc : c < 2) : (P.take s c).Sum k := by
  unfold Pr.take
  split
  · exact ⟨h.l.take ok.l hc, h.r⟩
  · exact ⟨h.l, h.r.take ok.r hc⟩
theorem Pr.Sum.act (h : P.Sum k) (ok : P.Ok N) (e : Nat) : (P.act e).Sum (k + 1) := by
  unfold Pr.act
  split
  · exact h.offer ok _ (Nat.mod_lt _ (by decide)) _
  · split
    · exact (h.take ok _ (Nat.mod_lt _ (by decide))).mono (by omega)
    · exact h.mono (by omega)
theorem newNd_sum (inc room window : Nat) : (newNd inc room window).Sum 0 := by
  have hz : ∀ c, (([[], []] : List Bytes).getD c []) = [] := fun c => by
    match c with
    | 0 => rfl
    | 1 => rfl
    | c + 2 => rfl
  refine ⟨(new_cons _ _ _ _ _).of fun c _ => by show 0 = (([[], []] : List Bytes).getD c []).length; rw [hz]; rfl, fun c hc => ?_, Nat.le_refl _, by show 3 + window / 8 % 4 ≤ 6; omega, rfl, fun c hc => ?_⟩
  · obtain rfl | rfl : c = 0 ∨ c = 1 := by omega
    · rfl
    · rfl
  · obtain rfl | rfl : c = 0 ∨ c = 1 := by omega
    · show 1 + room % 4 ≤ 4; omega
    · show 1 + room / 4 % 4 ≤ 4; omega
theorem newPr_sum (room window : Nat) : (newPr room window).Sum 0 := ⟨newNd_sum _ _ _, newNd_sum _ _ _⟩
theorem Pr.Good.serve (h : P.Good) (ok : P.Ok N) : P.serve.Good :=
  ((((h.tick ok 0 0).take (ok.tick 0 0) 0 (by decide)).take ((ok.tick 0 0).take 0 (by decide)) 1 (by decide)).take (((ok.tick 0 0).take 0 (by decide)).take 1 (by decide)) 0 (by decide)).take ((((ok.tick 0 0).take 0 (by decide)).take 1 (by decide)).take 0 (by decide)) 1 (by decide)
theorem serves_good (h : P.Good) (ok : P.Ok N) : ∀ n, (serves P n).Good
  | 0 => h
  | n + 1 => (serves_good h ok n).serve (serves_ok ok n)
theorem Pr.Sum.serve (h : P.Sum k) (ok : P.Ok N) : P.serve.Sum k :=
  ((((h.tick ok 0 0).take (ok.tick 0 0) 0 (by decide)).take ((ok.tick 0 0).take 0 (by decide)) 1 (by decide)).take (((ok.tick 0 0).take 0 (by decide)).take 1 (by decide)) 0 (by decide)).take ((((ok.tick 0 0).take 0 (by decide)).take 1 (by decide)).take 0 (by decide)) 1 (by decide)
theorem serves_sum (h : P.Sum k) (ok : P.Ok N) : ∀ n, (serves P n).Sum k
  | 0 => h
  | n + 1 => (serves_sum h ok n).serve (serves_ok ok n)
/-- everything that was offered was taken, and is counted -/
structure Done (P : Pr) : Prop where
  got : ∀ c, c < 2 → P.r.got.getD c [] = P.l.off.getD c [] ∧ P.l.got.getD c [] = P.r.off.getD c []
  cnt : ∀ c, c < 2 → P.l.prt.acked.getD c 0 = (P.l.off.getD c []).length ∧ P.l.prt.received.getD c 0 = (P.l.got.getD c []).length ∧ P.l.prt.taken.getD c 0 = (P.l.got.getD c []).length
  cnt' : ∀ c, c < 2 → P.r.prt.acked.getD c 0 = (P.r.off.getD c []).length ∧ P.r.prt.received.getD c 0 = (P.r.got.getD c []).length ∧ P.r.prt.taken.getD c 0 = (P.r.got.getD c []).length
  up : P.l.prt.side.state = 2 ∧ P.r.prt.side.state = 2
theorem sing_inj {xs ys : Bytes} (h : sing xs = sing ys) : xs = ys :=
  List.IsPrefix.eq_of_length (sing_prefix (by rw [h]; exact List.prefix_refl _)) (by have := congrArg List.length h; unfold sing at this; simpa using this)
theorem full_got {a b : Nd} {wa wb : List Way} (ha : a.Ok N) (hb : b.Ok N) (h : Both a.prt b.prt wa wb a.os a.gs b.os b.gs (fun _ => 0) (fun _ => 0)) (f : Full a.prt b.prt) {c : Nat} (hc : c < 2) : b.got.getD c [] = a.off.getD c [] := by
  obtain ⟨E, P0, F, g1, g2, g3, g4, _⟩ := h.full f (c := c) (by rw [ha.two]; exact hc) (by rw [hb.two]; exact hc)
  obtain rfl : P0 = [] := List.length_eq_zero_iff.1 (by omega)
  obtain rfl : E = [] := List.sublist_nil.1 g3
  exact sing_inj (show b.gs c = a.os c by rw [g1, g2])
theorem Full.swap {a b : Prt} (f : Full a b) : Full b a := ⟨f.ub, f.ua, ⟨f.lk.2, f.lk.1⟩, f.kb, f.ka, f.wb, f.wa, f.bb, f.ba⟩
theorem full_cnt {n : Nd} (h : n.Sum k) (ok : n.Ok N) (k0 : n.prt.kept = []) (w0 : ∀ c, c < n.prt.rooms.length → n.prt.waiting.getD c [] = []) (b0 : ∀ c, c < n.prt.rooms.length → n.prt.buffer.getD c [] = []) {c : Nat} (hc : c < 2) :
    n.prt.acked.getD c 0 = (n.off.getD c []).length ∧ n.prt.received.getD c 0 = (n.got.getD c []).length ∧ n.prt.taken.getD c 0 = (n.got.getD c []).length := by
  have hr : c < n.prt.rooms.length := by rw [ok.two]; exact hc
  have h1 := h.cons.off c hr
  have h2 := h.cons.got c hr
  have h3 := h.tak c hc
  rw [k0, w0 c hr] at h1
  rw [b0 c hr] at h2
  have e : cnt [] c = 0 := rfl
  have e2 : ([] : List Bytes).length = 0 := rfl
  omega
/-- after all events: as many ticks as there may be frames, and some more -/
theorem pair_done (h : P.Good) (ok : P.Ok N) (hN : N ≤ 100000000) (s : P.Sum k) (hk : k ≤ 1000000) {n : Nat} (hn : 17 * k + 18 ≤ n) : Done (serves P n) := by
  have f := pair_full h ok hN s.l.cons s.r.cons s.l.tmo s.r.tmo (by rw [s.l.dead]; decide) (by rw [s.r.dead]; decide) s.l.room s.r.room s.l.few s.r.few hk hn
  have okn := serves_ok ok n
  have sn := serves_sum s ok n
  obtain ⟨wa, wb, _, _, hb⟩ := serves_good h ok n
  exact ⟨fun c hc => ⟨full_got okn.l okn.r hb f hc, full_got okn.r okn.l hb.swap f.swap hc⟩, fun c hc => full_cnt sn.l okn.l f.ka f.wa f.ba hc, fun c hc => full_cnt sn.r okn.r f.kb f.wb f.bb hc, f.ua, f.ub⟩
end
end Go.Proofs.Ytcocnfbhileheaa
