/- A conversation over two lossy wires: the invariant, so that what is accepted is a beginning of what was offered. No program in sight. -/
import Derived.Test.YtgpeekicpkgpmaaPlayM
namespace Go.Proofs.Ytgpeekicpkgpmaa

/-- an item on its way: packet k, not too old, sent -/
def DOk (n hi lo : Nat) (x : ItemD) : Prop := ∃ k, x.n = ((k % 256 : Nat) : Int) ∧ x.data = dat k ∧ k < hi ∧ n ≤ k + lo
theorem DOk.mono {n n' hi hi' lo lo' : Nat} {x : ItemD} (h : DOk n hi lo x) (h1 : hi ≤ hi') (h2 : n' + lo ≤ n + lo') : DOk n' hi' lo' x := by
  obtain ⟨k, a, b, c, d⟩ := h; exact ⟨k, a, b, by omega, by omega⟩
theorem AOk.mono {n n' lo lo' : Nat} {x : ItemD} (h : AOk n lo x) (h1 : n ≤ n') (h2 : n' + lo ≤ n + lo') : AOk n' lo' x := by
  obtain ⟨a, b, c, d⟩ := h; exact ⟨a, b, by omega, by omega⟩
theorem recvs {hi : Nat} : ∀ {l : List ItemD} {n : Nat} {acc : List Bytes} {b : Bool}, (∀ x ∈ l, DOk n hi (100 - l.length) x) → l.length ≤ 50 → n ≤ hi → hi ≤ n + 100 → acc = datL n →
    ∃ m, (l.foldl recv1 (n, acc, b)).1 = m ∧ (l.foldl recv1 (n, acc, b)).2.1 = datL m ∧ n ≤ m ∧ m ≤ n + l.length ∧ m ≤ hi ∧ (∀ x ∈ l, ∀ k, x.n = ((k % 256 : Nat) : Int) → k < hi → n ≤ k → k ≤ n → k + 1 ≤ m)
  | [], n, acc, b, _, _, h1, _, h3 => ⟨n, rfl, h3, Nat.le_refl _, Nat.le_refl _, h1, fun x hx => by cases hx⟩
  | x :: l, n, acc, b, h, hl, h1, h2, h3 => by
    have hlen : (x :: l).length = l.length + 1 := rfl
    rw [hlen] at hl
    obtain ⟨k, hk1, hk2, hk3, hk4⟩ := h x List.mem_cons_self
    rw [hlen] at hk4
    rw [List.foldl_cons]
    by_cases hn : x.n = (n : Int) % 256
    · have hkn : k = n := by rw [hk1] at hn; omega
      subst hkn
      have e : recv1 (k, acc, b) x = (k + 1, acc ++ [x.data], b) := by unfold recv1; rw [if_pos hn]
      rw [e]
      obtain ⟨m, m1, m2, m3, m4, m5, m6⟩ := recvs (hi := hi) (l := l) (n := k + 1) (acc := acc ++ [x.data]) (b := b) (fun y hy => (h y (List.mem_cons_of_mem _ hy)).mono (Nat.le_refl _) (by rw [hlen]; omega)) (by omega) (by omega) (by omega) (by rw [h3, hk2, datL_succ])
      exact ⟨m, m1, m2, by omega, by rw [hlen]; omega, m5, fun y hy j hj1 hj2 hj3 hj4 => by omega⟩
    · have e : recv1 (n, acc, b) x = (n, acc, true) := by unfold recv1; rw [if_neg hn]
      rw [e]
      obtain ⟨m, m1, m2, m3, m4, m5, m6⟩ := recvs (hi := hi) (l := l) (n := n) (acc := acc) (b := true) (fun y hy => (h y (List.mem_cons_of_mem _ hy)).mono (Nat.le_refl _) (by rw [hlen]; omega)) (by omega) h1 h2 h3
      refine ⟨m, m1, m2, m3, by rw [hlen]; omega, m5, fun y hy j hj1 hj2 hj3 hj4 => ?_⟩
      rcases List.mem_cons.1 hy with rfl | hy
      · exact absurd hj1 (by intro hj; apply hn; rw [hj]; omega)
      · exact m6 y hy j hj1 hj2 hj3 hj4
/-- what a wire hands out, and keeps -/
theorem carry_out {s : List (List ItemD)} {delay times : Nat} {x : List ItemD} : ((carryM s delay x times).1 = [] ∧ (carryM s delay x times).2 = s ++ [(List.replicate times x).flatten] ∧ s.length + 1 ≤ delay) ∨
    (delay < s.length + 1 ∧ (s ++ [(List.replicate times x).flatten])[0]? = some (carryM s delay x times).1 ∧ (carryM s delay x times).2 = (s ++ [(List.replicate times x).flatten]).drop 1) := by
  unfold carryM
  by_cases h : (s ++ [(List.replicate times x).flatten]).length ≤ delay
  · rw [if_pos h]; exact .inl ⟨rfl, rfl, by simpa using h⟩
  · rw [if_neg h]; refine .inr ⟨by simp at h; omega, ?_, rfl⟩
    cases s <;> simp
theorem rep_mem {times : Nat} {x : List ItemD} {y : ItemD} (h : y ∈ (List.replicate times x).flatten) : y ∈ x := by
  obtain ⟨l, h1, h2⟩ := List.mem_flatten.1 h
  obtain ⟨_, rfl⟩ := List.mem_replicate.1 h1
  exact h2
theorem rep_len {times : Nat} {x : List ItemD} (h : times ≤ 2) (hx : x.length ≤ 1) : ((List.replicate times x).flatten).length ≤ 2 := by
  simp; exact Nat.le_trans (Nat.mul_le_mul h hx) (by decide)
/-- a wire whose slot i holds good items; good gets weaker from slot to slot -/
def WOk (G : Nat → ItemD → Prop) (s : List (List ItemD)) : Prop := ∀ (i : Nat) sl, s[i]? = some sl → sl.length ≤ 2 ∧ ∀ x ∈ sl, G (s.length - i) x
/-- a tick of a wire: G before, G' behind it; what comes in is good for G at 0 -/
theorem WOk.carry {G G' : Nat → ItemD → Prop} {s : List (List ItemD)} {delay times : Nat} {x : List ItemD} (h : WOk G s) (ht : times ≤ 2) (hx : x.length ≤ 1) (hin : ∀ y ∈ x, G 0 y) (hm : ∀ j y, G j y → G' (j + 1) y) :
    WOk G' (carryM s delay x times).2 ∧ (carryM s delay x times).1.length ≤ 2 ∧ (∀ y ∈ (carryM s delay x times).1, ∃ j, j ≤ s.length ∧ G j y) ∧ (s.length ≤ delay → (carryM s delay x times).2.length = min (s.length + 1) delay) := by
  have hall : ∀ (i : Nat) sl, (s ++ [(List.replicate times x).flatten])[i]? = some sl → i ≤ s.length ∧ sl.length ≤ 2 ∧ ∀ y ∈ sl, G (s.length - i) y := by
    intro i sl hi
    rw [List.getElem?_append] at hi
    split at hi
    · exact ⟨by omega, h i sl hi⟩
    · have : i - s.length = 0 := by
        rcases Nat.eq_zero_or_pos (i - s.length) with h | h
        · exact h
        · rw [List.getElem?_eq_none (by simp; omega)] at hi; cases hi
      rw [this] at hi
      obtain rfl : _ = sl := by simpa using hi
      have e : s.length - i = 0 := by omega
      rw [e]
      exact ⟨by omega, rep_len ht hx, fun y hy => hin y (rep_mem hy)⟩
  rcases carry_out (s := s) (delay := delay) (times := times) (x := x) with ⟨e1, e2, e3⟩ | ⟨e3, e1, e2⟩
  · rw [e1, e2]
    refine ⟨fun i sl hi => ?_, by simp, (fun y hy => by cases hy), fun _ => by simp; omega⟩
    obtain ⟨hi1, hi2, hi3⟩ := hall i sl hi
    refine ⟨hi2, fun y hy => ?_⟩
    have := hm _ _ (hi3 y hy)
    have e : (s ++ [(List.replicate times x).flatten]).length - i = s.length - i + 1 := by simp; omega
    rw [e]; exact this
  · obtain ⟨_, f2, f3⟩ := hall 0 _ e1
    rw [e2]
    refine ⟨fun i sl hi => ?_, f2, fun y hy => ⟨s.length, Nat.le_refl _, f3 y hy⟩, fun hs => by simp; omega⟩
    rw [List.getElem?_drop] at hi
    obtain ⟨hi1, hi2, hi3⟩ := hall (1 + i) sl hi
    refine ⟨hi2, fun y hy => ?_⟩
    have := hm _ _ (hi3 y hy)
    have e : ((s ++ [(List.replicate times x).flatten]).drop 1).length - i = s.length - (1 + i) + 1 := by simp; omega
    rw [e]; exact this
/-- what a conversation may be -/
structure Cfg.Ok (c : Cfg) : Prop where
  w1 : 1 ≤ c.window
  w2 : c.window ≤ 16
  t1 : 1 ≤ c.timeout
  t2 : c.timeout ≤ 1000
  d : c.delay ≤ 6
structure Inv (c : Cfg) (t : Nat) (p : Ps) : Prop where
  si : SInv c.window c.timeout p.s p.off
  acc : p.acc = datL p.n
  an : p.s.acked ≤ p.n
  nh : p.n ≤ p.s.high
  th : WOk (fun j => DOk p.n p.s.high (16 + 2 * j)) p.th
  bk : WOk (fun j => AOk p.n (2 * j)) p.bk
  thl : p.th.length = min t c.delay
  bkl : p.bk.length = min t c.delay
  off : p.off ≤ 3 * t
theorem Inv.start {c : Cfg} (hc : c.Ok) : Inv c 0 (Go.Proofs.Ytgpeekicpkgpmaa.start c) :=
  ⟨SInv.start hc.w1 (by have := hc.w2; omega) hc.t1 hc.t2, rfl, Nat.le_refl _, by simp [Go.Proofs.Ytgpeekicpkgpmaa.start, Snd.high, newSnd], (fun i sl h => by simp [Go.Proofs.Ytgpeekicpkgpmaa.start] at h), (fun i sl h => by simp [Go.Proofs.Ytgpeekicpkgpmaa.start] at h), by simp [Go.Proofs.Ytgpeekicpkgpmaa.start], by simp [Go.Proofs.Ytgpeekicpkgpmaa.start], by simp [Go.Proofs.Ytgpeekicpkgpmaa.start]⟩
theorem nOff_le (l : List (BitVec 8)) (t : Nat) : nOff l t ≤ 3 := by unfold nOff; split <;> omega
theorem outM_len (r : Option (Nat × Bytes)) : (outM r).length ≤ 1 := by cases r <;> simp [outM]
/-- the facts on the parts of a tick -/
structure Tk (c : Cfg) (t : Nat) (p : Ps) : Prop where
  a : SInv c.window c.timeout (tickA c t p).1 (tickA c t p).2
  aa : (tickA c t p).1.acked = p.s.acked
  ah : (tickA c t p).1.high = p.s.high
  s : SInv c.window c.timeout (tickA c t p).1.tick.2 (tickA c t p).2
  sa : (tickA c t p).1.tick.2.acked = p.s.acked
  sh : p.s.high ≤ (tickA c t p).1.tick.2.high
  b : WOk (fun j => DOk p.n (tickA c t p).1.tick.2.high (16 + 2 * j)) p.th
  cc : (tickC c t p).2.1 = datL (tickC c t p).1
  c1 : p.n ≤ (tickC c t p).1
  c2 : (tickC c t p).1 ≤ p.n + 2
  c3 : (tickC c t p).1 ≤ (tickA c t p).1.tick.2.high
  c4 : ∀ x ∈ (tickB c t p).1, ∀ k, x.n = ((k % 256 : Nat) : Int) → k < (tickA c t p).1.tick.2.high → p.n ≤ k → k ≤ p.n → k + 1 ≤ (tickC c t p).1
  dd : ∀ x ∈ (tickD c t p).1, AOk (tickC c t p).1 100 x
  bl : (tickB c t p).1.length ≤ 2
  bd : ∀ x ∈ (tickB c t p).1, ∃ k, x.data = dat k
  dl : (tickD c t p).1.length ≤ 2
  inv : Inv c (t + 1) (tickM c t p)
theorem Inv.tick {c : Cfg} (hc : c.Ok) {t : Nat} {p : Ps} (h : Inv c t p) : Tk c t p := by
  have hd := hc.d
  have hw := hc.w2
  obtain ⟨a1, a2, a3, a4, a5⟩ := h.si.offers (k := nOff c.offers t)
  have a5' : (offers (nOff c.offers t) p.s p.off).2 ≤ p.off + 3 := by have := nOff_le c.offers t; omega
  obtain ⟨s1, s2, s3, s4⟩ := a1.tick
  have ah : (tickA c t p).1.high = p.s.high := by unfold tickA Snd.high; rw [a2, a3]
  have sa : (tickA c t p).1.tick.2.acked = p.s.acked := s2.trans a2
  have sh : p.s.high ≤ (tickA c t p).1.tick.2.high := by rw [← ah]; exact s3
  have hhi : (tickA c t p).1.tick.2.high ≤ p.s.acked + 16 := by
    have := s1.sent
    unfold Snd.high
    rw [sa]; unfold tickA; omega
  have hb : WOk (fun j => DOk p.n (tickA c t p).1.tick.2.high (16 + 2 * j)) p.th := fun i sl hi => ⟨(h.th i sl hi).1, fun x hx => ((h.th i sl hi).2 x hx).mono sh (Nat.le_refl _)⟩
  have hin : ∀ y ∈ outM (tickA c t p).1.tick.1, DOk p.n (tickA c t p).1.tick.2.high (16 + 2 * 0) y := fun y hy => by
    obtain ⟨k, k1, k2, k3, k4⟩ := s4 y hy
    refine ⟨k, k1, k2, k4, ?_⟩
    have := h.nh
    have h1 : p.s.high ≤ p.s.acked + 16 := by unfold Snd.high; have := h.si.sent; omega
    rw [show (offers (nOff c.offers t) p.s p.off).1.acked = p.s.acked from a2] at k3
    omega
  have hlen : p.th.length ≤ c.delay := by rw [h.thl]; exact Nat.min_le_right _ _
  have hlen2 : p.bk.length ≤ c.delay := by rw [h.bkl]; exact Nat.min_le_right _ _
  obtain ⟨_, b2, b3, b4⟩ := hb.carry (G' := fun _ _ => True) (delay := c.delay) (timesM_le c.there t) (outM_len _) hin fun _ _ _ => trivial
  have b2' : (tickB c t p).1.length ≤ 2 := b2
  have b3' : ∀ x ∈ (tickB c t p).1, DOk p.n (tickA c t p).1.tick.2.high (100 - (tickB c t p).1.length) x := fun x hx => by
    obtain ⟨j, j1, j2⟩ := b3 x hx
    exact j2.mono (Nat.le_refl _) (by omega)
  obtain ⟨m, m1, m2, m3, m4, m5, m6⟩ := recvs (b := false) (acc := p.acc) b3' (by omega) (Nat.le_trans h.nh sh) (by have := h.an; omega) h.acc
  have c1 : p.n ≤ (tickC c t p).1 := by show _ ≤ (List.foldl recv1 _ _).1; rw [m1]; exact m3
  have c2 : (tickC c t p).1 ≤ p.n + 2 := by show (List.foldl recv1 _ _).1 ≤ _; rw [m1]; omega
  have c3 : (tickC c t p).1 ≤ (tickA c t p).1.tick.2.high := by show (List.foldl recv1 _ _).1 ≤ _; rw [m1]; exact m5
  have cc : (tickC c t p).2.1 = datL (tickC c t p).1 := by show (List.foldl recv1 _ _).2.1 = datL (List.foldl recv1 _ _).1; rw [m1]; exact m2
  have c4 : ∀ x ∈ (tickB c t p).1, ∀ k, x.n = ((k % 256 : Nat) : Int) → k < (tickA c t p).1.tick.2.high → p.n ≤ k → k ≤ p.n → k + 1 ≤ (tickC c t p).1 := fun x hx k h1 h2 h3 h4 => by
    show _ ≤ (List.foldl recv1 _ _).1; rw [m1]; exact m6 x hx k h1 h2 h3 h4
  -- what is on its way back
  have hbk : WOk (fun j => AOk (tickC c t p).1 (2 * j + 2)) p.bk := fun i sl hi => ⟨(h.bk i sl hi).1, fun x hx => ((h.bk i sl hi).2 x hx).mono c1 (by omega)⟩
  have hans : ∀ y ∈ [answer c t p], AOk (tickC c t p).1 (2 * 0 + 2) y := fun y hy => by
    obtain rfl := List.mem_singleton.1 hy
    exact ⟨(tickC c t p).1, by unfold answer; dsimp only; omega, Nat.le_refl _, by omega⟩
  obtain ⟨d1, d2, d3, d4⟩ := hbk.carry (G' := fun j => AOk (tickC c t p).1 (2 * j)) (delay := c.delay) (timesM_le c.back t) (by simp) hans fun j y hy => by
    have e : 2 * (j + 1) = 2 * j + 2 := by omega
    rw [e]; exact hy
  have d3' : ∀ x ∈ (tickD c t p).1, AOk (tickC c t p).1 100 x := fun x hx => by
    obtain ⟨j, j1, j2⟩ := d3 x hx
    exact j2.mono (Nat.le_refl _) (by omega)
  have hacked : (tickA c t p).1.tick.2.acked ≤ (tickC c t p).1 := by have := h.an; omega
  obtain ⟨e1, e2, e3, e4, _, _⟩ := SInv.backs (n := (tickC c t p).1) (l := (tickD c t p).1) s1 hacked c3 d3'
  have hb' : WOk (fun j => DOk (tickC c t p).1 (tickA c t p).1.tick.2.high (16 + 2 * j)) (tickB c t p).2 :=
    (hb.carry (G' := fun j => DOk (tickC c t p).1 (tickA c t p).1.tick.2.high (16 + 2 * j)) (delay := c.delay) (timesM_le c.there t) (outM_len _) hin fun j y hy => hy.mono (Nat.le_refl _) (by omega)).1
  refine ⟨a1, a2, ah, s1, sa, sh, hb, cc, c1, c2, c3, c4, d3', b2', fun x hx => by (obtain ⟨k, _, hk, _⟩ := b3' x hx; exact ⟨k, hk⟩), d2, ⟨e1, cc, e4, ?_, ?_, d1, ?_, ?_, ?_⟩⟩
  · show (tickC c t p).1 ≤ ((tickD c t p).1.foldl back1 (tickA c t p).1.tick.2).high
    rw [show ((tickD c t p).1.foldl back1 (tickA c t p).1.tick.2).high = _ from e2]; exact c3
  · show WOk (fun j => DOk (tickC c t p).1 ((tickD c t p).1.foldl back1 (tickA c t p).1.tick.2).high (16 + 2 * j)) (tickB c t p).2
    rw [show ((tickD c t p).1.foldl back1 (tickA c t p).1.tick.2).high = _ from e2]; exact hb'
  · show (tickB c t p).2.length = _
    rw [show (tickB c t p).2.length = _ from b4 hlen, h.thl]; omega
  · show (tickD c t p).2.length = _
    rw [show (tickD c t p).2.length = _ from d4 hlen2, h.bkl]; omega
  · show (tickA c t p).2 ≤ _
    have := h.off
    unfold tickA; omega
theorem inv_play {c : Cfg} (hc : c.Ok) : ∀ t, Inv c t (playM c t)
  | 0 => Inv.start hc
  | t + 1 => ((inv_play hc t).tick hc).inv
/-- what is accepted is a beginning of what was offered -/
theorem Inv.le {c : Cfg} {t : Nat} {p : Ps} (h : Inv c t p) : p.n ≤ p.off := by
  have h1 := h.nh
  have h2 := h.si.len
  have h3 := h.si.ok.sent
  have h4 := h.si.le
  unfold Snd.high at h1
  omega
end Go.Proofs.Ytgpeekicpkgpmaa
