/- A conversation over wires that lose nothing any more: everything is accepted and acknowledged. No program in sight. -/
import Derived.Test.YtgpeekicpkgpmaaPlayI
namespace Go.Proofs.Ytgpeekicpkgpmaa

/-- how many ticks pass at most before the oldest packet goes out -/
def nu (s : Snd) : Nat := if s.pos = 0 then 0 else if s.pos < s.kept.length then (s.kept.length - s.pos) + s.timeout else s.timeout - s.timer
theorem nu_tick {w T : Nat} {s : Snd} {off : Nat} (h : SInv w T s off) (hl : 0 < s.kept.length) :
    (∃ x ∈ outM s.tick.1, x.n = ((s.acked % 256 : Nat) : Int) ∧ s.acked < s.tick.2.high) ∨ nu s.tick.2 + 1 ≤ nu s := by
  have hlen := h.len
  unfold Snd.tick
  rw [if_neg (by omega)]
  by_cases h1 : s.kept.length ≤ s.pos
  · rw [if_pos h1]
    by_cases h2 : s.timer + 1 < s.timeout
    · rw [if_pos h2]
      right
      unfold nu
      dsimp only
      rw [if_neg (by omega), if_neg (by omega), if_neg (by omega), if_neg (by omega)]
      omega
    · rw [if_neg h2]
      left
      refine ⟨_, List.mem_singleton.2 rfl, ?_, ?_⟩
      · show (((s.acked + 0) % 256 : Nat) : Int) = _; rfl
      · show s.acked < s.acked + max s.sent (0 + 1); omega
  · rw [if_neg h1]
    by_cases h0 : s.pos = 0
    · left
      refine ⟨_, List.mem_singleton.2 rfl, ?_, ?_⟩
      · show (((s.acked + s.pos) % 256 : Nat) : Int) = _; rw [h0]; rfl
      · show s.acked < s.acked + max s.sent (s.pos + 1); omega
    · right
      unfold nu Snd.send
      dsimp only
      rw [if_neg (by omega), if_neg h0, if_pos (show s.pos < s.kept.length by omega)]
      split <;> omega
/-- the wires' ticks where nothing is lost -/
theorem carry_one {s : List (List ItemD)} {delay : Nat} {x : List ItemD} (h : s.length = delay) : (carryM s delay x 1).1 = (s ++ [x]).headD [] ∧ (carryM s delay x 1).2 = (s ++ [x]).drop 1 := by
  unfold carryM
  have e : (List.replicate 1 x).flatten = x := by simp
  rw [e, if_neg (by simp; omega)]
  exact ⟨rfl, rfl⟩
/-- slot i of a wire holds something good -/
def In (s : List (List ItemD)) (i : Nat) (G : ItemD → Prop) : Prop := ∃ sl x, s[i]? = some sl ∧ x ∈ sl ∧ G x
theorem In.mono {s : List (List ItemD)} {i : Nat} {G G' : ItemD → Prop} (h : In s i G) (hG : ∀ x, G x → G' x) : In s i G' := by
  obtain ⟨sl, x, a, b, c⟩ := h; exact ⟨sl, x, a, b, hG x c⟩
/-- what stands in slot i comes out now or stands in slot i - 1 -/
theorem In.carry {s : List (List ItemD)} {i delay : Nat} {G : ItemD → Prop} {x : List ItemD} (h : In s i G) (hl : s.length = delay) :
    (i = 0 ∧ ∃ y ∈ (carryM s delay x 1).1, G y) ∨ (0 < i ∧ In (carryM s delay x 1).2 (i - 1) G) := by
  obtain ⟨e1, e2⟩ := carry_one (x := x) hl
  obtain ⟨sl, y, h1, h2, h3⟩ := h
  rw [e1, e2]
  cases i with
  | zero =>
    left
    refine ⟨rfl, y, ?_, h3⟩
    cases s with
    | nil => cases h1
    | cons z s => obtain rfl : z = sl := by simpa using h1
                  exact h2
  | succ i =>
    right
    refine ⟨by omega, sl, y, ?_, h2, h3⟩
    rw [List.getElem?_drop, List.getElem?_append_left (by
      rcases Nat.lt_or_ge (1 + (i + 1 - 1)) s.length with h | h
      · exact h
      · rw [List.getElem?_eq_none (by omega)] at h1; cases h1)]
    rw [show 1 + (i + 1 - 1) = i + 1 by omega]; exact h1
/-- what is put in comes out now, or stands in the last slot -/
theorem In.put {s : List (List ItemD)} {delay : Nat} {G : ItemD → Prop} {x : List ItemD} {y : ItemD} (hy : y ∈ x) (hG : G y) (hl : s.length = delay) :
    (delay = 0 ∧ ∃ y ∈ (carryM s delay x 1).1, G y) ∨ (0 < delay ∧ In (carryM s delay x 1).2 (delay - 1) G) := by
  obtain ⟨e1, e2⟩ := carry_one (x := x) hl
  rw [e1, e2]
  cases s with
  | nil => left; exact ⟨by simpa using hl.symm, y, hy, hG⟩
  | cons z s =>
    right
    have hl' : s.length + 1 = delay := by simpa using hl
    refine ⟨by omega, x, y, ?_, hy, hG⟩
    show (s ++ [x])[delay - 1]? = _
    rw [List.getElem?_append_right (by omega)]
    rw [show delay - 1 - s.length = 0 by omega]; rfl
structure Cfg.Live (c : Cfg) : Prop extends c.Ok where
  o : c.offers.length ≤ 60
  h : c.there.length ≤ 60
  b : c.back.length ≤ 60
  t3 : c.timeout ≤ 40
/-- how far the oldest packet is from being acknowledged -/
def Stage (c : Cfg) (p : Ps) (m : Nat) : Prop :=
  nu p.s + 2 * c.delay + 1 ≤ m ∨ (∃ j, In p.th j (fun x => x.n = ((p.s.acked % 256 : Nat) : Int)) ∧ p.s.acked < p.s.high ∧ j + 1 + c.delay ≤ m) ∨ (p.s.acked + 1 ≤ p.n ∧ c.delay + 1 ≤ m) ∨
    ∃ j, In p.bk j (fun x => ∃ a, x.n = ((a % 256 : Nat) : Int) ∧ p.s.acked + 1 ≤ a ∧ a ≤ p.n ∧ p.n ≤ a + 20) ∧ j + 1 ≤ m
theorem times_one {l : List (BitVec 8)} {t : Nat} (h : l.length ≤ 60) (ht : 60 ≤ t) : timesM l t = 1 := by
  unfold timesM; rw [List.getElem?_eq_none (by omega)]
theorem stage_tick {c : Cfg} (hc : c.Live) {t m : Nat} (ht : 60 ≤ t) {p : Ps} (h : Inv c t p) (hk : p.s.acked < p.off) (hs : Stage c p m) :
    (tickM c t p).off = p.off ∧ p.s.acked ≤ (tickM c t p).s.acked ∧ 0 < m ∧ (p.s.acked + 1 ≤ (tickM c t p).s.acked ∨ ((tickM c t p).s.acked = p.s.acked ∧ Stage c (tickM c t p) (m - 1))) := by
  have T := h.tick hc.toOk
  have hd := hc.d
  have hA : tickA c t p = (p.s, p.off) := by
    unfold tickA nOff; rw [List.getElem?_eq_none (by have := hc.o; omega)]; rfl
  have hA1 : (tickA c t p).1 = p.s := by rw [hA]
  have hthl : p.th.length = c.delay := by rw [h.thl]; omega
  have hbkl : p.bk.length = c.delay := by rw [h.bkl]; omega
  have hB : tickB c t p = carryM p.th c.delay (outM p.s.tick.1) 1 := by unfold tickB; rw [hA1, times_one hc.h ht]
  have hD : tickD c t p = carryM p.bk c.delay [answer c t p] 1 := by unfold tickD; rw [times_one hc.b ht]
  have T2 := T.c2; have T1 := T.c1; have T3 := T.c3; have T4 := T.c4; have Tsa := T.sa; have Tsh := T.sh; have TS := T.s; have TD := T.dd; have Tan := T.inv.an
  rw [hA1] at T3 T4 Tsa Tsh TS
  rw [show (tickA c t p).2 = p.off by rw [hA]] at TS
  have hl : 0 < p.s.kept.length := by rw [h.si.len]; omega
  have hacked : p.s.tick.2.acked ≤ (tickC c t p).1 := by have := h.an; omega
  obtain ⟨e1, e2, e3, e4, e5, e6⟩ := SInv.backs (n := (tickC c t p).1) (l := (tickD c t p).1) TS hacked T3 TD
  have hsn : (tickM c t p).s = (tickD c t p).1.foldl back1 p.s.tick.2 := by show (tickD c t p).1.foldl back1 (tickA c t p).1.tick.2 = _; rw [hA1]
  have hoff : (tickM c t p).off = p.off := by show (tickA c t p).2 = _; rw [hA]
  have hn : (tickM c t p).n = (tickC c t p).1 := rfl
  have hth : (tickM c t p).th = (tickB c t p).2 := rfl
  have hbk : (tickM c t p).bk = (tickD c t p).2 := rfl
  rw [← hsn] at e1 e2 e3 e4 e5 e6
  rw [Tsa] at e3 e6
  -- if the answer of this tick acknowledges more, or one that does is on its way
  have final : ∀ m, c.delay ≤ m → p.s.acked + 1 ≤ (tickC c t p).1 → (p.s.acked + 1 ≤ (tickM c t p).s.acked ∨ ((tickM c t p).s.acked = p.s.acked ∧ Stage c (tickM c t p) m)) := by
    intro m hm hle
    by_cases hp : p.s.acked + 1 ≤ (tickM c t p).s.acked
    · exact .inl hp
    · right
      refine ⟨by omega, ?_⟩
      have hG : (fun x : ItemD => x.n = (((tickC c t p).1 % 256 : Nat) : Int)) (answer c t p) := by show ((tickC c t p).1 : Int) % 256 = _; omega
      rcases In.put (s := p.bk) (x := [answer c t p]) (G := fun x => x.n = (((tickC c t p).1 % 256 : Nat) : Int)) (List.mem_singleton.2 rfl) hG hbkl with ⟨_, y, hy, hy2⟩ | ⟨hpos, hin⟩
      · rw [← hD] at hy
        have := e5 y hy _ hy2 (Nat.le_refl _) (by omega)
        omega
      · rw [← hD, ← hbk] at hin
        refine .inr (.inr (.inr ⟨c.delay - 1, hin.mono fun x hx => ⟨_, hx, ?_, ?_, ?_⟩, by omega⟩))
        · omega
        · rw [hn]; exact Nat.le_refl _
        · rw [hn]; omega
  rcases hs with hs | ⟨j, hs, hh, hm⟩ | ⟨hs, hm⟩ | ⟨j, hs, hm⟩
  · refine ⟨hoff, e3, by omega, ?_⟩
    rcases nu_tick h.si hl with ⟨x, hx, hxn, hxh⟩ | hnu
    · rcases In.put (s := p.th) (x := outM p.s.tick.1) (G := fun x => x.n = ((p.s.acked % 256 : Nat) : Int)) hx hxn hthl with ⟨hz, y, hy, hy2⟩ | ⟨hpos, hin⟩
      · rw [← hB] at hy
        refine final _ (by omega) ?_
        have := h.an
        by_cases hp : p.s.acked + 1 ≤ p.n
        · omega
        · exact T4 y hy _ hy2 hxh (by omega) (by omega)
      · rw [← hB, ← hth] at hin
        by_cases hp : p.s.acked + 1 ≤ (tickM c t p).s.acked
        · exact .inl hp
        · have ha : (tickM c t p).s.acked = p.s.acked := by omega
          refine .inr ⟨ha, .inr (.inl ⟨c.delay - 1, hin.mono fun x hx => by rw [ha]; exact hx, ?_, by omega⟩)⟩
          rw [ha, e2]; exact hxh
    · by_cases hp : p.s.acked + 1 ≤ (tickM c t p).s.acked
      · exact .inl hp
      · have ha : (tickM c t p).s.acked = p.s.acked := by omega
        refine .inr ⟨ha, .inl ?_⟩
        have : nu (tickM c t p).s ≤ nu p.s.tick.2 := by
          rcases e6 ha with e | ⟨ez, _⟩
          · rw [e]; exact Nat.le_refl _
          · unfold nu; rw [if_pos ez]; exact Nat.zero_le _
        omega
  · refine ⟨hoff, e3, by omega, ?_⟩
    rcases hs.carry (x := outM p.s.tick.1) hthl with ⟨hj, y, hy, hy2⟩ | ⟨hj, hin⟩
    · rw [← hB] at hy
      refine final _ (by omega) ?_
      have := h.an
      by_cases hp : p.s.acked + 1 ≤ p.n
      · omega
      · exact T4 y hy _ hy2 (by omega) (by omega) (by omega)
    · rw [← hB, ← hth] at hin
      by_cases hp : p.s.acked + 1 ≤ (tickM c t p).s.acked
      · exact .inl hp
      · have ha : (tickM c t p).s.acked = p.s.acked := by omega
        refine .inr ⟨ha, .inr (.inl ⟨j - 1, hin.mono fun x hx => by rw [ha]; exact hx, ?_, by omega⟩)⟩
        rw [ha, e2]; omega
  · exact ⟨hoff, e3, by omega, final _ (by omega) (by omega)⟩
  · refine ⟨hoff, e3, by omega, ?_⟩
    rcases hs.carry (x := [answer c t p]) hbkl with ⟨hj, y, hy, a, hy2, hy3, hy4, hy5⟩ | ⟨hj, hin⟩
    · rw [← hD] at hy
      have := e5 y hy a hy2 (by omega) (by omega)
      left; omega
    · rw [← hD, ← hbk] at hin
      by_cases hp : p.s.acked + 1 ≤ (tickM c t p).s.acked
      · exact .inl hp
      · have ha : (tickM c t p).s.acked = p.s.acked := by omega
        -- what stood in the slot is still an answer of the right age
        have hold := T.inv.bk
        refine .inr ⟨ha, .inr (.inr (.inr ⟨j - 1, ?_, by omega⟩))⟩
        obtain ⟨sl, x, hx1, hx2, a, hx3, hx4, hx5, hx6⟩ := hin
        have hle : (tickM c t p).bk.length ≤ c.delay := by rw [T.inv.bkl]; omega
        obtain ⟨_, hall⟩ := hold _ _ hx1
        obtain ⟨a', ha1, ha2, ha3⟩ := hall x hx2
        have haa : a' = a := by
          have e : a' % 256 = a % 256 := by rw [ha1] at hx3; omega
          rw [hn] at ha2 ha3
          omega
        subst haa
        refine ⟨sl, x, hx1, hx2, a', hx3, by omega, ha2, by omega⟩
theorem stage_start {c : Cfg} (hc : c.Live) {t : Nat} {p : Ps} (h : Inv c t p) : Stage c p 69 := by
  left
  have h1 := h.si.sent
  have h2 := h.si.ok.kept
  have h3 := h.si.win
  have h4 := h.si.tmo
  have h5 := hc.w2; have h6 := hc.t3; have h7 := hc.d
  have : nu p.s ≤ 56 := by
    unfold nu; split
    · omega
    · split <;> omega
  omega
/-- within m ticks the oldest packet is acknowledged -/
theorem progress {c : Cfg} (hc : c.Live) : ∀ (m : Nat) {t : Nat}, 60 ≤ t → (playM c t).s.acked < (playM c t).off → Stage c (playM c t) m →
    ∃ u, t < u ∧ u ≤ t + m ∧ (playM c u).off = (playM c t).off ∧ (playM c t).s.acked + 1 ≤ (playM c u).s.acked
  | 0, t, ht, hk, hs => by have := (stage_tick hc ht (inv_play hc.toOk t) hk hs).2.2.1; omega
  | m + 1, t, ht, hk, hs => by
    obtain ⟨h1, h2, h3, h4⟩ := stage_tick hc ht (inv_play hc.toOk t) hk hs
    rcases h4 with h4 | ⟨h4, h5⟩
    · exact ⟨t + 1, by omega, by omega, h1, h4⟩
    · have h1' : (playM c (t + 1)).off = (playM c t).off := h1
      have h4' : (playM c (t + 1)).s.acked = (playM c t).s.acked := h4
      obtain ⟨u, u1, u2, u3, u4⟩ := progress hc m (t := t + 1) (by omega) (by rw [h1', h4']; exact hk) h5
      exact ⟨u, by omega, by omega, u3.trans h1', by rw [h4'] at u4; exact u4⟩
/-- everything is acknowledged in the end -/
theorem done {c : Cfg} (hc : c.Live) : ∀ (k : Nat) {t : Nat}, 60 ≤ t → (playM c t).off ≤ (playM c t).s.acked + k → ∃ u, t ≤ u ∧ u ≤ t + 69 * k ∧ (playM c u).off = (playM c t).off ∧ (playM c u).s.acked = (playM c u).off
  | 0, t, ht, hk => ⟨t, Nat.le_refl _, Nat.le_refl _, rfl, by have := (inv_play hc.toOk t).si.le; omega⟩
  | k + 1, t, ht, hk => by
    by_cases hz : (playM c t).s.acked < (playM c t).off
    · obtain ⟨u, u1, u2, u3, u4⟩ := progress hc 69 ht hz (stage_start hc (inv_play hc.toOk t))
      obtain ⟨v, v1, v2, v3, v4⟩ := done hc k (t := u) (by omega) (by omega)
      exact ⟨v, by omega, by omega, by omega, v4⟩
    · exact ⟨t, Nat.le_refl _, by omega, rfl, by have := (inv_play hc.toOk t).si.le; omega⟩
theorem stays {c : Cfg} (hc : c.Live) {t : Nat} (ht : 60 ≤ t) (h : (playM c t).s.acked = (playM c t).off) : ∀ u, (playM c (t + u)).s.acked = (playM c (t + u)).off
  | 0 => h
  | u + 1 => by
    have ih := stays hc ht h u
    have hi := inv_play hc.toOk (t + u)
    have T := hi.tick hc.toOk
    have hA : tickA c (t + u) (playM c (t + u)) = ((playM c (t + u)).s, (playM c (t + u)).off) := by
      unfold tickA nOff; rw [List.getElem?_eq_none (by have := hc.o; omega)]; rfl
    have h1 : (playM c (t + (u + 1))).off = (playM c (t + u)).off := by show (tickA c (t + u) (playM c (t + u))).2 = _; rw [hA]
    have h2 := T.inv.si.le
    have hacked : (tickA c (t + u) (playM c (t + u))).1.tick.2.acked ≤ (tickC c (t + u) (playM c (t + u))).1 := by have := T.sa; have := hi.an; have := T.c1; omega
    obtain ⟨_, _, e3, _⟩ := SInv.backs (n := (tickC c (t + u) (playM c (t + u))).1) (l := (tickD c (t + u) (playM c (t + u))).1) T.s hacked T.c3 T.dd
    have h3 : (playM c (t + u)).s.acked ≤ (playM c (t + (u + 1))).s.acked := by
      have : (playM c (t + (u + 1))).s = (tickD c (t + u) (playM c (t + u))).1.foldl back1 (tickA c (t + u) (playM c (t + u))).1.tick.2 := rfl
      rw [this]; have := T.sa; omega
    have h2' : (playM c (t + (u + 1))).s.acked ≤ (playM c (t + (u + 1))).off := h2
    omega
theorem completes {c : Cfg} (hc : c.Live) : (playM c 1560).s.acked = (playM c 1560).off ∧ (playM c 1560).n = (playM c 1560).off ∧ (playM c 1560).s.kept.length = 0 := by
  have hi := inv_play hc.toOk 60
  have hlen := hi.si.len
  have h2 := hi.si.ok.kept
  have h3 := hi.si.win
  have h5 := hc.w2
  obtain ⟨u, u1, u2, _, u4⟩ := done hc 16 (t := 60) (Nat.le_refl _) (by have := hi.si.le; omega)
  have h := stays hc u1 u4 (1560 - u)
  rw [show u + (1560 - u) = 1560 by omega] at h
  have he := inv_play hc.toOk 1560
  refine ⟨h, ?_, ?_⟩
  · have := he.le; have := he.an; omega
  · rw [he.si.len]; omega
end Go.Proofs.Ytgpeekicpkgpmaa
