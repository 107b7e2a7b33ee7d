/- A conversation over two lossy wires, in plain words: the model, and what always holds. No program in sight. -/
import Derived.Test.YtgpeekicpkgpmaaRetM
namespace Go.Proofs.Ytgpeekicpkgpmaa

structure ItemD where
  n : Int
  data : Bytes
/-- one tick of a wire -/
def carryM (s : List (List ItemD)) (delay : Nat) (x : List ItemD) (times : Nat) : List ItemD × List (List ItemD) :=
  if (s ++ [(List.replicate times x).flatten]).length ≤ delay then ([], s ++ [(List.replicate times x).flatten])
  else ((s ++ [(List.replicate times x).flatten]).headD [], (s ++ [(List.replicate times x).flatten]).drop 1)
def timesM (l : List (BitVec 8)) (t : Nat) : Nat := match l[t]? with | none => 1 | some x => if x.toNat % 3 = 0 then 1 else if x.toNat % 3 = 1 then 0 else 2
theorem timesM_le (l : List (BitVec 8)) (t : Nat) : timesM l t ≤ 2 := by unfold timesM; split <;> (try split) <;> (try split) <;> omega
/-- the data of packet k -/
def dat (k : Nat) : Bytes := [BitVec.ofNat 8 (97 + k % 26), BitVec.ofNat 8 (48 + k / 26 % 10)]
def nakB : Bytes := [110, 97, 107]
theorem dat_nak (k : Nat) : dat k ≠ nakB := by unfold dat nakB; intro h; simp at h
structure Ps where
  s : Snd
  off : Nat
  acc : List Bytes
  n : Nat
  th : List (List ItemD)
  bk : List (List ItemD)
def offer1 (s : Snd) (off : Nat) : Snd × Nat := ((s.offer (dat off)).2, if (s.offer (dat off)).1 = 0 then off + 1 else off)
def offers : Nat → Snd → Nat → Snd × Nat
  | 0, s, off => (s, off)
  | k + 1, s, off => offers k (offer1 s off).1 (offer1 s off).2
/-- the receiver, its accepted packets, whether it has refused one -/
def recv1 (r : Nat × List Bytes × Bool) (x : ItemD) : Nat × List Bytes × Bool := if x.n = (r.1 : Int) % 256 then (r.1 + 1, r.2.1 ++ [x.data], r.2.2) else (r.1, r.2.1, true)
def back1 (s : Snd) (x : ItemD) : Snd := if x.data = nakB then (s.nak x.n).2 else (s.ack x.n).2
def outM (r : Option (Nat × Bytes)) : List ItemD := match r with | none => [] | some x => [⟨(x.1 : Int), x.2⟩]
structure Cfg where
  window : Nat
  timeout : Nat
  delay : Nat
  offers : List (BitVec 8)
  there : List (BitVec 8)
  back : List (BitVec 8)
  naks : Bool
def nOff (l : List (BitVec 8)) (t : Nat) : Nat := match l[t]? with | none => 0 | some x => x.toNat % 4
section
variable (c : Cfg)
/-- the parts of a tick -/
def tickA (t : Nat) (p : Ps) : Snd × Nat := offers (nOff c.offers t) p.s p.off
def tickB (t : Nat) (p : Ps) : List ItemD × List (List ItemD) := carryM p.th c.delay (outM (tickA c t p).1.tick.1) (timesM c.there t)
def tickC (t : Nat) (p : Ps) : Nat × List Bytes × Bool := (tickB c t p).1.foldl recv1 (p.n, p.acc, false)
def answer (t : Nat) (p : Ps) : ItemD := ⟨((tickC c t p).1 : Int) % 256, if ((tickC c t p).2.2 && c.naks) = true then nakB else []⟩
def tickD (t : Nat) (p : Ps) : List ItemD × List (List ItemD) := carryM p.bk c.delay [answer c t p] (timesM c.back t)
def tickM (t : Nat) (p : Ps) : Ps :=
  ⟨(tickD c t p).1.foldl back1 (tickA c t p).1.tick.2, (tickA c t p).2, (tickC c t p).2.1, (tickC c t p).1, (tickB c t p).2, (tickD c t p).2⟩
def start : Ps := ⟨newSnd c.window c.timeout, 0, [], 0, [], []⟩
def playM : Nat → Ps
  | 0 => start c
  | t + 1 => tickM c t (playM t)
end

/-! ### what always holds -/
def datL (n : Nat) : List Bytes := (List.range n).map dat
theorem datL_succ (n : Nat) : datL (n + 1) = datL n ++ [dat n] := by simp [datL, List.range_succ]
theorem datL_length (n : Nat) : (datL n).length = n := by simp [datL]
theorem datL_get {n i : Nat} (h : i < n) : (datL n)[i]? = some (dat i) := by simp [datL, h]
/-- the sender keeps what was offered and not acknowledged -/
structure SInv (w T : Nat) (s : Snd) (off : Nat) : Prop where
  ok : s.Ok
  win : s.window = w
  tmo : s.timeout = T
  kept : s.kept = (datL off).drop s.acked
  le : s.acked ≤ off
theorem SInv.len {w T : Nat} {s : Snd} {off : Nat} (h : SInv w T s off) : s.kept.length = off - s.acked := by rw [h.kept, List.length_drop, datL_length]
theorem SInv.start {w T : Nat} (h1 : 1 ≤ w) (h2 : w ≤ 128) (h3 : 1 ≤ T) (h4 : T ≤ 1000) : SInv w T (newSnd w T) 0 :=
  ⟨newSnd_ok h1 h2 h3 h4, rfl, rfl, by simp [newSnd, datL], Nat.le_refl _⟩
/-- the highest packet that was ever sent, plus 1 -/
def Snd.high (s : Snd) : Nat := s.acked + s.sent
theorem SInv.offer {w T : Nat} {s : Snd} {off : Nat} (h : SInv w T s off) : SInv w T (offer1 s off).1 (offer1 s off).2 ∧ (offer1 s off).1.acked = s.acked ∧ (offer1 s off).1.sent = s.sent ∧ off ≤ (offer1 s off).2 ∧ (offer1 s off).2 ≤ off + 1 := by
  have hl := h.len
  have hle := h.le
  unfold offer1 Snd.offer
  rw [if_neg (by simp [dat])]
  by_cases hf : s.window ≤ s.kept.length
  · rw [if_pos hf]; simp only [show ¬ (5 : Nat) = 0 by decide, if_false]
    refine ⟨h, ?_, ?_, ?_, ?_⟩ <;> simp
  · rw [if_neg hf]
    refine ⟨⟨?_, h.win, h.tmo, ?_, ?_⟩, rfl, rfl, by simp, by simp⟩
    · have := offer_ok h.ok (dat off)
      unfold Snd.offer at this
      rw [if_neg (by simp [dat]), if_neg hf] at this; exact this
    · show s.kept ++ [dat off] = (datL (off + 1)).drop s.acked
      rw [h.kept, datL_succ, List.drop_append_of_le_length (by rw [datL_length]; exact hle)]
    · show s.acked ≤ off + 1; omega
theorem SInv.offers {w T : Nat} : ∀ {k : Nat} {s : Snd} {off : Nat}, SInv w T s off → SInv w T (offers k s off).1 (offers k s off).2 ∧ (Go.Proofs.Ytgpeekicpkgpmaa.offers k s off).1.acked = s.acked ∧ (Go.Proofs.Ytgpeekicpkgpmaa.offers k s off).1.sent = s.sent ∧ off ≤ (Go.Proofs.Ytgpeekicpkgpmaa.offers k s off).2 ∧ (Go.Proofs.Ytgpeekicpkgpmaa.offers k s off).2 ≤ off + k
  | 0, s, off, h => ⟨h, rfl, rfl, Nat.le_refl _, Nat.le_refl _⟩
  | k + 1, s, off, h => by
    obtain ⟨h1, h2, h3, h4, h5⟩ := h.offer
    obtain ⟨k1, k2, k3, k4, k5⟩ := SInv.offers (k := k) h1
    exact ⟨k1, k2.trans h2, k3.trans h3, by show off ≤ (Go.Proofs.Ytgpeekicpkgpmaa.offers k _ _).2; omega, by show (Go.Proofs.Ytgpeekicpkgpmaa.offers k _ _).2 ≤ _; omega⟩
theorem SInv.send {w T : Nat} {s : Snd} {off : Nat} (h : SInv w T s off) (hp : s.pos < s.kept.length) : SInv w T s.send.2 off ∧ s.send.1 = ((s.acked + s.pos) % 256, dat (s.acked + s.pos)) ∧ s.send.2.high = max s.high (s.acked + s.pos + 1) := by
  have hl := h.len
  refine ⟨⟨send_ok h.ok hp, h.win, h.tmo, h.kept, h.le⟩, ?_, ?_⟩
  · unfold Snd.send
    have : s.kept.getD s.pos [] = dat (s.acked + s.pos) := by
      rw [h.kept, List.getD_eq_getElem?_getD, List.getElem?_drop, datL_get (by omega)]; rfl
    rw [this]
  · unfold Snd.send Snd.high; dsimp only; omega
theorem SInv.tick {w T : Nat} {s : Snd} {off : Nat} (h : SInv w T s off) : SInv w T s.tick.2 off ∧ s.tick.2.acked = s.acked ∧ s.high ≤ s.tick.2.high ∧ ∀ x ∈ outM s.tick.1, ∃ k, x.n = ((k % 256 : Nat) : Int) ∧ x.data = dat k ∧ s.acked ≤ k ∧ k < s.tick.2.high := by
  have hl := h.len
  unfold Snd.tick
  by_cases h0 : s.kept.length = 0
  · rw [if_pos h0]; exact ⟨h, rfl, Nat.le_refl _, fun x hx => by cases hx⟩
  · rw [if_neg h0]
    by_cases h1 : s.kept.length ≤ s.pos
    · rw [if_pos h1]
      by_cases h2 : s.timer + 1 < s.timeout
      · rw [if_pos h2]
        have := tick_ok h.ok
        unfold Snd.tick at this
        rw [if_neg h0, if_pos h1, if_pos h2] at this
        exact ⟨⟨this, h.win, h.tmo, h.kept, h.le⟩, rfl, Nat.le_refl _, fun x hx => by cases hx⟩
      · rw [if_neg h2]
        have hs : SInv w T { s with pos := 0 } off := ⟨⟨h.ok.w1, h.ok.w2, h.ok.t1, h.ok.t2, h.ok.kept, Nat.zero_le _, h.ok.sent, h.ok.timer, h.ok.small⟩, h.win, h.tmo, h.kept, h.le⟩
        obtain ⟨k1, k2, k3⟩ := hs.send (by show 0 < s.kept.length; omega)
        refine ⟨k1, rfl, by rw [k3]; exact Nat.le_max_left _ _, fun x hx => ?_⟩
        rw [k2] at hx
        obtain rfl := List.mem_singleton.1 hx
        exact ⟨s.acked + 0, rfl, rfl, by omega, by rw [k3]; show s.acked + 0 < max _ (s.acked + 0 + 1); omega⟩
    · rw [if_neg h1]
      obtain ⟨k1, k2, k3⟩ := h.send (by omega)
      refine ⟨k1, rfl, by rw [k3]; exact Nat.le_max_left _ _, fun x hx => ?_⟩
      rw [k2] at hx
      obtain rfl := List.mem_singleton.1 hx
      exact ⟨s.acked + s.pos, rfl, rfl, by omega, by rw [k3]; omega⟩
theorem SInv.sent {w T : Nat} {s : Snd} {off : Nat} (h : SInv w T s off) : s.sent ≤ w := by have := h.ok.sent; have := h.ok.kept; have := h.win; omega
theorem SInv.accept {w T : Nat} {s : Snd} {off a : Nat} (h : SInv w T s off) (h1 : s.acked ≤ a + 100) (h2 : a ≤ s.high) :
    SInv w T (s.accept ((a % 256 : Nat) : Int)).2 off ∧ (s.accept ((a % 256 : Nat) : Int)).2.acked = max s.acked a ∧ (s.accept ((a % 256 : Nat) : Int)).2.high = s.high ∧ ((s.accept ((a % 256 : Nat) : Int)).1.2 = true ↔ s.acked ≤ a) ∧ (a ≤ s.acked → (s.accept ((a % 256 : Nat) : Int)).2 = s) := by
  have hsent := h.ok.sent
  have hk := h.ok.kept
  have hw := h.ok.w2
  have hl := h.len
  have hle := h.le
  unfold Snd.high at h2
  have hc : s.count ((a % 256 : Nat) : Int) = if s.acked ≤ a then some (a - s.acked) else none := by
    unfold Snd.count
    rw [if_neg (by omega)]
    by_cases hle : s.acked ≤ a
    · have e : (((a % 256 : Nat) : Int).toNat + 256 - s.acked % 256) % 256 = a - s.acked := by omega
      rw [e, if_neg (by omega), if_pos hle]
    · rw [if_neg hle, if_pos (by omega)]
  have hok := accept_ok h.ok ((a % 256 : Nat) : Int)
  unfold Snd.accept at hok ⊢
  rw [hc] at hok ⊢
  by_cases hle2 : s.acked ≤ a
  · rw [if_pos hle2] at hok ⊢
    dsimp only at hok ⊢
    by_cases hz : a - s.acked = 0
    · have e : s.drop (a - s.acked) = s := by unfold Snd.drop; rw [if_pos hz]
      rw [e]
      exact ⟨h, by omega, rfl, by simp [hle2], fun _ => rfl⟩
    · have e : s.drop (a - s.acked) = { s with kept := s.kept.drop (a - s.acked), acked := s.acked + (a - s.acked), sent := s.sent - (a - s.acked), pos := s.pos - (a - s.acked), timer := 0 } := by unfold Snd.drop; rw [if_neg hz]
      rw [e] at hok ⊢
      refine ⟨⟨hok, h.win, h.tmo, ?_, ?_⟩, ?_, ?_, by simp [hle2], fun he => by omega⟩
      · show s.kept.drop (a - s.acked) = (datL off).drop (s.acked + (a - s.acked))
        rw [h.kept, List.drop_drop]
      · show s.acked + (a - s.acked) ≤ off; omega
      · show s.acked + (a - s.acked) = max s.acked a; omega
      · show s.acked + (a - s.acked) + (s.sent - (a - s.acked)) = s.acked + s.sent; omega
  · rw [if_neg hle2] at hok ⊢
    exact ⟨h, by show s.acked = _; omega, rfl, by simp [hle2], fun _ => rfl⟩
theorem SInv.zero {w T : Nat} {s : Snd} {off : Nat} (h : SInv w T s off) : SInv w T { s with pos := 0, timer := 0 } off :=
  ⟨⟨h.ok.w1, h.ok.w2, h.ok.t1, h.ok.t2, h.ok.kept, Nat.zero_le _, h.ok.sent, Nat.zero_le _, h.ok.small⟩, h.win, h.tmo, h.kept, h.le⟩
/-- an answer takes effect -/
theorem SInv.back {w T : Nat} {s : Snd} {off a : Nat} {x : ItemD} (h : SInv w T s off) (hx : x.n = ((a % 256 : Nat) : Int)) (h1 : s.acked ≤ a + 100) (h2 : a ≤ s.high) :
    SInv w T (back1 s x) off ∧ (back1 s x).acked = max s.acked a ∧ (back1 s x).high = s.high ∧ (a ≤ s.acked → back1 s x = s ∨ ((back1 s x).pos = 0 ∧ (back1 s x).kept = s.kept)) := by
  obtain ⟨k1, k2, k3, k4, k5⟩ := h.accept h1 h2
  unfold back1
  rw [hx]
  by_cases hn : x.data = nakB
  · rw [if_pos hn]
    unfold Snd.nak
    dsimp only
    by_cases hv : (s.accept ((a % 256 : Nat) : Int)).1.2 = true
    · rw [if_pos hv]
      exact ⟨k1.zero, k2, k3, fun he => .inr ⟨rfl, by rw [k5 he]⟩⟩
    · rw [if_neg hv]
      exact ⟨k1, k2, k3, fun he => .inl (k5 he)⟩
  · rw [if_neg hn]
    exact ⟨k1, k2, k3, fun he => .inl (k5 he)⟩
/-- several answers -/
def AOk (n lo : Nat) (x : ItemD) : Prop := ∃ a, x.n = ((a % 256 : Nat) : Int) ∧ a ≤ n ∧ n ≤ a + lo
theorem SInv.backs {w T n : Nat} : ∀ {l : List ItemD} {s : Snd} {off : Nat}, SInv w T s off → s.acked ≤ n → n ≤ s.high → (∀ x ∈ l, AOk n 100 x) →
    SInv w T (l.foldl back1 s) off ∧ (l.foldl back1 s).high = s.high ∧ s.acked ≤ (l.foldl back1 s).acked ∧ (l.foldl back1 s).acked ≤ n ∧ (∀ x ∈ l, ∀ a, x.n = ((a % 256 : Nat) : Int) → a ≤ n → n ≤ a + 100 → a ≤ (l.foldl back1 s).acked) ∧
      ((l.foldl back1 s).acked = s.acked → (l.foldl back1 s) = s ∨ ((l.foldl back1 s).pos = 0 ∧ (l.foldl back1 s).kept = s.kept))
  | [], s, off, h, h1, h2, _ => ⟨h, rfl, Nat.le_refl _, h1, (fun x hx => by cases hx), fun _ => .inl rfl⟩
  | x :: l, s, off, h, h1, h2, hx => by
    obtain ⟨a, ha, ha1, ha2⟩ := hx x List.mem_cons_self
    obtain ⟨k1, k2, k3, k4⟩ := h.back (a := a) ha (by omega) (by omega)
    obtain ⟨j1, j2, j3, j4, j5, j6⟩ := SInv.backs (n := n) (l := l) k1 (by rw [k2]; omega) (by rw [k3]; exact h2) fun y hy => hx y (List.mem_cons_of_mem _ hy)
    rw [List.foldl_cons]
    refine ⟨j1, j2.trans k3, by omega, j4, fun y hy b hb hb1 hb2 => ?_, fun he => ?_⟩
    · rcases List.mem_cons.1 hy with rfl | hy
      · have e : a % 256 = b % 256 := by rw [ha] at hb; omega
        omega
      · exact j5 y hy b hb hb1 hb2
    · by_cases h' : a ≤ s.acked
      · rcases k4 h' with e | ⟨e1, e2⟩
        · rw [e] at j6 he ⊢; exact j6 he
        · rcases j6 (by omega) with e | ⟨e3, e4⟩
          · rw [e]; exact .inr ⟨e1, e2⟩
          · exact .inr ⟨e3, e4.trans e2⟩
      · omega
end Go.Proofs.Ytgpeekicpkgpmaa
