/- Lines of bytes and their ledger, plain: one step of the law. No program. -/
import Derived.Test.YtbibippdafnenaaWaP
import Derived.Test.YtbibippdafnenaaWaL
namespace Go.Proofs.Ytbibippdafnenaa

/-- a line: a writer, a store, what was read, what was sent, what was confirmed -/
structure Ln where
  w : Wr
  r : St
  rd : List Byte
  segs : List Seg
  acks : List (Nat × Nat)
  dones : List Bool
/-- what always holds of a line -/
structure Ln.Ok (x : Ln) : Prop where
  w : x.w.Ok
  r : x.r.Ok x.w
  rd : x.rd = x.w.all.take x.r.off
  segs : ∀ s ∈ x.segs, x.w.Of s
  acks : ∀ (i at' room : Nat) (dn : Bool), x.acks[i]? = some (at', room) → x.dones[i]? = some dn → at' ≤ x.r.next ∧ room ≤ 16 ∧ (dn = true → x.w.closed = true ∧ x.w.marked = true ∧ at' = x.w.all.length)
  len : x.acks.length = x.dones.length
  base : x.w.base ≤ x.r.next
def Ln.new (a b : Nat) : Ln := ⟨Wr.new a, St.new b, [], [], [], []⟩
theorem Ln.new_ok {a b : Nat} (ha : 1 ≤ a ∧ a ≤ 16) (hb : 1 ≤ b ∧ b ≤ 16) : (Ln.new a b).Ok where
  w := ⟨ha.2, by simp [Ln.new, Wr.new], by simp [Ln.new, Wr.new], by simp [Ln.new, Wr.new], by simp [Ln.new, Wr.new], by simpa [Ln.new, Wr.new] using ha.2, by simp [Ln.new, Wr.new], by simp [Ln.new, Wr.new]⟩
  r := ⟨hb, Nat.le_refl _, Nat.le_refl _, Nat.zero_le _, fun j b h => (by cases (show (none : Option Byte) = some b from h)), fun j h1 h2 => absurd (show j < 0 from h2) (Nat.not_lt_zero _), fun h => by cases (show false = true from h)⟩
  rd := rfl
  segs s hs := by cases hs
  acks i a b d h := by simp [Ln.new] at h
  len := rfl
  base := Nat.le_refl _
def Ln.write (x : Ln) (d : List Byte) : Ln := { x with w := x.w.write d }
def Ln.close (x : Ln) : Ln := { x with w := x.w.close }
def Ln.tick (x : Ln) (most : Nat) : Ln := { x with w := (x.w.tick most).1, segs := match (x.w.tick most).2 with | some s => x.segs ++ [s] | none => x.segs }
def Ln.recv (x : Ln) (s : Seg) (n : Nat) : Ln := { x with r := x.r.put s n }
def Ln.reads (x : Ln) (n : Nat) : Ln := { x with r := x.r.read n, rd := x.rd ++ (x.w.all.drop x.r.off).take n }
/-- whether the store knows that it is complete -/
def St.whole (S : St) : Bool := S.known && decide (S.fin = S.next)
def Ln.conf (x : Ln) : Ln := { x with acks := x.acks ++ [(x.r.next, x.r.off + x.r.win - x.r.next)], dones := x.dones ++ [x.r.whole] }
def Ln.ack (x : Ln) (o r : Nat) (dn : Bool) : Ln := { x with w := x.w.ack o r dn }
theorem Wr.takes_le (x : Wr) (n : Nat) : x.takes n ≤ n ∧ (x.closed = false → x.takes n ≤ x.win - (x.all.length - x.base)) ∧ (x.closed = true → x.takes n = 0) := by
  unfold Wr.takes
  cases x.closed <;> simp <;> omega
section
variable {x y : Ln} (h : x.Ok)
include h
/-- a line whose writer has gone on -/
theorem Ln.Ok.more {w : Wr} (hw : w.Ok) (hb : w.base = x.w.base) (ht : x.w.top ≤ w.top) (ha : ∃ d, w.all = x.w.all ++ d) (hf : x.w.closed = true → w.all = x.w.all ∧ w.closed = true) (hm : x.w.marked = true → w.marked = true) : ({ x with w := w } : Ln).Ok where
  w := hw
  r := h.r.more ht (fun j b hj => by
    obtain ⟨d, e⟩ := ha
    have hl : j < x.w.all.length := by
      rcases Nat.lt_or_ge j x.w.all.length with h | h
      · exact h
      · rw [List.getElem?_eq_none h] at hj; cases hj
    rw [e, List.getElem?_append_left hl]; exact hj) hf hm
  rd := by
    obtain ⟨d, e⟩ := ha
    have := h.r.le; have := h.r.top; have := h.w.tt
    show x.rd = w.all.take x.r.off
    rw [e, List.take_append_of_le_length (by omega)]; exact h.rd
  segs s hs := (h.segs s hs).more h.w ht ha hf hm
  acks i a b d h1 h2 := by
    obtain ⟨k1, k2, k3⟩ := h.acks i a b d h1 h2
    refine ⟨k1, k2, fun hd => ?_⟩
    obtain ⟨q1, q2, q3⟩ := k3 hd
    obtain ⟨e1, e2⟩ := hf q1
    exact ⟨e2, hm q2, by show a = w.all.length; rw [e1]; exact q3⟩
  len := h.len
  base := by show w.base ≤ _; rw [hb]; exact h.base
theorem Ln.Ok.write (d : List Byte) (hd : x.w.all.length + d.length ≤ 1000) : (x.write d).Ok := by
  obtain ⟨t1, t2, t3⟩ := x.w.takes_le d.length
  have hl : (d.take (x.w.takes d.length)).length = x.w.takes d.length := by rw [List.length_take]; omega
  refine h.more (w := x.w.write d) ?_ rfl (Nat.le_refl _) ⟨_, rfl⟩ (fun hc => ⟨?_, hc⟩) id
  · have := h.w
    refine ⟨this.win, ?_, this.bn, this.nt, ?_, this.room, this.idle, ?_⟩
    · show (x.w.all ++ d.take (x.w.takes d.length)).length ≤ x.w.base + x.w.win
      rw [List.length_append, hl]
      have h1 := this.len; have h2 := this.bn; have h3 := this.nt; have h4 := this.tt
      cases hc : x.w.closed
      · have := t2 hc; omega
      · have := t3 hc; omega
    · show _ ≤ (x.w.all ++ _).length
      rw [List.length_append]; have := this.tt; exact Nat.le_trans this (Nat.le_add_right _ _)
    · show (x.w.all ++ d.take (x.w.takes d.length)).length ≤ 1000
      rw [List.length_append, hl]; omega
  · show x.w.all ++ d.take (x.w.takes d.length) = x.w.all
    rw [t3 hc]; simp
theorem Ln.Ok.close : x.close.Ok := h.more (w := x.w.close) ⟨h.w.win, h.w.len, h.w.bn, h.w.nt, h.w.tt, h.w.room, h.w.idle, h.w.big⟩ rfl (Nat.le_refl _) ⟨[], (List.append_nil _).symm⟩ (fun _ => ⟨rfl, rfl⟩) id
theorem Ln.Ok.sent {n : Nat} {last : Bool} (hn : x.w.next + n ≤ x.w.all.length) (hl : last = true → x.w.closed = true ∧ x.w.next + n = x.w.all.length) : ({ x with w := x.w.sent n last, segs := x.segs ++ [x.w.seg n last] } : Ln).Ok := by
  have hw := h.w
  have hok : (x.w.sent n last).Ok := ⟨hw.win, hw.len, Nat.le_trans hw.bn (Nat.le_add_right _ _), Nat.le_max_right _ _, Nat.max_le.2 ⟨hw.tt, hn⟩, hw.room, Nat.zero_le _, hw.big⟩
  have h1 := h.more hok rfl (Nat.le_max_left _ _) ⟨[], (List.append_nil _).symm⟩ (fun hc => ⟨rfl, hc⟩) (fun hm => by show (x.w.marked || last) = true; rw [hm]; rfl)
  refine ⟨h1.w, h1.r, h1.rd, fun s hs => ?_, h1.acks, h1.len, h1.base⟩
  rcases List.mem_append.1 hs with hs | hs
  · exact h1.segs s hs
  · obtain rfl := List.mem_singleton.1 hs
    have hlen : ((x.w.all.drop x.w.next).take n).length = n := by rw [List.length_take, List.length_drop]; omega
    refine ⟨?_, ?_, fun hl' => ?_⟩
    · show x.w.next + ((x.w.all.drop x.w.next).take n).length ≤ max _ _
      rw [hlen]; exact Nat.le_max_right _ _
    · show (x.w.all.drop x.w.next).take n = (x.w.all.drop x.w.next).take ((x.w.all.drop x.w.next).take n).length
      rw [hlen]
    · obtain ⟨k1, k2⟩ := hl hl'
      have hl2 : last = true := hl'
      refine ⟨k1, by show (x.w.marked || last) = true; rw [hl2]; simp, ?_⟩
      show x.w.next + ((x.w.all.drop x.w.next).take n).length = x.w.all.length
      rw [hlen]; exact k2
theorem Ln.Ok.tick {most : Nat} (_ : 1 ≤ most) : (x.tick most).Ok := by
  have hw := h.w
  have hsame : ∀ (a b : Nat) (c d : Bool), a ≤ 1 → x.w.base ≤ b → b ≤ x.w.top → ({ x with w := { x.w with idle := a, next := b, ended := c, done := d } } : Ln).Ok := fun a b c d ha hb1 hb2 =>
    h.more ⟨hw.win, hw.len, hb1, hb2, hw.tt, hw.room, ha, hw.big⟩ rfl (Nat.le_refl _) ⟨[], (List.append_nil _).symm⟩ (fun hc => ⟨rfl, hc⟩) id
  unfold Ln.tick Wr.tick
  by_cases c1 : x.w.next < x.w.all.length ∧ x.w.next < x.w.base + x.w.room
  · rw [if_pos c1]
    have : x.w.next + x.w.some' most ≤ x.w.all.length := by unfold Wr.some'; omega
    exact h.sent this fun hl => by simpa using hl
  rw [if_neg c1]
  by_cases c2 : x.w.closed = true ∧ x.w.next = x.w.all.length ∧ x.w.ended = false ∧ x.w.done = false
  · rw [if_pos c2]
    exact h.sent (by omega) fun _ => ⟨c2.1, by omega⟩
  rw [if_neg c2]
  by_cases c3 : x.w.base = x.w.next ∧ x.w.next = x.w.all.length ∧ (x.w.ended = false ∨ x.w.done = true)
  · rw [if_pos c3]; exact h
  rw [if_neg c3]
  by_cases c4 : x.w.idle + 1 < 2
  · rw [if_pos c4]; exact hsame _ _ _ _ (by omega) hw.bn hw.nt
  rw [if_neg c4]
  by_cases c5 : x.w.base < x.w.next ∨ x.w.ended = true
  · rw [if_pos c5]; exact hsame _ _ _ _ (by omega) (Nat.le_refl _) (Nat.le_trans hw.bn hw.nt)
  rw [if_neg c5]
  have h1 := hsame 0 x.w.next x.w.ended x.w.done (by omega) hw.bn hw.nt
  refine ⟨h1.w, h1.r, h1.rd, fun s hs => ?_, h1.acks, h1.len, h1.base⟩
  rcases List.mem_append.1 hs with hs | hs
  · exact h1.segs s hs
  · obtain rfl := List.mem_singleton.1 hs
    exact ⟨Nat.le_trans hw.bn hw.nt, rfl, fun hl => by cases hl⟩
theorem Ln.Ok.recv {s : Seg} (hs : s ∈ x.segs) {n : Nat} (hn : x.r.Upto (x.r.map s) n) : (x.recv s n).Ok := by
  refine ⟨h.w, h.r.put (h.segs s hs) hn, h.rd, h.segs, fun i a b d h1 h2 => ?_, h.len, Nat.le_trans h.base hn.1⟩
  obtain ⟨k1, k2⟩ := h.acks i a b d h1 h2
  exact ⟨Nat.le_trans k1 hn.1, k2⟩
theorem Ln.Ok.reads {n : Nat} (hn : x.r.off + n ≤ x.r.next) : (x.reads n).Ok := by
  refine ⟨h.w, h.r.read hn, ?_, h.segs, h.acks, h.len, h.base⟩
  show x.rd ++ (x.w.all.drop x.r.off).take n = x.w.all.take (x.r.off + n)
  rw [h.rd, List.take_add]
theorem Ln.Ok.conf : x.conf.Ok := by
  refine ⟨h.w, h.r, h.rd, h.segs, fun i a b d h1 h2 => ?_, ?_, h.base⟩
  · have h1' : (x.acks ++ [(x.r.next, x.r.off + x.r.win - x.r.next)])[i]? = some (a, b) := h1
    have h2' : (x.dones ++ [x.r.whole])[i]? = some d := h2
    have hl := h.len
    by_cases hi : i < x.acks.length
    · rw [List.getElem?_append_left hi] at h1'
      rw [List.getElem?_append_left (by omega)] at h2'
      exact h.acks i a b d h1' h2'
    · rw [List.getElem?_append_right (by omega)] at h1' h2'
      have h0 : i - x.acks.length = 0 := by
        rcases Nat.eq_zero_or_pos (i - x.acks.length) with h | h
        · exact h
        · rw [List.getElem?_eq_none (by rw [List.length_singleton]; omega)] at h1'; cases h1'
      rw [h0] at h1'
      rw [show i - x.dones.length = 0 by omega] at h2'
      obtain ⟨rfl, rfl⟩ : x.r.next = a ∧ x.r.off + x.r.win - x.r.next = b := by simpa using h1'
      obtain rfl : x.r.whole = d := by simpa using h2'
      refine ⟨Nat.le_refl _, ?_, fun hd => ?_⟩
      · have := h.r.win; have := h.r.le; omega
      · unfold St.whole at hd
        simp only [Bool.and_eq_true, decide_eq_true_eq] at hd
        obtain ⟨k1, k2, k3⟩ := h.r.fin hd.1
        exact ⟨k2, k3, by have hq := hd.2; have hk := k1; show x.r.next = x.w.all.length; omega⟩
  · show (x.acks ++ [_]).length = (x.dones ++ [_]).length
    rw [List.length_append, List.length_append, h.len]; rfl
theorem Ln.Ok.ack {i at' room : Nat} {dn : Bool} (h1 : x.acks[i]? = some (at', room)) (h2 : x.dones[i]? = some dn) : (x.ack at' room dn).Ok := by
  obtain ⟨k1, k2, k3⟩ := h.acks i at' room dn h1 h2
  have hw := h.w
  have ht := h.r.top
  unfold Ln.ack Wr.ack
  by_cases c1 : at' < x.w.base
  · rw [if_pos c1]; exact h
  rw [if_neg c1]
  have key : ∀ (b r n i : Nat) (d : Bool), x.w.base ≤ b → b ≤ x.r.next → b ≤ n → n ≤ x.w.top → r ≤ 16 → i ≤ 1 → ({ x with w := { x.w with base := b, room := r, next := n, idle := i, done := d } } : Ln).Ok := fun b r n i d g1 g2 g3 g4 g5 g6 =>
    ⟨⟨hw.win, by show x.w.all.length ≤ b + x.w.win; have := hw.len; omega, g3, g4, hw.tt, g5, g6, hw.big⟩, ⟨h.r.win, h.r.le, h.r.top, h.r.room, h.r.key, h.r.full, h.r.fin⟩, h.rd, h.segs, h.acks, h.len, g2⟩
  have hbn := hw.bn; have hnt := hw.nt; have hrm := hw.room
  by_cases c2 : at' = x.w.base
  · rw [if_pos c2]
    exact key x.w.base (max x.w.room room) x.w.next x.w.idle (x.w.done || dn) (Nat.le_refl _) h.base hw.bn hw.nt (by omega) hw.idle
  · rw [if_neg c2]
    exact key at' room (max x.w.next at') 0 (x.w.done || dn) (by omega) k1 (by omega) (by omega) k2 (by omega)
end
end Go.Proofs.Ytbibippdafnenaa
