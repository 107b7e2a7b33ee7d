/- Bytes of streams, plain: a writer, a store, a ledger, and what holds between them. No program. -/
import Derived.Test.YtbibippdafnenaaByt
namespace Go.Proofs.Ytbibippdafnenaa

/-- a segment -/
structure Seg where
  off : Nat
  data : List Byte
  last : Bool
/-- a writer: all bytes that it took, what is confirmed, what is sent -/
structure Wr where
  win : Nat
  all : List Byte
  base : Nat
  next : Nat
  top : Nat
  room : Nat
  idle : Nat
  closed : Bool
  ended : Bool
  marked : Bool
  done : Bool
namespace Wr
def new (win : Nat) : Wr := ⟨win, [], 0, 0, 0, win, 0, false, false, false, false⟩
/-- how many of n bytes are taken -/
def takes (x : Wr) (n : Nat) : Nat := if x.closed then 0 else min n (min (x.win - (x.all.length - x.base)) (1048576 - x.all.length))
def write (x : Wr) (d : List Byte) : Wr := { x with all := x.all ++ d.take (x.takes d.length) }
def close (x : Wr) : Wr := { x with closed := true }
def sent (x : Wr) (n : Nat) (last : Bool) : Wr := { x with next := x.next + n, top := max x.top (x.next + n), idle := 0, ended := x.ended || last, marked := x.marked || last }
def seg (x : Wr) (n : Nat) (last : Bool) : Seg := ⟨x.next, (x.all.drop x.next).take n, last⟩
/-- how many bytes a tick sends -/
def some' (x : Wr) (most : Nat) : Nat := min most (min (x.all.length - x.next) (x.base + x.room - x.next))
def tick (x : Wr) (most : Nat) : Wr × Option Seg :=
  if x.next < x.all.length ∧ x.next < x.base + x.room then (x.sent (x.some' most) (x.closed && decide (x.next + x.some' most = x.all.length)), Option.some (x.seg (x.some' most) (x.closed && decide (x.next + x.some' most = x.all.length))))
  else if x.closed = true ∧ x.next = x.all.length ∧ x.ended = false ∧ x.done = false then (x.sent 0 true, Option.some (x.seg 0 true))
  else if x.base = x.next ∧ x.next = x.all.length ∧ (x.ended = false ∨ x.done = true) then (x, none)
  else if x.idle + 1 < 2 then ({ x with idle := x.idle + 1 }, none)
  else if x.base < x.next ∨ x.ended = true then ({ x with idle := 0, next := x.base, ended := false }, none)
  else ({ x with idle := 0 }, Option.some ⟨x.base, [], false⟩)
def ack (x : Wr) (o r : Nat) (dn : Bool) : Wr :=
  if o < x.base then x
  else if o = x.base then { x with room := max x.room r, done := x.done || dn }
  else { x with base := o, room := r, next := max x.next o, idle := 0, done := x.done || dn }
/-- what always holds -/
structure Ok (x : Wr) : Prop where
  win : x.win ≤ 16
  len : x.all.length ≤ x.base + x.win
  bn : x.base ≤ x.next
  nt : x.next ≤ x.top
  tt : x.top ≤ x.all.length
  room : x.room ≤ 16
  idle : x.idle ≤ 1
  big : x.all.length ≤ 1000
end Wr
/-- a segment of a writer's bytes -/
def Wr.Of (x : Wr) (s : Seg) : Prop := s.off + s.data.length ≤ x.top ∧ s.data = (x.all.drop s.off).take s.data.length ∧ (s.last = true → x.closed = true ∧ x.marked = true ∧ s.off + s.data.length = x.all.length)
/-- a store: bytes by their numbers -/
structure St where
  win : Nat
  off : Nat
  next : Nat
  m : Int → Option Byte
  fin : Nat
  known : Bool
  /-- no more entries than these -/
  n : Nat
namespace St
def new (win : Nat) : St := ⟨win, 0, 0, fun _ => none, 0, false, 0⟩
def lo (S : St) (s : Seg) : Nat := max s.off S.off
def hi (S : St) (s : Seg) : Nat := min (s.off + s.data.length) (S.off + S.win)
/-- the bytes behind a segment -/
def map (S : St) (s : Seg) (j : Int) : Option Byte := if (S.lo s : Int) ≤ j ∧ j < (S.hi s : Int) then s.data[(j - s.off).toNat]? else S.m j
def put (S : St) (s : Seg) (next : Nat) : St := { S with m := S.map s, next := next, fin := if s.last then s.off + s.data.length else S.fin, known := S.known || s.last, n := S.n + (S.hi s - S.lo s) }
/-- the segment belongs to the stream -/
structure Fits (S : St) (s : Seg) : Prop where
  know : S.known = true → s.off + s.data.length ≤ S.fin ∧ (s.last = true → s.off + s.data.length = S.fin)
  last : S.known = false → s.last = true → (∀ j b, S.m j = some b → j < ((s.off + s.data.length : Nat) : Int)) ∧ S.off ≤ s.off + s.data.length
  same : ∀ j b, S.m j = some b → (s.off : Int) ≤ j → j < ((s.off + s.data.length : Nat) : Int) → s.data[(j - s.off).toNat]? = some b
/-- where the contiguous bytes end -/
def Upto (S : St) (m : Int → Option Byte) (n : Nat) : Prop := S.next ≤ n ∧ (∀ j : Nat, S.next ≤ j → j < n → (m j).isSome = true) ∧ m n = none
def read (S : St) (n : Nat) : St := { S with off := S.off + n, m := fun j => if (S.off : Int) ≤ j ∧ j < ((S.off + n : Nat) : Int) then none else S.m j }
/-- what a store of a writer's bytes says -/
structure Ok (S : St) (x : Wr) : Prop where
  win : 1 ≤ S.win ∧ S.win ≤ 16
  le : S.off ≤ S.next
  top : S.next ≤ x.top
  room : S.next ≤ S.off + S.win
  key : ∀ j b, S.m j = some b → (S.off : Int) ≤ j ∧ j < (x.top : Int) ∧ j < ((S.off + S.win : Nat) : Int) ∧ x.all[j.toNat]? = some b
  full : ∀ j : Nat, S.off ≤ j → j < S.next → (S.m j).isSome = true
  fin : S.known = true → S.fin = x.all.length ∧ x.closed = true ∧ x.marked = true
end St
theorem Wr.Of.get {x : Wr} {s : Seg} (h : x.Of s) {j : Nat} (hj : s.off ≤ j) (hl : j < s.off + s.data.length) : s.data[j - s.off]? = x.all[j]? := by
  rw [h.2.1, List.getElem?_take, if_pos (by omega), List.getElem?_drop]
  congr 1; omega
theorem St.Ok.fits {S : St} {x : Wr} (h : S.Ok x) (hx : x.Ok) {s : Seg} (hs : x.Of s) : S.Fits s := by
  refine ⟨fun hk => ?_, fun hk hl => ⟨fun j b hj => ?_, ?_⟩, fun j b hj h1 h2 => ?_⟩
  · have h1 := h.fin hk; have h2 := hs.1; have h3 := hx.tt
    exact ⟨by omega, fun hl => by have := (hs.2.2 hl).2.2; omega⟩
  · have h1 := h.key j b hj; have h2 := (hs.2.2 hl).2.2; have h3 := hx.tt
    omega
  · have h1 := h.le; have h2 := h.top; have h3 := (hs.2.2 hl).2.2; have h4 := hx.tt
    omega
  · obtain ⟨k1, k2, k3, k4⟩ := h.key j b hj
    have : j.toNat - s.off = (j - s.off).toNat := by omega
    rw [← this, hs.get (j := j.toNat) (by omega) (by omega)]; exact k4
theorem St.Ok.put {S : St} {x : Wr} (h : S.Ok x) {s : Seg} (hs : x.Of s) {n : Nat} (hn : S.Upto (S.map s) n) : (S.put s n).Ok x := by
  obtain ⟨h1, h2, h3⟩ := hn
  have hk : ∀ j b, S.map s j = some b → (S.off : Int) ≤ j ∧ j < (x.top : Int) ∧ j < ((S.off + S.win : Nat) : Int) ∧ x.all[j.toNat]? = some b := fun j b hj => by
    unfold St.map at hj
    by_cases hc : (S.lo s : Int) ≤ j ∧ j < (S.hi s : Int)
    · rw [if_pos hc] at hj
      unfold St.lo St.hi at hc
      have := hs.1
      refine ⟨by omega, by omega, by omega, ?_⟩
      have e : j.toNat - s.off = (j - s.off).toNat := by omega
      rw [← e, hs.get (j := j.toNat) (by omega) (by omega)] at hj
      exact hj
    · rw [if_neg hc] at hj; exact h.key j b hj
  have hlast : S.next < n → (S.map s ((n - 1 : Nat) : Int)).isSome = true := fun hl => h2 (n - 1) (by omega) (by omega)
  have hb : S.next < n → n ≤ x.top ∧ n ≤ S.off + S.win := fun hl => by
    obtain ⟨b, hb⟩ := Option.isSome_iff_exists.1 (hlast hl)
    have := hk _ b hb
    omega
  have g1 := h.le; have g2 := h.top; have g3 := h.room
  refine ⟨h.win, by show S.off ≤ n; omega, ?_, ?_, hk, fun j hj hl => ?_, fun hkn => ?_⟩
  · show n ≤ x.top
    by_cases hl : S.next < n
    · exact (hb hl).1
    · omega
  · show n ≤ S.off + S.win
    by_cases hl : S.next < n
    · exact (hb hl).2
    · omega
  · by_cases hl' : j < S.next
    · show (S.map s j).isSome = true
      have hold := h.full j hj hl'
      unfold St.map
      by_cases hc : (S.lo s : Int) ≤ (j : Int) ∧ (j : Int) < (S.hi s : Int)
      · rw [if_pos hc]
        unfold St.lo St.hi at hc
        rw [show ((j : Int) - s.off).toNat = j - s.off by omega, List.getElem?_eq_getElem (by omega)]; rfl
      · rw [if_neg hc]; exact hold
    · exact h2 j (by omega) hl
  · show (if s.last then s.off + s.data.length else S.fin) = _ ∧ _
    by_cases hl : s.last = true
    · rw [if_pos hl]
      have := hs.2.2 hl
      exact ⟨this.2.2, this.1, this.2.1⟩
    · rw [if_neg hl]
      have : S.known = true := by
        have e : (S.known || s.last) = true := hkn
        simpa [hl] using e
      exact h.fin this
theorem St.Ok.got {S : St} {x : Wr} (h : S.Ok x) {i : Nat} (hi : S.off + i < S.next) : ∃ b, S.m ((S.off + i : Nat) : Int) = some b ∧ x.all[S.off + i]? = some b := by
  obtain ⟨b, hb⟩ := Option.isSome_iff_exists.1 (h.full (S.off + i) (by omega) hi)
  have := (h.key _ b hb).2.2.2
  rw [Int.toNat_natCast] at this
  exact ⟨b, hb, this⟩
theorem St.Ok.read {S : St} {x : Wr} (h : S.Ok x) {n : Nat} (hn : S.off + n ≤ S.next) : (S.read n).Ok x := by
  have g1 := h.room
  refine ⟨h.win, hn, h.top, by show S.next ≤ S.off + n + S.win; omega, fun j b hj => ?_, fun j hj hl => ?_, h.fin⟩
  · have hj' : (if (S.off : Int) ≤ j ∧ j < ((S.off + n : Nat) : Int) then none else S.m j) = some b := hj
    by_cases hc : (S.off : Int) ≤ j ∧ j < ((S.off + n : Nat) : Int)
    · rw [if_pos hc] at hj'; cases hj'
    · rw [if_neg hc] at hj'
      have := h.key j b hj'
      refine ⟨?_, this.2.1, ?_, this.2.2.2⟩
      · show ((S.off + n : Nat) : Int) ≤ j
        omega
      · show j < ((S.off + n + S.win : Nat) : Int)
        omega
  · have hj1 : S.off + n ≤ j := hj
    show (if (S.off : Int) ≤ (j : Int) ∧ (j : Int) < ((S.off + n : Nat) : Int) then none else S.m j).isSome = true
    rw [if_neg (by omega)]
    exact h.full j (by omega) hl
/-- the writer goes on -/
theorem St.Ok.more {S : St} {x y : Wr} (h : S.Ok x) (ht : x.top ≤ y.top) (ha : ∀ (j : Nat) (b : Byte), x.all[j]? = some b → y.all[j]? = some b) (hf : x.closed = true → y.all = x.all ∧ y.closed = true) (hm : x.marked = true → y.marked = true) : S.Ok y := by
  refine ⟨h.win, h.le, Nat.le_trans h.top ht, h.room, fun j b hj => ?_, h.full, fun hk => ?_⟩
  · obtain ⟨k1, k2, k3, k4⟩ := h.key j b hj
    exact ⟨k1, by omega, k3, ha _ _ k4⟩
  · obtain ⟨k1, k2, k3⟩ := h.fin hk
    obtain ⟨e1, e2⟩ := hf k2
    exact ⟨by rw [e1]; exact k1, e2, hm k3⟩
theorem Wr.Of.more {x y : Wr} {s : Seg} (h : x.Of s) (hx : x.Ok) (ht : x.top ≤ y.top) (ha : ∃ d, y.all = x.all ++ d) (hf : x.closed = true → y.all = x.all ∧ y.closed = true) (hm : x.marked = true → y.marked = true) : y.Of s := by
  obtain ⟨h1, h2, h3⟩ := h
  obtain ⟨d, ha⟩ := ha
  have h4 := hx.tt
  refine ⟨by omega, ?_, fun hl => ?_⟩
  · rw [ha, List.drop_append_of_le_length (by omega), List.take_append_of_le_length (by rw [List.length_drop]; omega)]
    exact h2
  · obtain ⟨k1, k2, k3⟩ := h3 hl
    obtain ⟨e1, e2⟩ := hf k1
    exact ⟨e2, hm k2, by rw [e1]; exact k3⟩
end Go.Proofs.Ytbibippdafnenaa
