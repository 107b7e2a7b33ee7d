/- A ledger, plain: bookings from an account to the next one. No program. -/
import Derived.Test.YtbibippdafnenaaMgA
namespace Go.Proofs.Ytbibippdafnenaa

/-- a booking of bytes: from one account to the next one -/
structure Ent where
  tick : Nat
  conn : Nat
  frm : Nat
  bytes : Nat
/-- the balances of a connection -/
structure Bal where
  s : Int
  t : Int
  f : Int
  d : Int
  g : Int
namespace Bal
def zero : Bal := ⟨0, 0, 0, 0, 0⟩
def get (b : Bal) : Nat → Int
  | 0 => b.s
  | 1 => b.t
  | 2 => b.f
  | 3 => b.d
  | _ => b.g
/-- from account k to the next one -/
def move (b : Bal) (k : Nat) (n : Int) : Bal :=
  match k with
  | 0 => { b with s := b.s - n, t := b.t + n }
  | 1 => { b with t := b.t - n, f := b.f + n }
  | _ => { b with f := b.f - n, d := b.d + n }
def Small (b : Bal) : Prop := -1000000000000 ≤ b.s ∧ b.s ≤ 1000000000000 ∧ -1000000000000 ≤ b.t ∧ b.t ≤ 1000000000000 ∧ -1000000000000 ≤ b.f ∧ b.f ≤ 1000000000000 ∧ -1000000000000 ≤ b.d ∧ b.d ≤ 1000000000000 ∧ -1000000000000 ≤ b.g ∧ b.g ≤ 1000000000000
end Bal
structure Led where
  es : List Ent
  m : Int → Option Bal
namespace Led
def new : Led := ⟨[], fun _ => none⟩
def bal (L : Led) (c : Nat) : Bal := (L.m c).getD Bal.zero
def book (L : Led) (e : Ent) : Led := ⟨L.es ++ [e], fun j => if j = (e.conn : Int) then some ((L.bal e.conn).move e.frm e.bytes) else L.m j⟩
/-- the booking is accepted -/
structure Can (L : Led) (e : Ent) : Prop where
  conn : e.conn < 1000
  frm : e.frm < 3
  pos : 1 ≤ e.bytes
  big : e.bytes ≤ 1048576
  tick : e.tick ≤ 1073741824
  last : ∀ x, L.es[L.es.length - 1]? = some x → x.tick ≤ e.tick
  room : L.es.length < 10000
  has : e.frm ≠ 0 → (e.bytes : Int) ≤ (L.bal e.conn).get e.frm
  small : (L.bal e.conn).Small
theorem bal_book (L : Led) (e : Ent) : (L.book e).bal e.conn = (L.bal e.conn).move e.frm e.bytes := by
  show ((if (e.conn : Int) = (e.conn : Int) then some _ else _).getD Bal.zero) = _
  rw [if_pos rfl]; rfl
theorem bal_other (L : Led) (e : Ent) {c : Nat} (hc : c ≠ e.conn) : (L.book e).bal c = L.bal c := by
  show ((if (c : Int) = (e.conn : Int) then some _ else L.m c).getD Bal.zero) = _
  rw [if_neg (by omega)]; rfl
def run (es : List Ent) : Led := es.foldl book new
theorem run_snoc (es : List Ent) (e : Ent) : run (es ++ [e]) = (run es).book e := by unfold run; rw [List.foldl_append]; rfl
/-- every booking was accepted when it was made -/
def Good (es : List Ent) : Prop := ∀ (i : Nat) (e : Ent), es[i]? = some e → (run (es.take i)).Can e
theorem Good.nil : Good [] := fun i e h => by simp at h
theorem Good.snoc {es : List Ent} (h : Good es) {e : Ent} (hc : (run es).Can e) : Good (es ++ [e]) := fun i x hx => by
  by_cases hi : i < es.length
  · rw [List.getElem?_append_left hi] at hx
    rw [List.take_append_of_le_length (by omega)]
    exact h i x hx
  · rw [List.getElem?_append_right (by omega)] at hx
    have h0 : i - es.length = 0 := by
      rcases Nat.eq_zero_or_pos (i - es.length) with h | h
      · exact h
      · rw [List.getElem?_eq_none (by rw [List.length_singleton]; omega)] at hx; cases hx
    rw [h0] at hx
    obtain rfl : e = x := by simpa using hx
    have : i = es.length := by omega
    rw [this, List.take_left]; exact hc
theorem run_es (es : List Ent) : (run es).es = es := by
  suffices h : ∀ (es : List Ent) (L : Led), (es.foldl book L).es = L.es ++ es from by have := h es new; rwa [show new.es = [] from rfl, List.nil_append] at this
  intro es
  induction es with
  | nil => intro L; simp
  | cons e es ih => intro L; rw [List.foldl_cons, ih]; simp [book]
end Led
end Go.Proofs.Ytbibippdafnenaa
