/- Lines and their ledger, plain: one step of the law keeps what always holds. No program. -/
import Derived.Test.YtbibippdafnenaaWaQ
namespace Go.Proofs.Ytbibippdafnenaa

/-- the balances of a line -/
def Ln.bal (x : Ln) : Bal := ⟨-(x.w.all.length : Int), (x.w.all.length : Int) - x.w.top, (x.w.top : Int) - x.w.base, x.w.base, 0⟩
def accs (es : List Ent) (e : Ent) : List Ent := if e.bytes = 0 then es else es ++ [e]
/-- one line's step, and what is booked with it -/
structure Step (x y : Ln) (k frm n : Nat) : Prop where
  ok : y.Ok
  big : y.w.all.length ≤ 4 * (k + 1)
  cnt : y.r.n ≤ 16 * (k + 1)
  bal : y.bal = x.bal.move frm n
  kf : frm < 3
  has : frm ≠ 0 → (n : Int) ≤ x.bal.get frm
  le : n ≤ 1000
  lst : y.segs.length ≤ x.segs.length + 1 ∧ y.acks.length ≤ x.acks.length + 1
  fin : x.r.fin ≤ 1000 → y.r.fin ≤ 1000
structure Acc (ls : List Ln) (es : List Ent) (k : Nat) : Prop where
  ok : ∀ (i : Nat) (x : Ln), ls[i]? = some x → x.Ok ∧ x.w.all.length ≤ 4 * k ∧ x.r.n ≤ 16 * k ∧ (Led.run es).bal i = x.bal ∧ x.segs.length ≤ k ∧ x.acks.length ≤ k ∧ x.r.fin ≤ 1000
  good : Led.Good es
  len : es.length ≤ k
  last : ∀ e ∈ es, e.tick < k
theorem Bal.move_zero (b : Bal) (k : Nat) : b.move k 0 = b := by
  unfold Bal.move; split <;> simp
theorem Acc.can {ls : List Ln} {es : List Ent} {k i frm n : Nat} (h : Acc ls es k) (hk : k < 200) {x y : Ln} (hx : ls[i]? = some x) (hi : i < 1000) (hs : Step x y k frm n) (hn : n ≠ 0) : (Led.run es).Can ⟨k, i, frm, n⟩ := by
  obtain ⟨o1, o2, o3, o4, -⟩ := h.ok i x hx
  have hw := o1.w
  have h1 := hw.bn; have h2 := hw.nt; have h3 := hw.tt
  refine ⟨hi, hs.kf, Nat.pos_of_ne_zero hn, Nat.le_trans hs.le (by decide), by show k ≤ _; omega, fun e he => ?_, ?_, fun hf => ?_, ?_⟩
  · rw [Led.run_es] at he
    have := h.last e (List.mem_of_getElem? he)
    exact Nat.le_of_lt this
  · rw [Led.run_es]; have := h.len; omega
  · show (n : Int) ≤ ((Led.run es).bal i).get frm
    rw [o4]; exact hs.has hf
  · show ((Led.run es).bal i).Small
    rw [o4]
    refine ⟨?_, ?_, ?_, ?_, ?_, ?_, ?_, ?_, ?_, ?_⟩ <;> simp only [Ln.bal] <;> omega
theorem Acc.step {ls : List Ln} {es : List Ent} {k i frm n : Nat} (h : Acc ls es k) (hk : k < 200) {x y : Ln} (hx : ls[i]? = some x) (hi : i < 1000) (hs : Step x y k frm n) : Acc (ls.set i y) (accs es ⟨k, i, frm, n⟩) (k + 1) := by
  have hil : i < ls.length := by
    rcases Nat.lt_or_ge i ls.length with h | h
    · exact h
    · rw [List.getElem?_eq_none h] at hx; cases hx
  have hb : ∀ j, (Led.run (accs es ⟨k, i, frm, n⟩)).bal j = if j = i then ((Led.run es).bal i).move frm n else (Led.run es).bal j := fun j => by
    unfold accs
    by_cases hn : n = 0
    · rw [if_pos (show (Ent.mk k i frm n).bytes = 0 from hn), hn]
      by_cases hj : j = i
      · rw [if_pos hj, hj]; exact (Bal.move_zero _ _).symm
      · rw [if_neg hj]
    · rw [if_neg (show ¬(Ent.mk k i frm n).bytes = 0 from hn), Led.run_snoc]
      by_cases hj : j = i
      · rw [if_pos hj, hj]; exact Led.bal_book _ ⟨k, i, frm, n⟩
      · rw [if_neg hj]; exact Led.bal_other _ ⟨k, i, frm, n⟩ hj
  refine ⟨fun j z hz => ?_, ?_, ?_, fun e he => ?_⟩
  · rw [hb]
    by_cases hj : j = i
    · rw [if_pos hj]
      rw [hj, List.getElem?_set_self hil] at hz
      obtain rfl : y = z := by simpa using hz
      obtain ⟨-, -, -, q4, q5, q6, q7⟩ := h.ok i x hx
      exact ⟨hs.ok, hs.big, hs.cnt, by rw [q4]; exact hs.bal.symm, Nat.le_trans hs.lst.1 (Nat.succ_le_succ q5), Nat.le_trans hs.lst.2 (Nat.succ_le_succ q6), hs.fin q7⟩
    · rw [if_neg hj]
      rw [List.getElem?_set_ne (fun e => hj e.symm)] at hz
      obtain ⟨o1, o2, o3, o4, o5, o6, o7⟩ := h.ok j z hz
      exact ⟨o1, by omega, by omega, o4, by omega, by omega, o7⟩
  · unfold accs
    by_cases hn : n = 0
    · rw [if_pos (show (Ent.mk k i frm n).bytes = 0 from hn)]; exact h.good
    · rw [if_neg (show ¬(Ent.mk k i frm n).bytes = 0 from hn)]; exact h.good.snoc (h.can hk hx hi hs hn)
  · unfold accs
    have := h.len
    split
    · omega
    · rw [List.length_append]; simp; omega
  · unfold accs at he
    split at he
    · exact Nat.lt_succ_of_lt (h.last e he)
    · rcases List.mem_append.1 he with he | he
      · exact Nat.lt_succ_of_lt (h.last e he)
      · obtain rfl := List.mem_singleton.1 he
        exact Nat.lt_succ_self _
section
variable {x : Ln} {k : Nat} (h : x.Ok) (hb : x.w.all.length ≤ 4 * k) (hn : x.r.n ≤ 16 * k)
include hb
include h hn in
theorem Step.write (d : List Byte) (hd : d.length ≤ 4) (hk : k < 200) : Step x (x.write d) k 0 (x.w.takes d.length) := by
  obtain ⟨t1, -, -⟩ := x.w.takes_le d.length
  have hl : (x.write d).w.all.length = x.w.all.length + x.w.takes d.length := by
    show (x.w.all ++ d.take _).length = _
    rw [List.length_append, List.length_take]; omega
  refine ⟨h.write d (by omega), by omega, by show x.r.n ≤ _; omega, ?_, by decide, fun hf => absurd rfl hf, by omega, ⟨Nat.le_succ _, Nat.le_succ _⟩, id⟩
  show Bal.mk (-((x.write d).w.all.length : Int)) (((x.write d).w.all.length : Int) - x.w.top) ((x.w.top : Int) - x.w.base) x.w.base 0 = ⟨-(x.w.all.length : Int) - _, (x.w.all.length : Int) - x.w.top + _, _, _, _⟩
  rw [hl]
  congr 1 <;> omega
theorem Step.same {y : Ln} (hy : y.Ok) (hl : y.segs.length ≤ x.segs.length + 1 ∧ y.acks.length ≤ x.acks.length + 1) (hf : x.r.fin ≤ 1000 → y.r.fin ≤ 1000) (hc : y.r.n ≤ 16 * (k + 1)) (h1 : y.w.all = x.w.all) (h2 : y.w.top = x.w.top) (h3 : y.w.base = x.w.base) : Step x y k 0 0 := by
  refine ⟨hy, by rw [h1]; omega, hc, ?_, by decide, fun hf => absurd rfl hf, by decide, hl, hf⟩
  have := Bal.move_zero x.bal 0
  show y.bal = x.bal.move 0 0
  rw [this]; unfold Ln.bal; rw [h1, h2, h3]
include hn in
theorem Step.top {y : Ln} {n : Nat} (hy : y.Ok) (hl : y.segs.length ≤ x.segs.length + 1 ∧ y.acks.length ≤ x.acks.length + 1) (h0 : y.r = x.r) (h1 : y.w.all = x.w.all) (h2 : y.w.top = x.w.top + n) (h3 : y.w.base = x.w.base) (hk : k < 200) : Step x y k 1 n := by
  have := hy.w.tt
  rw [h1] at this
  refine ⟨hy, by rw [h1]; omega, by rw [h0]; omega, ?_, by decide, fun _ => ?_, by omega, hl, by rw [h0]; exact id⟩
  · show Bal.mk (-(y.w.all.length : Int)) ((y.w.all.length : Int) - y.w.top) ((y.w.top : Int) - y.w.base) y.w.base 0 = ⟨-(x.w.all.length : Int), (x.w.all.length : Int) - x.w.top - (n : Int), (x.w.top : Int) - x.w.base + (n : Int), x.w.base, 0⟩
    rw [h1, h2, h3]
    congr 1 <;> omega
  · show (n : Int) ≤ (x.w.all.length : Int) - x.w.top
    omega
include hn in
theorem Step.base {y : Ln} {n : Nat} (hy : y.Ok) (hl : y.segs.length ≤ x.segs.length + 1 ∧ y.acks.length ≤ x.acks.length + 1) (h0 : y.r = x.r) (h1 : y.w.all = x.w.all) (h2 : y.w.top = x.w.top) (h3 : y.w.base = x.w.base + n) (hk : k < 200) : Step x y k 2 n := by
  have := hy.w.tt; have q1 := hy.w.bn; have q2 := hy.w.nt
  rw [h1] at this
  refine ⟨hy, by rw [h1]; omega, by rw [h0]; omega, ?_, by decide, fun _ => ?_, by omega, hl, by rw [h0]; exact id⟩
  · show Bal.mk (-(y.w.all.length : Int)) ((y.w.all.length : Int) - y.w.top) ((y.w.top : Int) - y.w.base) y.w.base 0 = ⟨-(x.w.all.length : Int), (x.w.all.length : Int) - x.w.top, (x.w.top : Int) - x.w.base - (n : Int), (x.w.base : Int) + (n : Int), 0⟩
    rw [h1, h2, h3]
    congr 1 <;> omega
  · show (n : Int) ≤ (x.w.top : Int) - x.w.base
    omega
end
/-- a segment's end, and the new top -/
theorem Wr.tick_top {x : Wr} (hx : x.Ok) {most : Nat} : (x.tick most).1.all = x.all ∧ (x.tick most).1.base = x.base ∧ match (x.tick most).2 with | none => (x.tick most).1.top = x.top | some s => (x.tick most).1.top = max x.top (s.off + s.data.length) := by
  have h1 := hx.bn; have h2 := hx.nt; have h3 := hx.tt
  have key : ∀ (n : Nat) (l : Bool), x.next + n ≤ x.all.length → (x.sent n l).top = max x.top ((x.seg n l).off + (x.seg n l).data.length) := fun n l hl => by
    have : (x.seg n l).data.length = n := by show ((x.all.drop x.next).take n).length = n; rw [List.length_take, List.length_drop]; omega
    rw [this]; rfl
  unfold Wr.tick
  split
  · refine ⟨rfl, rfl, key _ _ ?_⟩
    unfold Wr.some'; omega
  · split
    · exact ⟨rfl, rfl, key _ _ (by omega)⟩
    · split
      · exact ⟨rfl, rfl, rfl⟩
      · split
        · exact ⟨rfl, rfl, rfl⟩
        · split
          · exact ⟨rfl, rfl, rfl⟩
          · refine ⟨rfl, rfl, ?_⟩
            show x.top = max x.top (x.base + 0)
            omega
theorem St.put_n (S : St) (s : Seg) (n : Nat) (hw : S.win ≤ 16) : (S.put s n).n ≤ S.n + 16 := by
  show S.n + (S.hi s - S.lo s) ≤ _
  unfold St.hi St.lo; omega
theorem Wr.ack_more (x : Wr) (o r : Nat) (dn : Bool) : (x.ack o r dn).all = x.all ∧ (x.ack o r dn).top = x.top ∧ x.base ≤ (x.ack o r dn).base := by
  unfold Wr.ack
  split
  · exact ⟨rfl, rfl, Nat.le_refl _⟩
  · split
    · exact ⟨rfl, rfl, Nat.le_refl _⟩
    · exact ⟨rfl, rfl, by show x.base ≤ o; omega⟩
theorem Ln.Ok.rdlen {x : Ln} (h : x.Ok) : x.rd.length = x.r.off ∧ x.rd <+: x.w.all := by
  have h1 := h.r.le; have h2 := h.r.top; have h3 := h.w.tt
  rw [h.rd, List.length_take]
  exact ⟨by omega, List.take_prefix _ _⟩
theorem Acc.new (n a b : Nat) (ha : 1 ≤ a ∧ a ≤ 16) (hb : 1 ≤ b ∧ b ≤ 16) : Acc (List.replicate n (Ln.new a b)) [] 0 where
  ok i x hx := by
    obtain rfl : x = Ln.new a b := List.eq_of_mem_replicate (List.mem_of_getElem? hx)
    exact ⟨Ln.new_ok ha hb, Nat.le_refl _, Nat.le_refl _, rfl, Nat.le_refl _, Nat.le_refl _, Nat.zero_le _⟩
  good := Led.Good.nil
  len := Nat.le_refl _
  last e he := by cases he
end Go.Proofs.Ytbibippdafnenaa
