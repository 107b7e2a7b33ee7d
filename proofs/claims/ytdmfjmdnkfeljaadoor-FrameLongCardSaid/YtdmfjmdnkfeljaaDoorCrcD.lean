/- Append and Check in plain words: a string, and its check sum in four bytes. No program in sight. -/
import Derived.Test.YtdmfjmdnkfeljaaDoorCrcM
namespace Go.Proofs.YtdmfjmdnkfeljaaDoor

/-- a number in four bytes, the least significant first -/
def le4 (s : BitVec 32) : List (BitVec 8) := [s.setWidth 8, (s >>> 8).setWidth 8, (s >>> 16).setWidth 8, (s >>> 24).setWidth 8]
def sealed (bs : List (BitVec 8)) : List (BitVec 8) := bs ++ le4 (csum bs)
theorem le4_take (s : BitVec 32) (k : Nat) (h : k < 4) : (le4 s).take (k + 1) = (le4 s).take k ++ [(s >>> (8 * k)).setWidth 8] := by
  have : k = 0 ∨ k = 1 ∨ k = 2 ∨ k = 3 := by omega
  rcases this with rfl | rfl | rfl | rfl <;> simp [le4]
theorem sealed_length (bs : List (BitVec 8)) : (sealed bs).length = bs.length + 4 := by simp [sealed, le4]
/-- the number in the first k bytes -/
def rd4 (l : List (BitVec 8)) : Nat → BitVec 32
  | 0 => 0#32
  | k + 1 => rd4 l k ||| ((l.getD k 0).setWidth 32 <<< (8 * k))
theorem rd4_toNat (a b c d : BitVec 8) : (rd4 [a, b, c, d] 4).toNat = a.toNat + 256 * b.toNat + 65536 * c.toNat + 16777216 * d.toNat := by
  have ha := a.isLt; have hb := b.isLt; have hc := c.isLt; have hd := d.isLt
  have j : ∀ (i x y : Nat), x < 2 ^ i → x ||| y * 2 ^ i = x + y * 2 ^ i := by
    intro i x y hx
    rw [Nat.or_comm, Nat.mul_comm, ← Nat.two_pow_add_eq_or_of_lt hx, Nat.add_comm]
  show ((((0#32 ||| (a.setWidth 32 <<< 0)) ||| (b.setWidth 32 <<< 8)) ||| (c.setWidth 32 <<< 16)) ||| (d.setWidth 32 <<< 24)).toNat = _
  simp only [BitVec.toNat_or, BitVec.toNat_shiftLeft, BitVec.toNat_setWidth, Nat.shiftLeft_eq]
  have e0 : (0#32).toNat = 0 := rfl
  have e1 : a.toNat % 2 ^ 32 * 2 ^ 0 % 2 ^ 32 = a.toNat := by
    rw [Nat.mod_eq_of_lt (show a.toNat < 2 ^ 32 by omega)]; rw [Nat.pow_zero, Nat.mul_one]; exact Nat.mod_eq_of_lt (by omega)
  have e2 : b.toNat % 2 ^ 32 * 2 ^ 8 % 2 ^ 32 = b.toNat * 2 ^ 8 := by
    rw [Nat.mod_eq_of_lt (show b.toNat < 2 ^ 32 by omega)]; exact Nat.mod_eq_of_lt (by omega)
  have e3 : c.toNat % 2 ^ 32 * 2 ^ 16 % 2 ^ 32 = c.toNat * 2 ^ 16 := by
    rw [Nat.mod_eq_of_lt (show c.toNat < 2 ^ 32 by omega)]; exact Nat.mod_eq_of_lt (by omega)
  have e4 : d.toNat % 2 ^ 32 * 2 ^ 24 % 2 ^ 32 = d.toNat * 2 ^ 24 := by
    rw [Nat.mod_eq_of_lt (show d.toNat < 2 ^ 32 by omega)]; exact Nat.mod_eq_of_lt (by omega)
  rw [e0, e1, e2, e3, e4, Nat.zero_or, j 8 _ _ ha, j 16 _ _ (by omega), j 24 _ _ (by omega)]
  omega
theorem rd4_le4 (s : BitVec 32) : rd4 (le4 s) 4 = s := by
  apply BitVec.eq_of_toNat_eq
  have := s.isLt
  unfold le4
  rw [rd4_toNat]
  simp only [BitVec.toNat_setWidth, BitVec.toNat_ushiftRight, Nat.shiftRight_eq_div_pow]
  omega
theorem le4_rd4 (l : List (BitVec 8)) (h : l.length = 4) : le4 (rd4 l 4) = l := by
  match l, h with
  | [a, b, c, d], _ =>
    have e := rd4_toNat a b c d
    have ha := a.isLt; have hb := b.isLt; have hc := c.isLt; have hd := d.isLt
    unfold le4
    simp only [List.cons.injEq, and_true]
    refine ⟨?_, ?_, ?_, ?_⟩ <;> apply BitVec.eq_of_toNat_eq <;>
      simp only [BitVec.toNat_setWidth, BitVec.toNat_ushiftRight, Nat.shiftRight_eq_div_pow, e] <;> omega
/-- what Check asks -/
def isSealed (bs : List (BitVec 8)) : Bool := rd4 (bs.drop (bs.length - 4)) 4 == csum (bs.take (bs.length - 4))
theorem isSealed_iff (bs : List (BitVec 8)) (h : 4 ≤ bs.length) : isSealed bs = true ↔ bs = sealed (bs.take (bs.length - 4)) := by
  unfold isSealed sealed
  rw [beq_iff_eq]
  have hl : (bs.drop (bs.length - 4)).length = 4 := by rw [List.length_drop]; omega
  constructor
  · intro e
    rw [← e, le4_rd4 _ hl, List.take_append_drop]
  · intro e
    have e2 : bs.drop (bs.length - 4) = le4 (csum (bs.take (bs.length - 4))) := by
      have t := List.take_append_drop (bs.length - 4) bs
      exact List.append_cancel_left (t.trans e)
    rw [e2, rd4_le4]
theorem isSealed_sealed (bs : List (BitVec 8)) : isSealed (sealed bs) = true := by
  have h := sealed_length bs
  rw [isSealed_iff _ (by omega), h]
  have : (sealed bs).take (bs.length + 4 - 4) = bs := by
    rw [Nat.add_sub_cancel]; unfold sealed; simp
  rw [this]
end Go.Proofs.YtdmfjmdnkfeljaaDoor
