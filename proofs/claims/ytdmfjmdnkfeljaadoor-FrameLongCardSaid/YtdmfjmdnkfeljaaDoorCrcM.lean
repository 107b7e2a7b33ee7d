/- The check sum in plain words: the register by half bytes and by bits are the same; linearity. No program in sight. -/
namespace Go.Proofs.YtdmfjmdnkfeljaaDoor

def rems : List (BitVec 32) := [0, 498536548, 997073096, 651767980, 1994146192, 1802195444, 1303535960, 1342533948, 3988292384, 4027552580, 3604390888, 3412177804, 2607071920, 2262029012, 2685067896, 3183342108]
def rem4 (r : BitVec 32) : BitVec 32 := rems.getD (r &&& 15).toNat 0
def nib (r : BitVec 32) : BitVec 32 := (r >>> 4) ^^^ rem4 r
theorem nib_fold (r : BitVec 32) : (r >>> 4) ^^^ rem4 r = nib r := rfl
/-- the register after a byte, by half bytes -/
def stepB (r : BitVec 32) (x : BitVec 8) : BitVec 32 := nib (nib (r ^^^ x.setWidth 32))
/-- the register after some bytes -/
def reg (r : BitVec 32) (bs : List (BitVec 8)) : BitVec 32 := bs.foldl stepB r
def upd (s : BitVec 32) (bs : List (BitVec 8)) : BitVec 32 := ~~~ (reg (~~~ s) bs)
def csum (bs : List (BitVec 8)) : BitVec 32 := upd 0 bs

theorem take_getD {α : Type} (l : List α) (k : Nat) (d : α) (h : k < l.length) : l.take (k + 1) = l.take k ++ [l.getD k d] := by
  rw [List.take_succ_eq_append_getElem h]; simp [List.getD, h]
theorem reg_snoc (r : BitVec 32) (bs : List (BitVec 8)) (k : Nat) (h : k < bs.length) : reg r (bs.take (k + 1)) = stepB (reg r (bs.take k)) (bs.getD k 0) := by
  rw [take_getD bs k 0 h]; simp [reg]
theorem reg_append (r : BitVec 32) (a b : List (BitVec 8)) : reg r (a ++ b) = reg (reg r a) b := by simp [reg]


/-- the register after a bit 0 -/
def T1 (r : BitVec 32) : BitVec 32 := (r >>> 1) ^^^ (if r.getLsbD 0 then 3988292384#32 else 0#32)
def T : Nat → BitVec 32 → BitVec 32
  | 0, r => r
  | n + 1, r => T n (T1 r)
theorem xor4 (a b c d : BitVec 32) : (a ^^^ b) ^^^ (c ^^^ d) = (a ^^^ c) ^^^ (b ^^^ d) := by
  rw [BitVec.xor_assoc, BitVec.xor_assoc, ← BitVec.xor_assoc b c d, BitVec.xor_comm b c, BitVec.xor_assoc c b d]
theorem T1_xor (a b : BitVec 32) : T1 (a ^^^ b) = T1 a ^^^ T1 b := by
  unfold T1
  rw [BitVec.ushiftRight_xor_distrib, BitVec.getLsbD_xor, xor4]
  congr 1
  cases a.getLsbD 0 <;> cases b.getLsbD 0 <;> simp
theorem T_xor (n : Nat) : ∀ a b : BitVec 32, T n (a ^^^ b) = T n a ^^^ T n b := by
  induction n with
  | zero => intro a b; rfl
  | succ n ih => intro a b; show T n (T1 _) = _; rw [T1_xor, ih]; rfl
theorem T_add (m : Nat) : ∀ (n : Nat) (r : BitVec 32), T (m + n) r = T n (T m r) := by
  induction m with
  | zero => intro n r; rw [Nat.zero_add]; rfl
  | succ m ih => intro n r; rw [Nat.succ_add]; show T (m + n) (T1 r) = _; rw [ih]; rfl
theorem T_succ (n : Nat) (r : BitVec 32) : T (n + 1) r = T1 (T n r) := T_add n 1 r
theorem T1_even (y : BitVec 31) : T1 (y.setWidth 32 <<< 1) = y.setWidth 32 := by
  have h : (y.setWidth 32 <<< 1).getLsbD 0 = false := by simp
  unfold T1
  rw [h]
  apply BitVec.eq_of_toNat_eq
  have := y.isLt
  simp [BitVec.toNat_ushiftRight, BitVec.toNat_shiftLeft, Nat.shiftRight_eq_div_pow, Nat.shiftLeft_eq]
  omega
theorem T4_high (y : BitVec 28) : T 4 (y.setWidth 32 <<< 4) = y.setWidth 32 := by
  have hy := y.isLt
  have e : ∀ (n : Nat) (hn : n + 1 ≤ 4), y.setWidth 32 <<< (n + 1) = ((y.setWidth 31 <<< n).setWidth 32) <<< 1 := by
    intro n hn
    apply BitVec.eq_of_toNat_eq
    simp [BitVec.toNat_shiftLeft, Nat.shiftLeft_eq]
    have : n = 0 ∨ n = 1 ∨ n = 2 ∨ n = 3 := by omega
    rcases this with rfl | rfl | rfl | rfl <;> omega
  have e2 : ∀ (n : Nat) (hn : n + 1 ≤ 4), T1 (y.setWidth 32 <<< (n + 1)) = y.setWidth 32 <<< n := by
    intro n hn
    rw [e n hn, T1_even]
    apply BitVec.eq_of_toNat_eq
    simp [BitVec.toNat_shiftLeft, Nat.shiftLeft_eq]
    have : n = 0 ∨ n = 1 ∨ n = 2 ∨ n = 3 := by omega
    rcases this with rfl | rfl | rfl | rfl <;> omega
  show T1 (T1 (T1 (T1 _))) = _
  rw [e2 3 (by omega), e2 2 (by omega), e2 1 (by omega), e2 0 (by omega)]
  rw [BitVec.shiftLeft_zero]
theorem rem4_T : ∀ c : BitVec 4, T 4 (c.setWidth 32) = rems.getD c.toNat 0 := by decide +kernel
theorem nib_T (r : BitVec 32) : nib r = T 4 r := by
  have h1 : r = ((r >>> 4).setWidth 28).setWidth 32 <<< 4 ^^^ (r.setWidth 4).setWidth 32 := by
    apply BitVec.eq_of_getLsbD_eq
    intro i hi
    simp only [BitVec.getLsbD_xor, BitVec.getLsbD_shiftLeft, BitVec.getLsbD_setWidth, BitVec.getLsbD_ushiftRight]
    by_cases h : i < 4
    · simp [h, hi]
    · have e : 4 + (i - 4) = i := by omega
      have h28 : i - 4 < 28 := by omega
      have h32 : i - 4 < 32 := by omega
      simp [h, hi, e, h28, h32]
  have h2 : (r >>> 4) = ((r >>> 4).setWidth 28).setWidth 32 := by
    apply BitVec.eq_of_toNat_eq
    have := r.isLt
    simp [BitVec.toNat_ushiftRight, Nat.shiftRight_eq_div_pow]
    omega
  have h3 : (r &&& 15#32).toNat = (r.setWidth 4).toNat := by
    rw [BitVec.toNat_and, BitVec.toNat_setWidth]; exact Nat.and_two_pow_sub_one_eq_mod _ 4
  unfold nib rem4
  conv => rhs; rw [h1]
  rw [T_xor, T4_high, rem4_T, ← h2, ← h3]
  rfl
theorem stepB_T (r : BitVec 32) (x : BitVec 8) : stepB r x = T 8 (r ^^^ x.setWidth 32) := by
  unfold stepB; rw [nib_T, nib_T, ← T_add]

/-- the reference's step: one bit of a byte -/
def refBit (x : BitVec 8) (r : BitVec 32) (k : Nat) : BitVec 32 :=
  if ((r &&& 1#32) != ((x.setWidth 32 >>> k) &&& 1#32)) then (r >>> 1) ^^^ 3988292384#32 else r >>> 1
def refBits (x : BitVec 8) (r : BitVec 32) (k : Nat) : BitVec 32 := (List.range k).foldl (refBit x) r
theorem refBits_succ (x : BitVec 8) (r : BitVec 32) (k : Nat) : refBits x r (k + 1) = refBit x (refBits x r k) k := by
  simp [refBits, List.range_succ]
theorem and1_eq (r : BitVec 32) : r &&& 1#32 = if r.getLsbD 0 then 1#32 else 0#32 := by
  apply BitVec.eq_of_toNat_eq
  rw [BitVec.toNat_and]
  have e : r.toNat &&& (1#32).toNat = r.toNat % 2 := Nat.and_two_pow_sub_one_eq_mod _ 1
  rw [e, BitVec.getLsbD, Nat.testBit_zero]
  by_cases h : r.toNat % 2 = 1 <;> simp [h]
  omega
theorem xor_flip (p q : BitVec 32) : p ^^^ (q ^^^ p) = q := by
  rw [BitVec.xor_comm q p, ← BitVec.xor_assoc, BitVec.xor_self, BitVec.zero_xor]
theorem refBit_lin (x : BitVec 8) (a b : BitVec 32) (k : Nat) : refBit x (a ^^^ b) k = refBit x a k ^^^ T1 b := by
  unfold refBit T1
  rw [and1_eq, and1_eq, and1_eq, BitVec.getLsbD_xor, BitVec.ushiftRight_xor_distrib]
  cases a.getLsbD 0 <;> cases b.getLsbD 0 <;> cases (BitVec.setWidth 32 x >>> k).getLsbD 0 <;> simp
  all_goals simp only [BitVec.xor_assoc, xor_flip]
  all_goals rw [BitVec.xor_comm (b >>> 1)]
theorem refBits_lin (x : BitVec 8) (a b : BitVec 32) (k : Nat) : refBits x (a ^^^ b) k = refBits x a k ^^^ T k b := by
  induction k with
  | zero => rfl
  | succ k ih => rw [refBits_succ, refBits_succ, ih, refBit_lin, T_succ]
theorem refBits_zero : ∀ x : BitVec 8, refBits x 0 8 = T 8 (x.setWidth 32) := by decide +kernel
theorem refByte_eq (x : BitVec 8) (r : BitVec 32) : refBits x r 8 = stepB r x := by
  have := refBits_lin x 0 r 8
  have e : (0 : BitVec 32) ^^^ r = r := BitVec.zero_xor
  rw [e] at this
  rw [this, refBits_zero, stepB_T, T_xor, BitVec.xor_comm]
end Go.Proofs.YtdmfjmdnkfeljaaDoor
