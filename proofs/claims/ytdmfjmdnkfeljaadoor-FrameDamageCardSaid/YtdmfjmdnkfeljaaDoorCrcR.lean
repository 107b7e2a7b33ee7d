/- Residue, linearity and detection, in plain words. No program in sight. -/
import Derived.Test.YtdmfjmdnkfeljaaDoorMgC
namespace Go.Proofs.YtdmfjmdnkfeljaaDoor

theorem T1_shl (y : BitVec 32) (h : y.toNat < 2 ^ 31) : T1 (y <<< 1) = y := by
  have e : y = (y.setWidth 31).setWidth 32 := by
    apply BitVec.eq_of_toNat_eq; simp [BitVec.toNat_setWidth]; omega
  rw [e]; exact T1_even _
theorem T_shl (n : Nat) : ∀ y : BitVec 32, y.toNat * 2 ^ n < 2 ^ 32 → T n (y <<< n) = y := by
  induction n with
  | zero => intro y _; rw [BitVec.shiftLeft_zero]; rfl
  | succ n ih =>
    intro y h
    rw [Nat.pow_succ, ← Nat.mul_assoc] at h
    have h1 : (y <<< n).toNat = y.toNat * 2 ^ n := by
      rw [BitVec.toNat_shiftLeft, Nat.shiftLeft_eq]; exact Nat.mod_eq_of_lt (by omega)
    have e : y <<< (n + 1) = (y <<< n) <<< 1 := by rw [← BitVec.shiftLeft_add]
    show T n (T1 (y <<< (n + 1))) = y
    rw [e, T1_shl _ (by rw [h1]; omega), ih y (by omega)]
theorem stepB_xor (r s : BitVec 32) (x y : BitVec 8) : stepB (r ^^^ s) (x ^^^ y) = stepB r x ^^^ stepB s y := by
  rw [stepB_T, stepB_T, stepB_T, ← T_xor]
  congr 1
  have : (x ^^^ y).setWidth 32 = x.setWidth 32 ^^^ y.setWidth 32 := by
    apply BitVec.eq_of_toNat_eq; simp [BitVec.toNat_setWidth]
  rw [this, xor4]
/-- bytewise exclusive or -/
def bx (a b : List (BitVec 8)) : List (BitVec 8) := List.zipWith (· ^^^ ·) a b
theorem reg_bx (a : List (BitVec 8)) : ∀ (b : List (BitVec 8)) (r s : BitVec 32), a.length = b.length → reg (r ^^^ s) (bx a b) = reg r a ^^^ reg s b := by
  induction a with
  | nil => intro b r s h; have : b = [] := List.eq_nil_of_length_eq_zero h.symm; subst this; rfl
  | cons x a ih =>
    intro b r s h
    match b, h with
    | y :: b, h =>
      show reg (stepB (r ^^^ s) (x ^^^ y)) (bx a b) = reg (stepB r x) a ^^^ reg (stepB s y) b
      rw [stepB_xor]; exact ih b _ _ (by simpa using h)
theorem not3 (a b c : BitVec 32) : ~~~(a ^^^ b ^^^ c) = ~~~a ^^^ ~~~b ^^^ ~~~c := by
  apply BitVec.eq_of_getLsbD_eq
  intro i hi
  simp only [BitVec.getLsbD_not, BitVec.getLsbD_xor, hi, decide_true, Bool.true_and]
  cases a.getLsbD i <;> cases b.getLsbD i <;> cases c.getLsbD i <;> rfl
theorem csum_linear (a b c : List (BitVec 8)) (h1 : a.length = b.length) (h2 : b.length = c.length) : csum (bx (bx a b) c) = csum a ^^^ csum b ^^^ csum c := by
  unfold csum upd
  have e : (~~~(0 : BitVec 32)) = (~~~0 ^^^ ~~~0) ^^^ ~~~0 := by decide
  have hl : (bx a b).length = c.length := by simp [bx, h1, h2]
  conv => lhs; rw [e]
  rw [reg_bx _ _ _ _ hl, reg_bx _ _ _ _ h1, not3]

theorem split4 (s : BitVec 32) : s = (((s.setWidth 8).setWidth 32 ^^^ ((s >>> 8).setWidth 8).setWidth 32 <<< 8) ^^^ ((s >>> 16).setWidth 8).setWidth 32 <<< 16) ^^^ ((s >>> 24).setWidth 8).setWidth 32 <<< 24 := by
  apply BitVec.eq_of_getLsbD_eq
  intro i hi
  simp only [BitVec.getLsbD_xor, BitVec.getLsbD_shiftLeft, BitVec.getLsbD_setWidth, BitVec.getLsbD_ushiftRight]
  by_cases h8 : i < 8
  · simp [h8, hi, show i < 16 by omega, show i < 24 by omega]
  by_cases h16 : i < 16
  · simp [h8, hi, h16, show i < 24 by omega, show i - 8 < 8 by omega, show 8 + (i - 8) = i by omega, show i - 8 < 32 by omega]
  by_cases h24 : i < 24
  · simp [h8, hi, h16, h24, show ¬ (i - 8 < 8) by omega, show i - 16 < 8 by omega, show 16 + (i - 16) = i by omega, show i - 16 < 32 by omega]
  · simp [h8, hi, h16, h24, show ¬ (i - 8 < 8) by omega, show ¬ (i - 16 < 8) by omega, show i - 24 < 8 by omega, show 24 + (i - 24) = i by omega, show i - 24 < 32 by omega]
theorem small32 (x : BitVec 8) (n : Nat) (h : n ≤ 24) : (x.setWidth 32).toNat * 2 ^ n < 2 ^ 32 := by
  have hx := x.isLt
  rw [BitVec.toNat_setWidth, Nat.mod_eq_of_lt (by omega)]
  have : 2 ^ n ≤ 2 ^ 24 := Nat.pow_le_pow_right (by decide) h
  calc x.toNat * 2 ^ n ≤ 255 * 2 ^ 24 := Nat.mul_le_mul (by omega) this
    _ < 2 ^ 32 := by decide
theorem T8_shl (x : BitVec 8) (n : Nat) (h : n ≤ 16) : T 8 (x.setWidth 32 <<< (n + 8)) = x.setWidth 32 <<< n := by
  rw [BitVec.shiftLeft_add]
  refine T_shl 8 _ ?_
  have hx := small32 x (n + 8) (by omega)
  have h1 : (x.setWidth 32 <<< n).toNat = (x.setWidth 32).toNat * 2 ^ n := by
    rw [BitVec.toNat_shiftLeft, Nat.shiftLeft_eq]; exact Nat.mod_eq_of_lt (small32 x n (by omega))
  rw [h1, Nat.mul_assoc, ← Nat.pow_add]; exact hx
theorem st1 (X : BitVec 32) (d : BitVec 8) : T 8 (X ^^^ d.setWidth 32 <<< 8) = T 8 X ^^^ d.setWidth 32 := by
  have k := T8_shl d 0 (by omega)
  rw [BitVec.shiftLeft_zero] at k
  rw [T_xor]; exact congrArg _ k
theorem st2 (X : BitVec 32) (c d : BitVec 8) : T 8 (X ^^^ c.setWidth 32 <<< 8 ^^^ d.setWidth 32 <<< 16) = T 8 X ^^^ c.setWidth 32 ^^^ d.setWidth 32 <<< 8 := by
  rw [T_xor, st1]; exact congrArg _ (T8_shl d 8 (by omega))
theorem st3 (X : BitVec 32) (b c d : BitVec 8) : T 8 (X ^^^ b.setWidth 32 <<< 8 ^^^ c.setWidth 32 <<< 16 ^^^ d.setWidth 32 <<< 24) = T 8 X ^^^ b.setWidth 32 ^^^ c.setWidth 32 <<< 8 ^^^ d.setWidth 32 <<< 16 := by
  rw [T_xor, st2]; exact congrArg _ (T8_shl d 16 (by omega))
theorem reg_le4 (r s : BitVec 32) : reg r (le4 s) = T 32 (r ^^^ s) := by
  show stepB (stepB (stepB (stepB r _) _) _) _ = _
  have e : r ^^^ s = (((r ^^^ (s.setWidth 8).setWidth 32) ^^^ ((s >>> 8).setWidth 8).setWidth 32 <<< 8) ^^^ ((s >>> 16).setWidth 8).setWidth 32 <<< 16) ^^^ ((s >>> 24).setWidth 8).setWidth 32 <<< 24 := by
    conv => lhs; rw [split4 s]
    simp only [BitVec.xor_assoc]
  have e32 : T 32 (r ^^^ s) = T 8 (T 8 (T 8 (T 8 (r ^^^ s)))) := by rw [← T_add, ← T_add, ← T_add]
  rw [e32, e, st3, st2, st1, stepB_T, stepB_T, stepB_T, stepB_T]
theorem residue (bs : List (BitVec 8)) : csum (sealed bs) = 0x2144df1c#32 := by
  unfold csum upd sealed
  rw [reg_append, reg_le4]
  show ~~~ (T 32 (reg (~~~0) bs ^^^ ~~~ (reg (~~~ 0) bs))) = _
  generalize reg (~~~0) bs = r
  have : r ^^^ ~~~r = 0xffffffff#32 := by
    apply BitVec.eq_of_getLsbD_eq
    intro i hi
    have h2 : (0xffffffff#32 : BitVec 32) = BitVec.allOnes 32 := by decide
    rw [h2, BitVec.getLsbD_xor, BitVec.getLsbD_not, BitVec.getLsbD_allOnes]
    simp [hi]
  rw [this]; decide +kernel

/-- what is zero for one register is zero for all: two sealed strings of one length -/
theorem T1_zero (x : BitVec 32) (h : T1 x = 0#32) : x = 0#32 := by
  unfold T1 at h
  by_cases hb : x.getLsbD 0
  · rw [if_pos hb] at h
    have h31 : ((x >>> 1) ^^^ 3988292384#32).getLsbD 31 = false := by rw [h]; rfl
    rw [BitVec.getLsbD_xor, BitVec.getLsbD_ushiftRight] at h31
    have : x.getLsbD (1 + 31) = false := BitVec.getLsbD_of_ge _ _ (by omega)
    rw [this] at h31
    exact absurd h31 (by decide)
  · rw [if_neg hb, BitVec.xor_zero] at h
    have h1 : x.toNat / 2 = 0 := by
      have := congrArg BitVec.toNat h
      rwa [BitVec.toNat_ushiftRight, Nat.shiftRight_eq_div_pow] at this
    have h2 : x.toNat % 2 = 0 := by
      rw [BitVec.getLsbD, Nat.testBit_zero] at hb
      simp at hb; omega
    apply BitVec.eq_of_toNat_eq
    show x.toNat = 0
    omega
theorem T_zero (n : Nat) : ∀ x : BitVec 32, T n x = 0#32 → x = 0#32 := by
  induction n with
  | zero => intro x h; exact h
  | succ n ih => intro x h; exact T1_zero x (ih _ h)
theorem xor_eq_zero (a b : BitVec 32) (h : a ^^^ b = 0#32) : a = b := by
  have : (a ^^^ b) ^^^ b = 0#32 ^^^ b := by rw [h]
  rwa [BitVec.xor_assoc, BitVec.xor_self, BitVec.xor_zero, BitVec.zero_xor] at this
/-- damage e to a sealed string that leaves a sealed string leaves the register 0 -/
theorem undetected (c e : List (BitVec 8)) (he : e.length = (sealed c).length) (h : isSealed (bx (sealed c) e) = true) : reg 0#32 e = 0#32 := by
  have hl : (bx (sealed c) e).length = (sealed c).length := by simp [bx, he]
  have h4 : 4 ≤ (bx (sealed c) e).length := by rw [hl, sealed_length]; omega
  rw [isSealed_iff _ h4] at h
  have r1 := residue c
  have r2 := residue ((bx (sealed c) e).take ((bx (sealed c) e).length - 4))
  rw [← h] at r2
  unfold csum upd at r1 r2
  have e0 : (~~~(0 : BitVec 32)) = ~~~0 ^^^ 0#32 := by decide
  rw [e0, reg_bx _ _ _ _ he.symm] at r2
  have r3 : ~~~ (reg (~~~0) (sealed c) ^^^ reg 0#32 e) = ~~~ (reg (~~~0) (sealed c)) := by rw [r2, r1]
  have r4 := congrArg (~~~ ·) r3
  simp only [BitVec.not_not] at r4
  have := congrArg (reg (~~~0) (sealed c) ^^^ ·) r4
  simpa [← BitVec.xor_assoc] using this
end Go.Proofs.YtdmfjmdnkfeljaaDoor
