/- Plain lemmas: the walk's operations on unsigned integers, read as operations of bit vectors (8 and 32 bits). No condition. -/
import Derived.WalkKit
namespace Go.Proofs.YtdmfjmdnkfeljaaDoor
open Go.RowKit

/-- what a bit vector is as an integer of the model (a plain def, so that simp does not open it) -/
def U {n : Nat} (x : BitVec n) : Int := (x.toNat : Int)
theorem U_eq {n : Nat} (x : BitVec n) : U x = (x.toNat : Int) := rfl
@[go_sem] theorem U_nonneg {n : Nat} (x : BitVec n) : 0 ≤ U x := by unfold U; omega
theorem U_lt32 (x : BitVec 32) : U x < 4294967296 := by have : x.toNat < 4294967296 := x.isLt; unfold U; omega
theorem U_lt8 (x : BitVec 8) : U x < 256 := by have : x.toNat < 256 := x.isLt; unfold U; omega
theorem U_lt16 (x : BitVec 16) : U x < 65536 := by have : x.toNat < 65536 := x.isLt; unfold U; omega
theorem U_inj {n : Nat} {x y : BitVec n} : U x = U y ↔ x = y := by
  unfold U; rw [Int.ofNat_inj]; exact ⟨BitVec.eq_of_toNat_eq, congrArg _⟩
theorem bv_ofInt {n : Nat} (x : BitVec n) : BitVec.ofInt n (U x) = x := by
  unfold U; rw [BitVec.ofInt_natCast]; simp
theorem ofInt_U {n : Nat} (z : Int) (h0 : 0 ≤ z) (h1 : z < 2 ^ n) : U (BitVec.ofInt n z) = z := by
  unfold U
  have e : (2 : Int) ^ n = ((2 ^ n : Nat) : Int) := by simp
  rw [BitVec.toNat_ofInt, ← e, Int.emod_eq_of_lt h0 h1, Int.toNat_of_nonneg h0]
@[go_sem] theorem wrap_u32_bv (x : BitVec 32) : IntKind.u32.wrap (U x) = U x := by
  rw [IntKind.wrap_u32]; have := U_lt32 x; have := U_nonneg x; omega
@[go_sem] theorem wrap_u8_bv (x : BitVec 8) : IntKind.u8.wrap (U x) = U x := by
  rw [IntKind.wrap_u8]; have := U_lt8 x; have := U_nonneg x; omega
@[go_sem] theorem U_eq_dec {n : Nat} (x y : BitVec n) : (U x == U y) = (x == y) := by
  rw [Bool.eq_iff_iff]; simp [U_inj]
@[go_sem] theorem U_ne_dec {n : Nat} (x y : BitVec n) : (U x != U y) = (x != y) := by
  unfold bne; rw [U_eq_dec]

theorem bits_u32 (x y : BitVec 32) : bits .xor .u32 (U x) (U y) = U (x ^^^ y) ∧ bits .and .u32 (U x) (U y) = U (x &&& y) ∧ bits .or .u32 (U x) (U y) = U (x ||| y) := by
  refine ⟨?_, ?_, ?_⟩
  · show IntKind.u32.wrap ((BitVec.ofInt 32 (U x) ^^^ BitVec.ofInt 32 (U y)).toNat : Int) = _
    rw [bv_ofInt, bv_ofInt, ← U_eq, wrap_u32_bv]
  · show IntKind.u32.wrap ((BitVec.ofInt 32 (U x) &&& BitVec.ofInt 32 (U y)).toNat : Int) = _
    rw [bv_ofInt, bv_ofInt, ← U_eq, wrap_u32_bv]
  · show IntKind.u32.wrap ((BitVec.ofInt 32 (U x) ||| BitVec.ofInt 32 (U y)).toNat : Int) = _
    rw [bv_ofInt, bv_ofInt, ← U_eq, wrap_u32_bv]
@[go_sem] theorem xor_u32_bv (x y : BitVec 32) : bits .xor .u32 (U x) (U y) = U (x ^^^ y) := (bits_u32 x y).1
@[go_sem] theorem and_u32_bv (x y : BitVec 32) : bits .and .u32 (U x) (U y) = U (x &&& y) := (bits_u32 x y).2.1
@[go_sem] theorem or_u32_bv (x y : BitVec 32) : bits .or .u32 (U x) (U y) = U (x ||| y) := (bits_u32 x y).2.2
@[go_sem] theorem and15_u32_bv (x : BitVec 32) : bits .and .u32 (U x) 15 = U (x &&& 15#32) := and_u32_bv x 15#32
@[go_sem] theorem and1_u32_bv (x : BitVec 32) : bits .and .u32 (U x) 1 = U (x &&& 1#32) := and_u32_bv x 1#32
@[go_sem] theorem xorp_u32_bv (x : BitVec 32) : bits .xor .u32 (U x) 3988292384 = U (x ^^^ 3988292384#32) := xor_u32_bv x 3988292384#32
@[go_sem] theorem xorm_u32_bv (x : BitVec 32) : bits .xor .u32 (U x) 4294967295 = U (~~~x) := by
  have h := xor_u32_bv x 4294967295#32
  have e : x ^^^ 4294967295#32 = ~~~x := by
    have : (4294967295#32 : BitVec 32) = BitVec.allOnes 32 := by decide
    rw [this, BitVec.xor_allOnes]
  rw [e] at h; exact h
@[go_sem] theorem not_u32_bv (x : BitVec 32) : bits .xor .u32 IntKind.u32.max (U x) = U (~~~x) := by
  have e : IntKind.u32.max = U (BitVec.allOnes 32) := by decide
  rw [e, xor_u32_bv, BitVec.xor_comm, BitVec.xor_allOnes]
@[go_sem] theorem shr4_u32_bv (x : BitVec 32) : U x / 16 = U (x >>> 4) := by
  unfold U; rw [BitVec.toNat_ushiftRight, Nat.shiftRight_eq_div_pow]; rfl
@[go_sem] theorem shr1_u32_bv (x : BitVec 32) : U x / 2 = U (x >>> 1) := by
  unfold U; rw [BitVec.toNat_ushiftRight, Nat.shiftRight_eq_div_pow]; rfl
@[go_sem] theorem u8_u32_bv (x : BitVec 8) : U x % 4294967296 = U (x.setWidth 32) := by
  unfold U; rw [BitVec.toNat_setWidth]; rfl
@[go_sem] theorem wrap_u32_u8_bv (x : BitVec 8) : IntKind.u32.wrap (U x) = U (x.setWidth 32) := by
  rw [IntKind.wrap_u32]; exact u8_u32_bv x
@[go_sem] theorem u8_mod (x : BitVec 8) : U x % 256 = U x := by have := U_lt8 x; have := U_nonneg x; omega
@[go_sem] theorem u32_mod (x : BitVec 32) : U x % 4294967296 = U x := by have := U_lt32 x; have := U_nonneg x; omega
/-- a bit vector as an index (a plain def, so that simp does not open it) -/
def N {n : Nat} (x : BitVec n) : Nat := x.toNat
@[go_sem] theorem U_toNat {n : Nat} (x : BitVec n) : (U x).toNat = N x := by unfold U N; omega
theorem U_N {n : Nat} (x : BitVec n) : U x = (N x : Int) := rfl
theorem shr_u32_4 (yk : IntKind) (x : BitVec 32) : Op.shift .shr .u32 (U x) yk 4 = pure (.int .u32 (U (x >>> 4))) := by
  rw [shift_shr .u32 yk (U x) 4 (by decide) (by decide), ← shr4_u32_bv]; rfl
theorem shr_u32_1 (yk : IntKind) (x : BitVec 32) : Op.shift .shr .u32 (U x) yk 1 = pure (.int .u32 (U (x >>> 1))) := by
  rw [shift_shr .u32 yk (U x) 1 (by decide) (by decide), ← shr1_u32_bv]; rfl
attribute [go_sem ↓ high] shr_u32_4 shr_u32_1
theorem bits_u8 (x y : BitVec 8) : bits .xor .u8 (U x) (U y) = U (x ^^^ y) ∧ bits .and .u8 (U x) (U y) = U (x &&& y) ∧ bits .or .u8 (U x) (U y) = U (x ||| y) := by
  refine ⟨?_, ?_, ?_⟩
  · show IntKind.u8.wrap ((BitVec.ofInt 8 (U x) ^^^ BitVec.ofInt 8 (U y)).toNat : Int) = _
    rw [bv_ofInt, bv_ofInt, ← U_eq, wrap_u8_bv]
  · show IntKind.u8.wrap ((BitVec.ofInt 8 (U x) &&& BitVec.ofInt 8 (U y)).toNat : Int) = _
    rw [bv_ofInt, bv_ofInt, ← U_eq, wrap_u8_bv]
  · show IntKind.u8.wrap ((BitVec.ofInt 8 (U x) ||| BitVec.ofInt 8 (U y)).toNat : Int) = _
    rw [bv_ofInt, bv_ofInt, ← U_eq, wrap_u8_bv]
@[go_sem] theorem xor_u8_bv (x y : BitVec 8) : bits .xor .u8 (U x) (U y) = U (x ^^^ y) := (bits_u8 x y).1
end Go.Proofs.YtdmfjmdnkfeljaaDoor
