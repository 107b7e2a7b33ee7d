/- Several texts in one: The check sum in plain words: the register by half bytes and by bits are the same; linearity. No program in sight. Append and Check in plain words: a string, and its check sum in four bytes. No program in sight. Packets, symbols and scanners in plain words. No program in sight. What a scanner finds: the laws of scanning in plain words. No program in sight. -/
/- The check sum in plain words: the register by half bytes and by bits are the same; linearity. No program in sight. -/
namespace Go.Proofs.YtdmfjmdnkfeljaaDoor

def rems : List (BitVec 32) := [0, 498536548, 997073096, 651767980, 1994146192, 1802195444, 1303535960, 1342533948, 3988292384, 4027552580, 3604390888, 3412177804, 2607071920, 2262029012, 2685067896, 3183342108]
def rem4 (r : BitVec 32) : BitVec 32 := rems.getD (r &&& 15).toNat 0
def nib (r : BitVec 32) : BitVec 32 := (r >>> 4) ^^^ rem4 r
theorem nib_fold (r : BitVec 32) : (r >>> 4) ^^^ rem4 r = nib r := rfl
/-- the register after a byte, by half bytes -/
def stepB (r : BitVec 32) (x : BitVec 8) : BitVec 32 := nib (nib (r ^^^ x.setWidth 32))
/-- the register after some bytes -/
def reg (r : BitVec 32) (bs : List (BitVec 8)) : BitVec 32 := bs.foldl stepB r
def upd (s : BitVec 32) (bs : List (BitVec 8)) : BitVec 32 := ~~~ (reg (~~~ s) bs)
def csum (bs : List (BitVec 8)) : BitVec 32 := upd 0 bs

theorem take_getD {α : Type} (l : List α) (k : Nat) (d : α) (h : k < l.length) : l.take (k + 1) = l.take k ++ [l.getD k d] := by
  rw [List.take_succ_eq_append_getElem h]; simp [List.getD, h]
theorem reg_snoc (r : BitVec 32) (bs : List (BitVec 8)) (k : Nat) (h : k < bs.length) : reg r (bs.take (k + 1)) = stepB (reg r (bs.take k)) (bs.getD k 0) := by
  rw [take_getD bs k 0 h]; simp [reg]
theorem reg_append (r : BitVec 32) (a b : List (BitVec 8)) : reg r (a ++ b) = reg (reg r a) b := by simp [reg]


/-- the register after a bit 0 -/
def T1 (r : BitVec 32) : BitVec 32 := (r >>> 1) ^^^ (if r.getLsbD 0 then 3988292384#32 else 0#32)
def T : Nat → BitVec 32 → BitVec 32
  | 0, r => r
  | n + 1, r => T n (T1 r)
theorem xor4 (a b c d : BitVec 32) : (a ^^^ b) ^^^ (c ^^^ d) = (a ^^^ c) ^^^ (b ^^^ d) := by
  rw [BitVec.xor_assoc, BitVec.xor_assoc, ← BitVec.xor_assoc b c d, BitVec.xor_comm b c, BitVec.xor_assoc c b d]
theorem T1_xor (a b : BitVec 32) : T1 (a ^^^ b) = T1 a ^^^ T1 b := by
  unfold T1
  rw [BitVec.ushiftRight_xor_distrib, BitVec.getLsbD_xor, xor4]
  congr 1
  cases a.getLsbD 0 <;> cases b.getLsbD 0 <;> simp
theorem T_xor (n : Nat) : ∀ a b : BitVec 32, T n (a ^^^ b) = T n a ^^^ T n b := by
  induction n with
  | zero => intro a b; rfl
  | succ n ih => intro a b; show T n (T1 _) = _; rw [T1_xor, ih]; rfl
theorem T_add (m : Nat) : ∀ (n : Nat) (r : BitVec 32), T (m + n) r = T n (T m r) := by
  induction m with
  | zero => intro n r; rw [Nat.zero_add]; rfl
  | succ m ih => intro n r; rw [Nat.succ_add]; show T (m + n) (T1 r) = _; rw [ih]; rfl
theorem T_succ (n : Nat) (r : BitVec 32) : T (n + 1) r = T1 (T n r) := T_add n 1 r
theorem T1_even (y : BitVec 31) : T1 (y.setWidth 32 <<< 1) = y.setWidth 32 := by
  have h : (y.setWidth 32 <<< 1).getLsbD 0 = false := by simp
  unfold T1
  rw [h]
  apply BitVec.eq_of_toNat_eq
  have := y.isLt
  simp [BitVec.toNat_ushiftRight, BitVec.toNat_shiftLeft, Nat.shiftRight_eq_div_pow, Nat.shiftLeft_eq]
  omega
theorem T4_high (y : BitVec 28) : T 4 (y.setWidth 32 <<< 4) = y.setWidth 32 := by
  have hy := y.isLt
  have e : ∀ (n : Nat) (hn : n + 1 ≤ 4), y.setWidth 32 <<< (n + 1) = ((y.setWidth 31 <<< n).setWidth 32) <<< 1 := by
    intro n hn
    apply BitVec.eq_of_toNat_eq
    simp [BitVec.toNat_shiftLeft, Nat.shiftLeft_eq]
    have : n = 0 ∨ n = 1 ∨ n = 2 ∨ n = 3 := by omega
    rcases this with rfl | rfl | rfl | rfl <;> omega
  have e2 : ∀ (n : Nat) (hn : n + 1 ≤ 4), T1 (y.setWidth 32 <<< (n + 1)) = y.setWidth 32 <<< n := by
    intro n hn
    rw [e n hn, T1_even]
    apply BitVec.eq_of_toNat_eq
    simp [BitVec.toNat_shiftLeft, Nat.shiftLeft_eq]
    have : n = 0 ∨ n = 1 ∨ n = 2 ∨ n = 3 := by omega
    rcases this with rfl | rfl | rfl | rfl <;> omega
  show T1 (T1 (T1 (T1 _))) = _
  rw [e2 3 (by omega), e2 2 (by omega), e2 1 (by omega), e2 0 (by omega)]
  rw [BitVec.shiftLeft_zero]
theorem rem4_T : ∀ c : BitVec 4, T 4 (c.setWidth 32) = rems.getD c.toNat 0 := by decide +kernel
theorem nib_T (r : BitVec 32) : nib r = T 4 r := by
  have h1 : r = ((r >>> 4).setWidth 28).setWidth 32 <<< 4 ^^^ (r.setWidth 4).setWidth 32 := by
    apply BitVec.eq_of_getLsbD_eq
    intro i hi
    simp only [BitVec.getLsbD_xor, BitVec.getLsbD_shiftLeft, BitVec.getLsbD_setWidth, BitVec.getLsbD_ushiftRight]
    by_cases h : i < 4
    · simp [h, hi]
    · have e : 4 + (i - 4) = i := by omega
      have h28 : i - 4 < 28 := by omega
      have h32 : i - 4 < 32 := by omega
      simp [h, hi, e, h28, h32]
  have h2 : (r >>> 4) = ((r >>> 4).setWidth 28).setWidth 32 := by
    apply BitVec.eq_of_toNat_eq
    have := r.isLt
    simp [BitVec.toNat_ushiftRight, Nat.shiftRight_eq_div_pow]
    omega
  have h3 : (r &&& 15#32).toNat = (r.setWidth 4).toNat := by
    rw [BitVec.toNat_and, BitVec.toNat_setWidth]; exact Nat.and_two_pow_sub_one_eq_mod _ 4
  unfold nib rem4
  conv => rhs; rw [h1]
  rw [T_xor, T4_high, rem4_T, ← h2, ← h3]
  rfl
theorem stepB_T (r : BitVec 32) (x : BitVec 8) : stepB r x = T 8 (r ^^^ x.setWidth 32) := by
  unfold stepB; rw [nib_T, nib_T, ← T_add]

/-- the reference's step: one bit of a byte -/
def refBit (x : BitVec 8) (r : BitVec 32) (k : Nat) : BitVec 32 :=
  if ((r &&& 1#32) != ((x.setWidth 32 >>> k) &&& 1#32)) then (r >>> 1) ^^^ 3988292384#32 else r >>> 1
def refBits (x : BitVec 8) (r : BitVec 32) (k : Nat) : BitVec 32 := (List.range k).foldl (refBit x) r
theorem refBits_succ (x : BitVec 8) (r : BitVec 32) (k : Nat) : refBits x r (k + 1) = refBit x (refBits x r k) k := by
  simp [refBits, List.range_succ]
theorem and1_eq (r : BitVec 32) : r &&& 1#32 = if r.getLsbD 0 then 1#32 else 0#32 := by
  apply BitVec.eq_of_toNat_eq
  rw [BitVec.toNat_and]
  have e : r.toNat &&& (1#32).toNat = r.toNat % 2 := Nat.and_two_pow_sub_one_eq_mod _ 1
  rw [e, BitVec.getLsbD, Nat.testBit_zero]
  by_cases h : r.toNat % 2 = 1 <;> simp [h]
  omega
theorem xor_flip (p q : BitVec 32) : p ^^^ (q ^^^ p) = q := by
  rw [BitVec.xor_comm q p, ← BitVec.xor_assoc, BitVec.xor_self, BitVec.zero_xor]
theorem refBit_lin (x : BitVec 8) (a b : BitVec 32) (k : Nat) : refBit x (a ^^^ b) k = refBit x a k ^^^ T1 b := by
  unfold refBit T1
  rw [and1_eq, and1_eq, and1_eq, BitVec.getLsbD_xor, BitVec.ushiftRight_xor_distrib]
  cases a.getLsbD 0 <;> cases b.getLsbD 0 <;> cases (BitVec.setWidth 32 x >>> k).getLsbD 0 <;> simp
  all_goals simp only [BitVec.xor_assoc, xor_flip]
  all_goals rw [BitVec.xor_comm (b >>> 1)]
theorem refBits_lin (x : BitVec 8) (a b : BitVec 32) (k : Nat) : refBits x (a ^^^ b) k = refBits x a k ^^^ T k b := by
  induction k with
  | zero => rfl
  | succ k ih => rw [refBits_succ, refBits_succ, ih, refBit_lin, T_succ]
theorem refBits_zero : ∀ x : BitVec 8, refBits x 0 8 = T 8 (x.setWidth 32) := by decide +kernel
theorem refByte_eq (x : BitVec 8) (r : BitVec 32) : refBits x r 8 = stepB r x := by
  have := refBits_lin x 0 r 8
  have e : (0 : BitVec 32) ^^^ r = r := BitVec.zero_xor
  rw [e] at this
  rw [this, refBits_zero, stepB_T, T_xor, BitVec.xor_comm]
end Go.Proofs.YtdmfjmdnkfeljaaDoor

/- Append and Check in plain words: a string, and its check sum in four bytes. No program in sight. -/
namespace Go.Proofs.YtdmfjmdnkfeljaaDoor

/-- a number in four bytes, the least significant first -/
def le4 (s : BitVec 32) : List (BitVec 8) := [s.setWidth 8, (s >>> 8).setWidth 8, (s >>> 16).setWidth 8, (s >>> 24).setWidth 8]
def sealed (bs : List (BitVec 8)) : List (BitVec 8) := bs ++ le4 (csum bs)
theorem le4_take (s : BitVec 32) (k : Nat) (h : k < 4) : (le4 s).take (k + 1) = (le4 s).take k ++ [(s >>> (8 * k)).setWidth 8] := by
  have : k = 0 ∨ k = 1 ∨ k = 2 ∨ k = 3 := by omega
  rcases this with rfl | rfl | rfl | rfl <;> simp [le4]
theorem sealed_length (bs : List (BitVec 8)) : (sealed bs).length = bs.length + 4 := by simp [sealed, le4]
/-- the number in the first k bytes -/
def rd4 (l : List (BitVec 8)) : Nat → BitVec 32
  | 0 => 0#32
  | k + 1 => rd4 l k ||| ((l.getD k 0).setWidth 32 <<< (8 * k))
theorem rd4_toNat (a b c d : BitVec 8) : (rd4 [a, b, c, d] 4).toNat = a.toNat + 256 * b.toNat + 65536 * c.toNat + 16777216 * d.toNat := by
  have ha := a.isLt; have hb := b.isLt; have hc := c.isLt; have hd := d.isLt
  have j : ∀ (i x y : Nat), x < 2 ^ i → x ||| y * 2 ^ i = x + y * 2 ^ i := by
    intro i x y hx
    rw [Nat.or_comm, Nat.mul_comm, ← Nat.two_pow_add_eq_or_of_lt hx, Nat.add_comm]
  show ((((0#32 ||| (a.setWidth 32 <<< 0)) ||| (b.setWidth 32 <<< 8)) ||| (c.setWidth 32 <<< 16)) ||| (d.setWidth 32 <<< 24)).toNat = _
  simp only [BitVec.toNat_or, BitVec.toNat_shiftLeft, BitVec.toNat_setWidth, Nat.shiftLeft_eq]
  have e0 : (0#32).toNat = 0 := rfl
  have e1 : a.toNat % 2 ^ 32 * 2 ^ 0 % 2 ^ 32 = a.toNat := by
    rw [Nat.mod_eq_of_lt (show a.toNat < 2 ^ 32 by omega)]; rw [Nat.pow_zero, Nat.mul_one]; exact Nat.mod_eq_of_lt (by omega)
  have e2 : b.toNat % 2 ^ 32 * 2 ^ 8 % 2 ^ 32 = b.toNat * 2 ^ 8 := by
    rw [Nat.mod_eq_of_lt (show b.toNat < 2 ^ 32 by omega)]; exact Nat.mod_eq_of_lt (by omega)
  have e3 : c.toNat % 2 ^ 32 * 2 ^ 16 % 2 ^ 32 = c.toNat * 2 ^ 16 := by
    rw [Nat.mod_eq_of_lt (show c.toNat < 2 ^ 32 by omega)]; exact Nat.mod_eq_of_lt (by omega)
  have e4 : d.toNat % 2 ^ 32 * 2 ^ 24 % 2 ^ 32 = d.toNat * 2 ^ 24 := by
    rw [Nat.mod_eq_of_lt (show d.toNat < 2 ^ 32 by omega)]; exact Nat.mod_eq_of_lt (by omega)
  rw [e0, e1, e2, e3, e4, Nat.zero_or, j 8 _ _ ha, j 16 _ _ (by omega), j 24 _ _ (by omega)]
  omega
theorem rd4_le4 (s : BitVec 32) : rd4 (le4 s) 4 = s := by
  apply BitVec.eq_of_toNat_eq
  have := s.isLt
  unfold le4
  rw [rd4_toNat]
  simp only [BitVec.toNat_setWidth, BitVec.toNat_ushiftRight, Nat.shiftRight_eq_div_pow]
  omega
theorem le4_rd4 (l : List (BitVec 8)) (h : l.length = 4) : le4 (rd4 l 4) = l := by
  match l, h with
  | [a, b, c, d], _ =>
    have e := rd4_toNat a b c d
    have ha := a.isLt; have hb := b.isLt; have hc := c.isLt; have hd := d.isLt
    unfold le4
    simp only [List.cons.injEq, and_true]
    refine ⟨?_, ?_, ?_, ?_⟩ <;> apply BitVec.eq_of_toNat_eq <;>
      simp only [BitVec.toNat_setWidth, BitVec.toNat_ushiftRight, Nat.shiftRight_eq_div_pow, e] <;> omega
/-- what Check asks -/
def isSealed (bs : List (BitVec 8)) : Bool := rd4 (bs.drop (bs.length - 4)) 4 == csum (bs.take (bs.length - 4))
theorem isSealed_iff (bs : List (BitVec 8)) (h : 4 ≤ bs.length) : isSealed bs = true ↔ bs = sealed (bs.take (bs.length - 4)) := by
  unfold isSealed sealed
  rw [beq_iff_eq]
  have hl : (bs.drop (bs.length - 4)).length = 4 := by rw [List.length_drop]; omega
  constructor
  · intro e
    rw [← e, le4_rd4 _ hl, List.take_append_drop]
  · intro e
    have e2 : bs.drop (bs.length - 4) = le4 (csum (bs.take (bs.length - 4))) := by
      have t := List.take_append_drop (bs.length - 4) bs
      exact List.append_cancel_left (t.trans e)
    rw [e2, rd4_le4]
theorem isSealed_sealed (bs : List (BitVec 8)) : isSealed (sealed bs) = true := by
  have h := sealed_length bs
  rw [isSealed_iff _ (by omega), h]
  have : (sealed bs).take (bs.length + 4 - 4) = bs := by
    rw [Nat.add_sub_cancel]; unfold sealed; simp
  rw [this]
end Go.Proofs.YtdmfjmdnkfeljaaDoor

/- Packets, symbols and scanners in plain words. No program in sight. -/
namespace Go.Proofs.YtdmfjmdnkfeljaaDoor

abbrev Byte := BitVec 8
/-- the valid symbols, in ascending order -/
def vs : List Byte := [7, 11, 13, 14, 19, 21, 22, 25, 26, 28, 35, 37, 38, 41, 42, 44, 49, 50, 52, 56]
def sym (n : Nat) : Byte := vs.getD n 0
/-- the place of a symbol; 20: it is not valid -/
def idx (s : Byte) : Nat := vs.findIdx (· == s)
def isData (s : Byte) : Bool := decide (idx s < 16)
theorem idx_le : ∀ s : Byte, idx s ≤ 20 := by decide +kernel
theorem idx_sym : ∀ n : Fin 20, idx (sym n.val) = n.val := by decide +kernel
theorem sym_idx : ∀ s : Byte, idx s < 20 → sym (idx s) = s := by decide +kernel
theorem idx_sym_lt {n : Nat} (h : n < 20) : idx (sym n) = n := idx_sym ⟨n, h⟩
def encS (bs : List Byte) : List Byte := bs.flatMap fun x => [sym (x.toNat / 16), sym (x.toNat % 16)]
theorem encS_cons (x : Byte) (bs : List Byte) : encS (x :: bs) = sym (x.toNat / 16) :: sym (x.toNat % 16) :: encS bs := rfl
theorem encS_app (a b : List Byte) : encS (a ++ b) = encS a ++ encS b := by unfold encS; rw [List.flatMap_append]
theorem encS_length : ∀ bs : List Byte, (encS bs).length = 2 * bs.length
  | [] => rfl
  | x :: bs => by rw [encS_cons, List.length_cons, List.length_cons, encS_length bs, List.length_cons]; omega
theorem isData_sym {n : Nat} (h : n < 16) : isData (sym n) = true := by unfold isData; rw [idx_sym_lt (by omega)]; simpa using h
theorem encS_data : ∀ bs : List Byte, ∀ s ∈ encS bs, isData s = true
  | [], s, h => by cases h
  | x :: bs, s, h => by
    have hx := x.isLt
    rw [encS_cons] at h
    rcases List.mem_cons.1 h with rfl | h
    · exact isData_sym (by omega)
    · rcases List.mem_cons.1 h with rfl | h
      · exact isData_sym (by omega)
      · exact encS_data bs s h
/-- two symbols a byte -/
def decB : List Byte → List Byte
  | a :: b :: l => BitVec.ofNat 8 (16 * idx a + idx b) :: decB l
  | _ => []
theorem decB_encS : ∀ bs : List Byte, decB (encS bs) = bs
  | [] => rfl
  | x :: bs => by
    have hx := x.isLt
    rw [encS_cons]
    show BitVec.ofNat 8 (16 * idx _ + idx _) :: decB (encS bs) = _
    rw [decB_encS bs, idx_sym_lt (by omega), idx_sym_lt (by omega)]
    congr 1
    apply BitVec.eq_of_toNat_eq
    rw [BitVec.toNat_ofNat]
    omega
theorem encS_decB : ∀ ss : List Byte, (∀ s ∈ ss, isData s = true) → ss.length % 2 = 0 → encS (decB ss) = ss
  | [], _, _ => rfl
  | [a], _, h => by simp at h
  | a :: b :: l, hd, h => by
    have ha : idx a < 16 := by simpa [isData] using hd a (by simp)
    have hb : idx b < 16 := by simpa [isData] using hd b (by simp)
    show encS (BitVec.ofNat 8 (16 * idx a + idx b) :: decB l) = _
    have e : (BitVec.ofNat 8 (16 * idx a + idx b)).toNat = 16 * idx a + idx b := by rw [BitVec.toNat_ofNat]; omega
    rw [encS_cons, e, encS_decB l (fun s hs => hd s (by simp [hs])) (by simp only [List.length_cons] at h; omega)]
    have e1 : (16 * idx a + idx b) / 16 = idx a := by omega
    have e2 : (16 * idx a + idx b) % 16 = idx b := by omega
    rw [e1, e2, sym_idx a (by omega), sym_idx b (by omega)]
theorem decB_length : ∀ ss : List Byte, (decB ss).length = ss.length / 2
  | [] => rfl
  | [_] => by simp [decB]
  | a :: b :: l => by show (decB l).length + 1 = (l.length + 2) / 2; rw [decB_length l]; omega
theorem decB_app : ∀ (ss : List Byte) (a b : Byte), ss.length % 2 = 0 → decB (ss ++ [a, b]) = decB ss ++ [BitVec.ofNat 8 (16 * idx a + idx b)]
  | [], _, _, _ => rfl
  | [x], _, _, h => by simp at h
  | x :: y :: l, a, b, h => by
    show _ :: decB (l ++ [a, b]) = _
    rw [decB_app l a b (by simp only [List.length_cons] at h; omega)]; rfl
/-- the bytes that symbols stand for, an index, an error number -/
def decS (ss : List Byte) : List Byte × Int × Int :=
  match ss.findIdx? fun s => !isData s with
  | some i => ([], (i : Int), 3)
  | none => if ss.length % 2 = 0 then (decB ss, -1, 0) else ([], (ss.length : Int), 4)
theorem decS_good {ss : List Byte} (hd : ∀ s ∈ ss, isData s = true) (h : ss.length % 2 = 0) : decS ss = (decB ss, -1, 0) := by
  unfold decS
  rw [List.findIdx?_eq_none_iff.2 fun s hs => by simp [hd s hs]]
  exact if_pos h
theorem decS_odd {ss : List Byte} (hd : ∀ s ∈ ss, isData s = true) (h : ¬ ss.length % 2 = 0) : decS ss = ([], (ss.length : Int), 4) := by
  unfold decS
  rw [List.findIdx?_eq_none_iff.2 fun s hs => by simp [hd s hs]]
  exact if_neg h
theorem decS_bad {ss : List Byte} {i : Nat} (h : ss.findIdx? (fun s => !isData s) = some i) : decS ss = ([], (i : Int), 3) := by
  unfold decS; rw [h]
theorem decS_encS (bs : List Byte) : decS (encS bs) = (bs, -1, 0) := by
  rw [decS_good (encS_data bs) (by rw [encS_length]; omega), decB_encS]

/-- a packet -/
structure Pk where
  kind : Byte
  cls : Int
  number : Int
  value : Int
  pay : List Byte
deriving DecidableEq
def Pk.zero : Pk := ⟨0, 0, 0, 0, []⟩
def validP (p : Pk) : Bool := !(p.kind == 0) && decide (0 ≤ p.cls) && decide (p.cls < 4) && decide (0 ≤ p.number) && decide (p.number < 1099511627776) && decide (0 ≤ p.value) && decide (p.value < 1099511627776) && decide (p.pay.length ≤ 64)
structure Good (p : Pk) : Prop where
  kind : p.kind ≠ 0
  c0 : 0 ≤ p.cls
  c1 : p.cls < 4
  n0 : 0 ≤ p.number
  n1 : p.number < 1099511627776
  v0 : 0 ≤ p.value
  v1 : p.value < 1099511627776
  pay : p.pay.length ≤ 64
theorem validP_iff {p : Pk} : validP p = true ↔ Good p := by
  unfold validP
  simp only [Bool.and_eq_true, decide_eq_true_eq, Bool.not_eq_true', beq_eq_false_iff_ne]
  exact ⟨fun ⟨⟨⟨⟨⟨⟨⟨a, b⟩, c⟩, d⟩, e⟩, f⟩, g⟩, h⟩ => ⟨a, b, c, d, e, f, g, h⟩, fun ⟨a, b, c, d, e, f, g, h⟩ => ⟨⟨⟨⟨⟨⟨⟨a, b⟩, c⟩, d⟩, e⟩, f⟩, g⟩, h⟩⟩
/-- a number in five bytes, the most significant first -/
def dig (n k : Nat) : Byte := BitVec.ofNat 8 (n / 2 ^ (8 * (4 - k)))
def five (n : Nat) : List Byte := [dig n 0, dig n 1, dig n 2, dig n 3, dig n 4]
theorem five_take (n k : Nat) (h : k < 5) : (five n).take (k + 1) = (five n).take k ++ [dig n k] := by
  have : k = 0 ∨ k = 1 ∨ k = 2 ∨ k = 3 ∨ k = 4 := by omega
  rcases this with rfl | rfl | rfl | rfl | rfl <;> rfl
/-- the number in the first k bytes -/
def num (l : List Byte) : Nat → Nat
  | 0 => 0
  | k + 1 => 256 * num l k + (l.getD k 0).toNat
theorem num_lt (l : List Byte) : ∀ k, num l k < 256 ^ k
  | 0 => by simp [num]
  | k + 1 => by
    have h1 := num_lt l k
    have h2 := (l.getD k 0).isLt
    show 256 * num l k + _ < 256 ^ (k + 1)
    rw [Nat.pow_succ]
    have : num l k + 1 ≤ 256 ^ k := h1
    have : (num l k + 1) * 256 ≤ 256 ^ k * 256 := Nat.mul_le_mul_right _ this
    omega
theorem num_five (n : Nat) (h : n < 1099511627776) (l : List Byte) : num (five n ++ l) 5 = n := by
  show 256 * (256 * (256 * (256 * (256 * 0 + (dig n 0).toNat) + (dig n 1).toNat) + (dig n 2).toNat) + (dig n 3).toNat) + (dig n 4).toNat = n
  simp only [dig, BitVec.toNat_ofNat, Nat.reduceSub, Nat.reduceMul, Nat.reducePow]
  omega
theorem num_append (l r : List Byte) : ∀ k, k ≤ l.length → num (l ++ r) k = num l k
  | 0, _ => rfl
  | k + 1, h => by
    show 256 * num (l ++ r) k + _ = 256 * num l k + _
    rw [num_append l r k (by omega)]
    congr 2
    simp [List.getD, List.getElem?_append_left (show k < l.length by omega)]
theorem five_num (l : List Byte) (h : l.length = 5) : five (num l 5) = l := by
  match l, h with
  | [a, b, c, d, e], _ =>
    have ha := a.isLt; have hb := b.isLt; have hc := c.isLt; have hd := d.isLt; have he := e.isLt
    have hn : num [a, b, c, d, e] 5 = 256 * (256 * (256 * (256 * (256 * 0 + a.toNat) + b.toNat) + c.toNat) + d.toNat) + e.toNat := rfl
    rw [hn]
    unfold five dig
    simp only [Nat.reduceSub, Nat.reduceMul, Nat.reducePow]
    have k : ∀ (n : Nat) (x : Byte), n % 256 = x.toNat → BitVec.ofNat 8 n = x := fun n x hx => by
      apply BitVec.eq_of_toNat_eq; rw [BitVec.toNat_ofNat]; exact hx
    rw [k _ a (by omega), k _ b (by omega), k _ c (by omega), k _ d (by omega), k _ e (by omega)]
def headP (p : Pk) : List Byte := [p.kind, BitVec.ofInt 8 p.cls] ++ five p.number.toNat ++ five p.value.toNat ++ [BitVec.ofNat 8 p.pay.length]
theorem headP_length (p : Pk) : (headP p).length = 13 := rfl
def bodyP (p : Pk) : List Byte := headP p ++ p.pay
def encP (p : Pk) : List Byte := sealed (bodyP p)
theorem encP_length (p : Pk) : (encP p).length = p.pay.length + 17 := by unfold encP bodyP; rw [sealed_length, List.length_append, headP_length]; omega
/-- the packet in the bytes of a body -/
def ofBody (b : List Byte) : Pk := ⟨b.getD 0 0, ((b.getD 1 0).toNat : Int), (num (b.drop 2) 5 : Nat), (num (b.drop 7) 5 : Nat), b.drop 13⟩
def decP (b : List Byte) : Pk × Int :=
  if b.length < 17 then (Pk.zero, 4)
  else if 64 < (b.getD 12 0).toNat ∨ (b.getD 12 0).toNat + 17 ≠ b.length then (Pk.zero, 3)
  else if isSealed b = false then (Pk.zero, 9)
  else if validP (ofBody (b.take (b.length - 4))) = false then (Pk.zero, 1)
  else (ofBody (b.take (b.length - 4)), 0)
theorem decP_short {b : List Byte} (h : b.length < 17) : decP b = (Pk.zero, 4) := by unfold decP; rw [if_pos h]
theorem decP_form {b : List Byte} (h : 17 ≤ b.length) (h2 : 64 < (b.getD 12 0).toNat ∨ (b.getD 12 0).toNat + 17 ≠ b.length) : decP b = (Pk.zero, 3) := by
  unfold decP; rw [if_neg (by omega), if_pos h2]
theorem decP_sum {b : List Byte} (h : 17 ≤ b.length) (h2 : (b.getD 12 0).toNat ≤ 64 ∧ (b.getD 12 0).toNat + 17 = b.length) (h3 : isSealed b = false) : decP b = (Pk.zero, 9) := by
  unfold decP; rw [if_neg (by omega), if_neg (by omega), if_pos h3]
theorem decP_arg {b : List Byte} (h : 17 ≤ b.length) (h2 : (b.getD 12 0).toNat ≤ 64 ∧ (b.getD 12 0).toNat + 17 = b.length) (h3 : isSealed b = true) (h4 : validP (ofBody (b.take (b.length - 4))) = false) : decP b = (Pk.zero, 1) := by
  unfold decP; rw [if_neg (by omega), if_neg (by omega), if_neg (by simp [h3]), if_pos h4]
theorem decP_ok {b : List Byte} (h : 17 ≤ b.length) (h2 : (b.getD 12 0).toNat ≤ 64 ∧ (b.getD 12 0).toNat + 17 = b.length) (h3 : isSealed b = true) (h4 : validP (ofBody (b.take (b.length - 4))) = true) : decP b = (ofBody (b.take (b.length - 4)), 0) := by
  unfold decP; rw [if_neg (by omega), if_neg (by omega), if_neg (by simp [h3]), if_neg (by simp [h4])]
/-- every case of decP -/
theorem decP_cases (b : List Byte) : (b.length < 17 ∧ decP b = (Pk.zero, 4)) ∨ (17 ≤ b.length ∧ (64 < (b.getD 12 0).toNat ∨ (b.getD 12 0).toNat + 17 ≠ b.length) ∧ decP b = (Pk.zero, 3)) ∨
    (17 ≤ b.length ∧ ((b.getD 12 0).toNat ≤ 64 ∧ (b.getD 12 0).toNat + 17 = b.length) ∧ ((isSealed b = false ∧ decP b = (Pk.zero, 9)) ∨ (isSealed b = true ∧
      ((validP (ofBody (b.take (b.length - 4))) = false ∧ decP b = (Pk.zero, 1)) ∨ (validP (ofBody (b.take (b.length - 4))) = true ∧ decP b = (ofBody (b.take (b.length - 4)), 0)))))) := by
  by_cases h : b.length < 17
  · exact .inl ⟨h, decP_short h⟩
  · by_cases h2 : 64 < (b.getD 12 0).toNat ∨ (b.getD 12 0).toNat + 17 ≠ b.length
    · exact .inr (.inl ⟨by omega, h2, decP_form (by omega) h2⟩)
    · refine .inr (.inr ⟨by omega, by omega, ?_⟩)
      cases h3 : isSealed b with
      | false => exact .inl ⟨rfl, decP_sum (by omega) (by omega) h3⟩
      | true =>
        refine .inr ⟨rfl, ?_⟩
        cases h4 : validP (ofBody (b.take (b.length - 4))) with
        | false => exact .inl ⟨rfl, decP_arg (by omega) (by omega) h3 h4⟩
        | true => exact .inr ⟨rfl, decP_ok (by omega) (by omega) h3 h4⟩
theorem getD_app_left {α : Type} {l r : List α} {k : Nat} {d : α} (h : k < l.length) : (l ++ r).getD k d = l.getD k d := by
  simp [List.getD, List.getElem?_append_left h]
theorem encP_12 (p : Pk) (h : p.pay.length ≤ 64) : ((encP p).getD 12 0).toNat = p.pay.length := by
  unfold encP sealed bodyP
  rw [List.append_assoc, getD_app_left (by rw [headP_length]; omega)]
  show (BitVec.ofNat 8 p.pay.length).toNat = _
  rw [BitVec.toNat_ofNat]; omega
theorem encP_body (p : Pk) : (encP p).take ((encP p).length - 4) = bodyP p := by
  unfold encP
  rw [sealed_length, Nat.add_sub_cancel]
  unfold sealed
  exact List.take_left
theorem ofBody_bodyP {p : Pk} (h : Good p) : ofBody (bodyP p) = p := by
  obtain ⟨k, c, n, v, pay⟩ := p
  have h1 := h.c0; have h2 := h.c1; have h3 := h.n0; have h4 := h.n1; have h5 := h.v0; have h6 := h.v1
  dsimp only at h1 h2 h3 h4 h5 h6
  have e1 : (num (five n.toNat ++ (five v.toNat ++ [BitVec.ofNat 8 pay.length] ++ pay)) 5 : Nat) = n.toNat := num_five _ (by omega) _
  have e2 : (num (five v.toNat ++ ([BitVec.ofNat 8 pay.length] ++ pay)) 5 : Nat) = v.toNat := num_five _ (by omega) _
  show (⟨k, ((BitVec.ofInt 8 c).toNat : Int), (num (five n.toNat ++ (five v.toNat ++ [BitVec.ofNat 8 pay.length] ++ pay)) 5 : Nat), (num (five v.toNat ++ ([BitVec.ofNat 8 pay.length] ++ pay)) 5 : Nat), pay⟩ : Pk) = _
  rw [e1, e2]
  have e3 : ((BitVec.ofInt 8 c).toNat : Int) = c := by
    rw [BitVec.toNat_ofInt]
    omega
  rw [e3, Int.toNat_of_nonneg h3, Int.toNat_of_nonneg h5]
theorem decP_encP {p : Pk} (h : Good p) : decP (encP p) = (p, 0) := by
  have hl := encP_length p
  have h12 := encP_12 p h.pay
  have hp := h.pay
  rw [decP_ok (b := encP p) (by omega) (by rw [h12]; omega) (isSealed_sealed _) (by rw [encP_body, ofBody_bodyP h, validP_iff]; exact h), encP_body, ofBody_bodyP h]
theorem bodyP_ofBody {b : List Byte} (h : 13 ≤ b.length) (h12 : (b.getD 12 0).toNat + 13 = b.length) : bodyP (ofBody b) = b := by
  match b, h with
  | a0 :: a1 :: a2 :: a3 :: a4 :: a5 :: a6 :: a7 :: a8 :: a9 :: a10 :: a11 :: a12 :: l, _ =>
    have h12' : a12.toNat = l.length := by
      have : a12.toNat + 13 = l.length + 1 + 1 + 1 + 1 + 1 + 1 + 1 + 1 + 1 + 1 + 1 + 1 + 1 := h12
      omega
    show [a0, BitVec.ofInt 8 ((a1.toNat : Nat) : Int)] ++ five ((num ([a2, a3, a4, a5, a6] ++ (a7 :: a8 :: a9 :: a10 :: a11 :: a12 :: l)) 5 : Nat) : Int).toNat ++ five ((num ([a7, a8, a9, a10, a11] ++ (a12 :: l)) 5 : Nat) : Int).toNat ++ [BitVec.ofNat 8 l.length] ++ l = _
    rw [Int.toNat_natCast, Int.toNat_natCast, num_append _ _ 5 (Nat.le_refl _), num_append _ _ 5 (Nat.le_refl _), five_num _ rfl, five_num _ rfl, ← h12']
    have e1 : BitVec.ofInt 8 ((a1.toNat : Nat) : Int) = a1 := by
      apply BitVec.eq_of_toNat_eq
      rw [BitVec.toNat_ofInt]
      have := a1.isLt
      omega
    have e2 : BitVec.ofNat 8 a12.toNat = a12 := by apply BitVec.eq_of_toNat_eq; rw [BitVec.toNat_ofNat]; have := a12.isLt; omega
    rw [e1, e2]; rfl
theorem decP_good {b : List Byte} {p : Pk} (h : decP b = (p, 0)) : Good p ∧ encP p = b := by
  rcases decP_cases b with ⟨_, e⟩ | ⟨_, _, e⟩ | ⟨hl, ⟨h1, h2⟩, ⟨_, e⟩ | ⟨hs, ⟨_, e⟩ | ⟨hv, e⟩⟩⟩
  all_goals rw [h] at e
  · have := congrArg Prod.snd e; simp at this
  · have := congrArg Prod.snd e; simp at this
  · have := congrArg Prod.snd e; simp at this
  · have := congrArg Prod.snd e; simp at this
  · obtain rfl : p = _ := congrArg Prod.fst e
    refine ⟨validP_iff.1 hv, ?_⟩
    have ht : (b.take (b.length - 4)).length = b.length - 4 := by rw [List.length_take]; omega
    have hb : bodyP (ofBody (b.take (b.length - 4))) = b.take (b.length - 4) := by
      refine bodyP_ofBody (by omega) ?_
      have : (b.take (b.length - 4)).getD 12 0 = b.getD 12 0 := by unfold List.getD; rw [List.getElem?_take, if_pos (show 12 < b.length - 4 by omega)]
      rw [this, ht]; omega
    unfold encP
    rw [hb]
    exact ((isSealed_iff b (by omega)).1 hs).symm
/-- the symbols of a packet -/
def symP (p : Pk) : List Byte := 49 :: (encS (encP p) ++ [50])
theorem symP_length (p : Pk) : (symP p).length = 2 * p.pay.length + 36 := by unfold symP; rw [List.length_cons, List.length_append, encS_length, encP_length]; simp; omega
/-- a scanner -/
structure Sc where
  inside : Bool
  data : List Byte
  bad : Nat
def Sc.new : Sc := ⟨false, [], 0⟩
def Sc.push (s : Sc) (x : Byte) : Sc × Option Pk :=
  if x = 49 then (⟨true, [], if s.inside then s.bad + 1 else s.bad⟩, none)
  else if s.inside = false then (s, none)
  else if isData x = true ∧ s.data.length < 162 then (⟨true, s.data ++ [x], s.bad⟩, none)
  else if x = 50 ∧ (decS s.data).2.2 = 0 ∧ (decP (decS s.data).1).2 = 0 then (⟨false, [], s.bad⟩, some (decP (decS s.data).1).1)
  else (⟨false, [], s.bad + 1⟩, none)
/-- what a scanner finds in symbols -/
def Sc.scan (s : Sc) : List Byte → Sc × List Pk
  | [] => (s, [])
  | x :: l => (((s.push x).1.scan l).1, (s.push x).2.toList ++ ((s.push x).1.scan l).2)
theorem Sc.scan_app (s : Sc) : ∀ (a b : List Byte), s.scan (a ++ b) = (((s.scan a).1.scan b).1, (s.scan a).2 ++ ((s.scan a).1.scan b).2)
  | [], b => rfl
  | x :: l, b => by
    have h := Sc.scan_app (s.push x).1 l b
    have e1 : s.scan (x :: (l ++ b)) = (((s.push x).1.scan (l ++ b)).1, (s.push x).2.toList ++ ((s.push x).1.scan (l ++ b)).2) := rfl
    have e2 : s.scan (x :: l) = (((s.push x).1.scan l).1, (s.push x).2.toList ++ ((s.push x).1.scan l).2) := rfl
    rw [List.cons_append, e1, e2, h, List.append_assoc]
end Go.Proofs.YtdmfjmdnkfeljaaDoor

/- What a scanner finds: the laws of scanning in plain words. No program in sight. -/
namespace Go.Proofs.YtdmfjmdnkfeljaaDoor

theorem data_ne : ∀ x : Byte, isData x = true → x ≠ 49 ∧ x ≠ 50 := by decide +kernel
theorem scan_data (d : List Byte) (b : Nat) : ∀ (ds : List Byte), (∀ s ∈ ds, isData s = true) → d.length + ds.length ≤ 162 → (⟨true, d, b⟩ : Sc).scan ds = (⟨true, d ++ ds, b⟩, [])
  | [], _, _ => by simp [Sc.scan]
  | x :: l, hd, hl => by
    have hx := hd x (by simp)
    simp only [List.length_cons] at hl
    have hp : (⟨true, d, b⟩ : Sc).push x = (⟨true, d ++ [x], b⟩, none) := by
      unfold Sc.push
      rw [if_neg (data_ne x hx).1, if_neg (by simp), if_pos ⟨hx, by show d.length < 162; omega⟩]
    have h := scan_data (d ++ [x]) b l (fun s hs => hd s (by simp [hs])) (by simp; omega)
    show (((⟨true, d, b⟩ : Sc).push x).1.scan l |>.1, ((⟨true, d, b⟩ : Sc).push x).2.toList ++ (((⟨true, d, b⟩ : Sc).push x).1.scan l).2) = _
    rw [hp, h, List.append_assoc]; rfl
theorem scan_out (s : Sc) (h : s.inside = false) : ∀ l : List Byte, (∀ x ∈ l, x ≠ 49) → s.scan l = (s, [])
  | [], _ => rfl
  | x :: l, hx => by
    have hp : s.push x = (s, none) := by
      unfold Sc.push
      rw [if_neg (hx x (by simp)), if_pos h]
    show ((s.push x).1.scan l |>.1, (s.push x).2.toList ++ ((s.push x).1.scan l).2) = _
    rw [hp, scan_out s h l fun y hy => hx y (by simp [hy])]; rfl
theorem push_start (s : Sc) : s.push 49 = (⟨true, [], if s.inside then s.bad + 1 else s.bad⟩, none) := by unfold Sc.push; rw [if_pos rfl]
theorem scan_cons (s : Sc) (x : Byte) (l : List Byte) : s.scan (x :: l) = (((s.push x).1.scan l).1, (s.push x).2.toList ++ ((s.push x).1.scan l).2) := rfl
/-- whatever was before, the packet is found -/
theorem scan_sym {p : Pk} (h : Good p) (s : Sc) : s.scan (symP p) = (⟨false, [], if s.inside then s.bad + 1 else s.bad⟩, [p]) := by
  have hp := h.pay
  have hl : (encS (encP p)).length ≤ 162 := by rw [encS_length, encP_length]; omega
  unfold symP
  rw [scan_cons, push_start]
  generalize (if s.inside then s.bad + 1 else s.bad) = b
  have hd := scan_data [] b (encS (encP p)) (encS_data _) (by simpa using hl)
  rw [Sc.scan_app, hd, List.nil_append]
  have hq : (⟨true, encS (encP p), b⟩ : Sc).push 50 = (⟨false, [], b⟩, some p) := by
    unfold Sc.push
    have e1 : decS (encS (encP p)) = (encP p, -1, 0) := decS_encS _
    rw [if_neg (by decide), if_neg (by simp), if_neg (fun hh => absurd hh.1 (by decide))]
    show (if (50 : Byte) = 50 ∧ (decS (encS (encP p))).2.2 = 0 ∧ (decP (decS (encS (encP p))).1).2 = 0 then ((⟨false, [], b⟩ : Sc), some (decP (decS (encS (encP p))).1).1) else (⟨false, [], b + 1⟩, none)) = _
    rw [e1]
    show (if (50 : Byte) = 50 ∧ (0 : Int) = 0 ∧ (decP (encP p)).2 = 0 then ((⟨false, [], b⟩ : Sc), some (decP (encP p)).1) else (⟨false, [], b + 1⟩, none)) = _
    rw [decP_encP h]
    rfl
  rw [scan_cons, hq]; rfl
theorem scan_found {p : Pk} (h : Good p) (l : List Byte) : (Sc.new.scan (l ++ symP p)).2 = (Sc.new.scan l).2 ++ [p] ∧ ((Sc.new.scan (l ++ symP p)).1.bad = (Sc.new.scan l).1.bad ∨ (Sc.new.scan (l ++ symP p)).1.bad = (Sc.new.scan l).1.bad + 1) := by
  rw [Sc.scan_app, scan_sym h]
  refine ⟨rfl, ?_⟩
  show (if _ then _ else _) = _ ∨ (if _ then _ else _) = _
  cases (Sc.new.scan l).1.inside <;> simp
/-- packets one behind another, with idle symbols before each -/
def stream : List (Nat × Pk) → List Byte
  | [] => []
  | (n, p) :: l => List.replicate n 52 ++ symP p ++ stream l
theorem scan_stream (b : Nat) : ∀ (l : List (Nat × Pk)), (∀ x ∈ l, Good x.2) → (⟨false, [], b⟩ : Sc).scan (stream l) = (⟨false, [], b⟩, l.map (·.2))
  | [], _ => rfl
  | (n, p) :: l, h => by
    unfold stream
    rw [Sc.scan_app, Sc.scan_app, scan_out ⟨false, [], b⟩ rfl (List.replicate n 52) (fun x hx => by rw [List.eq_of_mem_replicate hx]; decide), scan_sym (h (n, p) (by simp))]
    show (((⟨false, [], b⟩ : Sc).scan (stream l)).1, ([] ++ [p]) ++ ((⟨false, [], b⟩ : Sc).scan (stream l)).2) = _
    rw [scan_stream b l fun x hx => h x (by simp [hx])]; rfl
/-- a bit of a symbol inverted -/
def flipS (x : Byte) (k : Nat) : Byte := x ^^^ (1#8 <<< (5 - k))
theorem flipS_bad : ∀ (n : Fin 20) (k : Fin 6), idx (flipS (sym n.val) k.val) = 20 := by decide +kernel
theorem flipS_bad' {x : Byte} (h : idx x < 20) {k : Nat} (hk : k < 6) : idx (flipS x k) = 20 := by
  have := flipS_bad ⟨idx x, h⟩ ⟨k, hk⟩
  rwa [sym_idx x h] at this
theorem bad_ne : ∀ x : Byte, idx x = 20 → x ≠ 49 ∧ x ≠ 50 ∧ isData x = false := by decide +kernel
/-- an invalid symbol in the place of one of a packet's: nothing is found, and the scanner is outside -/
theorem scan_broken {p : Pk} (h : Good p) {i : Nat} (hi : i < (symP p).length) (y : Byte) (hy : idx y = 20) : ∃ b, b ≤ 1 ∧ Sc.new.scan ((symP p).set i y) = (⟨false, [], b⟩, []) := by
  obtain ⟨h1, h2, h3⟩ := bad_ne y hy
  have hp := h.pay
  have hl : (encS (encP p)).length ≤ 162 := by rw [encS_length, encP_length]; omega
  have h49 : ∀ x ∈ encS (encP p) ++ [50], x ≠ (49 : Byte) := fun x hx => by
    rcases List.mem_append.1 hx with hx | hx
    · exact (data_ne x (encS_data _ x hx)).1
    · rw [List.mem_singleton.1 hx]; decide
  have hbad : ∀ (d : List Byte), (⟨true, d, 0⟩ : Sc).push y = (⟨false, [], 1⟩, none) := fun d => by
    unfold Sc.push
    rw [if_neg h1, if_neg (by simp), if_neg (fun hh => by rw [h3] at hh; cases hh.1), if_neg (fun hh => h2 hh.1)]
  have hset : ∀ x ∈ (encS (encP p) ++ [50]), ∀ n, x ∈ (encS (encP p) ++ [50]).drop n → x ≠ (49 : Byte) := fun x hx _ _ => h49 x hx
  match i, hi with
  | 0, _ =>
    refine ⟨0, by omega, ?_⟩
    show Sc.new.scan (y :: (encS (encP p) ++ [50])) = _
    exact scan_out Sc.new rfl _ fun x hx => by
      rcases List.mem_cons.1 hx with rfl | hx
      · exact h1
      · exact h49 x hx
  | i + 1, hi =>
    refine ⟨1, by omega, ?_⟩
    show Sc.new.scan (49 :: (encS (encP p) ++ [50]).set i y) = _
    have hi' : i < (encS (encP p) ++ [50]).length := by unfold symP at hi; simpa using hi
    rw [List.set_eq_take_append_cons_drop, if_pos hi', scan_cons, push_start, Sc.scan_app]
    have hil : i ≤ (encS (encP p)).length := by simp at hi'; omega
    have ht : (encS (encP p) ++ [50]).take i = (encS (encP p)).take i := by rw [List.take_append_of_le_length hil]
    rw [ht]
    have hd := scan_data [] 0 ((encS (encP p)).take i) (fun s hs => encS_data _ s (List.mem_of_mem_take hs)) (by simp; omega)
    show (((⟨true, [], 0⟩ : Sc).scan _).1.scan _ |>.1, [] ++ (((⟨true, [], 0⟩ : Sc).scan _).2 ++ (((⟨true, [], 0⟩ : Sc).scan _).1.scan _).2)) = _
    rw [hd, scan_cons]
    show ((((⟨true, [] ++ (encS (encP p)).take i, 0⟩ : Sc).push y).1.scan _).1, [] ++ ([] ++ (((⟨true, [] ++ (encS (encP p)).take i, 0⟩ : Sc).push y).2.toList ++ (((⟨true, [] ++ (encS (encP p)).take i, 0⟩ : Sc).push y).1.scan _).2))) = _
    rw [hbad, scan_out ⟨false, [], 1⟩ rfl _ fun x hx => h49 x (List.mem_of_mem_drop hx)]
    rfl
theorem scan_flip {p q : Pk} (h : Good p) (hq : Good q) {i : Nat} (hi : i < (symP p).length) (y : Byte) (hy : idx y = 20) : (Sc.new.scan ((symP p).set i y ++ symP q)).2 = [q] ∧ (Sc.new.scan ((symP p).set i y ++ symP q)).1.bad ≤ 1 := by
  obtain ⟨b, hb, hs⟩ := scan_broken h hi y hy
  rw [Sc.scan_app, hs, scan_sym hq]
  exact ⟨rfl, hb⟩
/-- every symbol of a packet is valid -/
theorem sym_valid (p : Pk) : ∀ x ∈ symP p, idx x < 20 := fun x hx => by
  unfold symP at hx
  rcases List.mem_cons.1 hx with rfl | hx
  · decide
  · rcases List.mem_append.1 hx with hx | hx
    · have := encS_data _ x hx
      unfold isData at this
      have h16 : idx x < 16 := by simpa using this
      omega
    · rw [List.mem_singleton.1 hx]; decide
/-! parts and more -/
theorem dec_take {p : Pk} (h : Good p) {k : Nat} (hk : k < (encP p).length) : (decP ((encP p).take k)).2 = if k < 17 then 4 else 3 := by
  have hl := encP_length p
  have ht : ((encP p).take k).length = k := by rw [List.length_take]; omega
  by_cases hk17 : k < 17
  · rw [decP_short (by rw [ht]; exact hk17), if_pos hk17]
  · have h12 : ((encP p).take k).getD 12 0 = (encP p).getD 12 0 := by unfold List.getD; rw [List.getElem?_take, if_pos (by omega)]
    rw [decP_form (by rw [ht]; omega) (by rw [h12, encP_12 p h.pay, ht]; right; omega), if_neg hk17]
theorem dec_more {p : Pk} (h : Good p) {more : List Byte} (hm : more ≠ []) : (decP (encP p ++ more)).2 = 3 := by
  have hl := encP_length p
  have hml : 0 < more.length := List.length_pos_iff.2 hm
  rw [decP_form (by rw [List.length_append]; omega) (by rw [getD_app_left (by omega), encP_12 p h.pay, List.length_append]; right; omega)]
/-! a packet that does not end -/
theorem scan_long (x : Byte) (hx : isData x = true) (n : Nat) : ((Sc.new.push 49).1.scan (List.replicate n x)).2 = [] ∧ ((Sc.new.push 49).1.scan (List.replicate n x)).1 = if n ≤ 162 then (⟨true, List.replicate n x, 0⟩ : Sc) else ⟨false, [], 1⟩ := by
  rw [push_start]
  show ((⟨true, [], 0⟩ : Sc).scan (List.replicate n x)).2 = [] ∧ ((⟨true, [], 0⟩ : Sc).scan (List.replicate n x)).1 = _
  have hr : ∀ m, ∀ s ∈ List.replicate m x, isData s = true := fun m s hs => by rw [List.eq_of_mem_replicate hs]; exact hx
  by_cases hn : n ≤ 162
  · rw [if_pos hn, scan_data [] 0 _ (hr n) (by simpa using hn)]
    exact ⟨rfl, rfl⟩
  · obtain ⟨m, rfl⟩ : ∃ m, n = 162 + (m + 1) := ⟨n - 163, by omega⟩
    rw [if_neg hn, ← List.replicate_append_replicate, Sc.scan_app, scan_data [] 0 _ (hr 162) (by simp), show List.replicate (m + 1) x = x :: List.replicate m x from rfl, scan_cons]
    have hp : (⟨true, [] ++ List.replicate 162 x, 0⟩ : Sc).push x = (⟨false, [], 1⟩, none) := by
      unfold Sc.push
      rw [if_neg (data_ne x hx).1, if_neg (by simp), if_neg (fun hh => by have h2 : ([] ++ List.replicate 162 x : List Byte).length < 162 := hh.2; rw [List.nil_append, List.length_replicate] at h2; exact absurd h2 (by omega)), if_neg (fun hh => (data_ne x hx).2 hh.1)]
    show _ ++ (_ ++ _) = _ ∧ _
    rw [hp, scan_out ⟨false, [], 1⟩ rfl _ fun y hy => by rw [List.eq_of_mem_replicate hy]; exact (data_ne x hx).1]
    exact ⟨rfl, rfl⟩
end Go.Proofs.YtdmfjmdnkfeljaaDoor
