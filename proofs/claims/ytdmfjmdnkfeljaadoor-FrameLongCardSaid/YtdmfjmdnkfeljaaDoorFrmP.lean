/- Packets, symbols and scanners in plain words. No program in sight. -/
import Derived.Test.YtdmfjmdnkfeljaaDoorCrcD
namespace Go.Proofs.YtdmfjmdnkfeljaaDoor

abbrev Byte := BitVec 8
/-- the valid symbols, in ascending order -/
def vs : List Byte := [7, 11, 13, 14, 19, 21, 22, 25, 26, 28, 35, 37, 38, 41, 42, 44, 49, 50, 52, 56]
def sym (n : Nat) : Byte := vs.getD n 0
/-- the place of a symbol; 20: it is not valid -/
def idx (s : Byte) : Nat := vs.findIdx (· == s)
def isData (s : Byte) : Bool := decide (idx s < 16)
theorem idx_le : ∀ s : Byte, idx s ≤ 20 := by decide +kernel
theorem idx_sym : ∀ n : Fin 20, idx (sym n.val) = n.val := by decide +kernel
theorem sym_idx : ∀ s : Byte, idx s < 20 → sym (idx s) = s := by decide +kernel
theorem idx_sym_lt {n : Nat} (h : n < 20) : idx (sym n) = n := idx_sym ⟨n, h⟩
def encS (bs : List Byte) : List Byte := bs.flatMap fun x => [sym (x.toNat / 16), sym (x.toNat % 16)]
theorem encS_cons (x : Byte) (bs : List Byte) : encS (x :: bs) = sym (x.toNat / 16) :: sym (x.toNat % 16) :: encS bs := rfl
theorem encS_app (a b : List Byte) : encS (a ++ b) = encS a ++ encS b := by unfold encS; rw [List.flatMap_append]
theorem encS_length : ∀ bs : List Byte, (encS bs).length = 2 * bs.length
  | [] => rfl
  | x :: bs => by rw [encS_cons, List.length_cons, List.length_cons, encS_length bs, List.length_cons]; omega
theorem isData_sym {n : Nat} (h : n < 16) : isData (sym n) = true := by unfold isData; rw [idx_sym_lt (by omega)]; simpa using h
theorem encS_data : ∀ bs : List Byte, ∀ s ∈ encS bs, isData s = true
  | [], s, h => by cases h
  | x :: bs, s, h => by
    have hx := x.isLt
    rw [encS_cons] at h
    rcases List.mem_cons.1 h with rfl | h
    · exact isData_sym (by omega)
    · rcases List.mem_cons.1 h with rfl | h
      · exact isData_sym (by omega)
      · exact encS_data bs s h
/-- two symbols a byte -/
def decB : List Byte → List Byte
  | a :: b :: l => BitVec.ofNat 8 (16 * idx a + idx b) :: decB l
  | _ => []
theorem decB_encS : ∀ bs : List Byte, decB (encS bs) = bs
  | [] => rfl
  | x :: bs => by
    have hx := x.isLt
    rw [encS_cons]
    show BitVec.ofNat 8 (16 * idx _ + idx _) :: decB (encS bs) = _
    rw [decB_encS bs, idx_sym_lt (by omega), idx_sym_lt (by omega)]
    congr 1
    apply BitVec.eq_of_toNat_eq
    rw [BitVec.toNat_ofNat]
    omega
theorem encS_decB : ∀ ss : List Byte, (∀ s ∈ ss, isData s = true) → ss.length % 2 = 0 → encS (decB ss) = ss
  | [], _, _ => rfl
  | [a], _, h => by simp at h
  | a :: b :: l, hd, h => by
    have ha : idx a < 16 := by simpa [isData] using hd a (by simp)
    have hb : idx b < 16 := by simpa [isData] using hd b (by simp)
    show encS (BitVec.ofNat 8 (16 * idx a + idx b) :: decB l) = _
    have e : (BitVec.ofNat 8 (16 * idx a + idx b)).toNat = 16 * idx a + idx b := by rw [BitVec.toNat_ofNat]; omega
    rw [encS_cons, e, encS_decB l (fun s hs => hd s (by simp [hs])) (by simp only [List.length_cons] at h; omega)]
    have e1 : (16 * idx a + idx b) / 16 = idx a := by omega
    have e2 : (16 * idx a + idx b) % 16 = idx b := by omega
    rw [e1, e2, sym_idx a (by omega), sym_idx b (by omega)]
theorem decB_length : ∀ ss : List Byte, (decB ss).length = ss.length / 2
  | [] => rfl
  | [_] => by simp [decB]
  | a :: b :: l => by show (decB l).length + 1 = (l.length + 2) / 2; rw [decB_length l]; omega
theorem decB_app : ∀ (ss : List Byte) (a b : Byte), ss.length % 2 = 0 → decB (ss ++ [a, b]) = decB ss ++ [BitVec.ofNat 8 (16 * idx a + idx b)]
  | [], _, _, _ => rfl
  | [x], _, _, h => by simp at h
  | x :: y :: l, a, b, h => by
    show _ :: decB (l ++ [a, b]) = _
    rw [decB_app l a b (by simp only [List.length_cons] at h; omega)]; rfl
/-- the bytes that symbols stand for, an index, an error number -/
def decS (ss : List Byte) : List Byte × Int × Int :=
  match ss.findIdx? fun s => !isData s with
  | some i => ([], (i : Int), 3)
  | none => if ss.length % 2 = 0 then (decB ss, -1, 0) else ([], (ss.length : Int), 4)
theorem decS_good {ss : List Byte} (hd : ∀ s ∈ ss, isData s = true) (h : ss.length % 2 = 0) : decS ss = (decB ss, -1, 0) := by
  unfold decS
  rw [List.findIdx?_eq_none_iff.2 fun s hs => by simp [hd s hs]]
  exact if_pos h
theorem decS_odd {ss : List Byte} (hd : ∀ s ∈ ss, isData s = true) (h : ¬ ss.length % 2 = 0) : decS ss = ([], (ss.length : Int), 4) := by
  unfold decS
  rw [List.findIdx?_eq_none_iff.2 fun s hs => by simp [hd s hs]]
  exact if_neg h
theorem decS_bad {ss : List Byte} {i : Nat} (h : ss.findIdx? (fun s => !isData s) = some i) : decS ss = ([], (i : Int), 3) := by
  unfold decS; rw [h]
theorem decS_encS (bs : List Byte) : decS (encS bs) = (bs, -1, 0) := by
  rw [decS_good (encS_data bs) (by rw [encS_length]; omega), decB_encS]

/-- a packet -/
structure Pk where
  kind : Byte
  cls : Int
  number : Int
  value : Int
  pay : List Byte
deriving DecidableEq
def Pk.zero : Pk := ⟨0, 0, 0, 0, []⟩
def validP (p : Pk) : Bool := !(p.kind == 0) && decide (0 ≤ p.cls) && decide (p.cls < 4) && decide (0 ≤ p.number) && decide (p.number < 1099511627776) && decide (0 ≤ p.value) && decide (p.value < 1099511627776) && decide (p.pay.length ≤ 64)
structure Good (p : Pk) : Prop where
  kind : p.kind ≠ 0
  c0 : 0 ≤ p.cls
  c1 : p.cls < 4
  n0 : 0 ≤ p.number
  n1 : p.number < 1099511627776
  v0 : 0 ≤ p.value
  v1 : p.value < 1099511627776
  pay : p.pay.length ≤ 64
theorem validP_iff {p : Pk} : validP p = true ↔ Good p := by
  unfold validP
  simp only [Bool.and_eq_true, decide_eq_true_eq, Bool.not_eq_true', beq_eq_false_iff_ne]
  exact ⟨fun ⟨⟨⟨⟨⟨⟨⟨a, b⟩, c⟩, d⟩, e⟩, f⟩, g⟩, h⟩ => ⟨a, b, c, d, e, f, g, h⟩, fun ⟨a, b, c, d, e, f, g, h⟩ => ⟨⟨⟨⟨⟨⟨⟨a, b⟩, c⟩, d⟩, e⟩, f⟩, g⟩, h⟩⟩
/-- a number in five bytes, the most significant first -/
def dig (n k : Nat) : Byte := BitVec.ofNat 8 (n / 2 ^ (8 * (4 - k)))
def five (n : Nat) : List Byte := [dig n 0, dig n 1, dig n 2, dig n 3, dig n 4]
theorem five_take (n k : Nat) (h : k < 5) : (five n).take (k + 1) = (five n).take k ++ [dig n k] := by
  have : k = 0 ∨ k = 1 ∨ k = 2 ∨ k = 3 ∨ k = 4 := by omega
  rcases this with rfl | rfl | rfl | rfl | rfl <;> rfl
/-- the number in the first k bytes -/
def num (l : List Byte) : Nat → Nat
  | 0 => 0
  | k + 1 => 256 * num l k + (l.getD k 0).toNat
theorem num_lt (l : List Byte) : ∀ k, num l k < 256 ^ k
  | 0 => by simp [num]
  | k + 1 => by
    have h1 := num_lt l k
    have h2 := (l.getD k 0).isLt
    show 256 * num l k + _ < 256 ^ (k + 1)
    rw [Nat.pow_succ]
    have : num l k + 1 ≤ 256 ^ k := h1
    have : (num l k + 1) * 256 ≤ 256 ^ k * 256 := Nat.mul_le_mul_right _ this
    omega
theorem num_five (n : Nat) (h : n < 1099511627776) (l : List Byte) : num (five n ++ l) 5 = n := by
  show 256 * (256 * (256 * (256 * (256 * 0 + (dig n 0).toNat) + (dig n 1).toNat) + (dig n 2).toNat) + (dig n 3).toNat) + (dig n 4).toNat = n
  simp only [dig, BitVec.toNat_ofNat, Nat.reduceSub, Nat.reduceMul, Nat.reducePow]
  omega
theorem num_append (l r : List Byte) : ∀ k, k ≤ l.length → num (l ++ r) k = num l k
  | 0, _ => rfl
  | k + 1, h => by
    show 256 * num (l ++ r) k + _ = 256 * num l k + _
    rw [num_append l r k (by omega)]
    congr 2
    simp [List.getD, List.getElem?_append_left (show k < l.length by omega)]
theorem five_num (l : List Byte) (h : l.length = 5) : five (num l 5) = l := by
  match l, h with
  | [a, b, c, d, e], _ =>
    have ha := a.isLt; have hb := b.isLt; have hc := c.isLt; have hd := d.isLt; have he := e.isLt
    have hn : num [a, b, c, d, e] 5 = 256 * (256 * (256 * (256 * (256 * 0 + a.toNat) + b.toNat) + c.toNat) + d.toNat) + e.toNat := rfl
    rw [hn]
    unfold five dig
    simp only [Nat.reduceSub, Nat.reduceMul, Nat.reducePow]
    have k : ∀ (n : Nat) (x : Byte), n % 256 = x.toNat → BitVec.ofNat 8 n = x := fun n x hx => by
      apply BitVec.eq_of_toNat_eq; rw [BitVec.toNat_ofNat]; exact hx
    rw [k _ a (by omega), k _ b (by omega), k _ c (by omega), k _ d (by omega), k _ e (by omega)]
def headP (p : Pk) : List Byte := [p.kind, BitVec.ofInt 8 p.cls] ++ five p.number.toNat ++ five p.value.toNat ++ [BitVec.ofNat 8 p.pay.length]
theorem headP_length (p : Pk) : (headP p).length = 13 := rfl
def bodyP (p : Pk) : List Byte := headP p ++ p.pay
def encP (p : Pk) : List Byte := sealed (bodyP p)
theorem encP_length (p : Pk) : (encP p).length = p.pay.length + 17 := by unfold encP bodyP; rw [sealed_length, List.length_append, headP_length]; omega
/-- the packet in the bytes of a body -/
def ofBody (b : List Byte) : Pk := ⟨b.getD 0 0, ((b.getD 1 0).toNat : Int), (num (b.drop 2) 5 : Nat), (num (b.drop 7) 5 : Nat), b.drop 13⟩
def decP (b : List Byte) : Pk × Int :=
  if b.length < 17 then (Pk.zero, 4)
  else if 64 < (b.getD 12 0).toNat ∨ (b.getD 12 0).toNat + 17 ≠ b.length then (Pk.zero, 3)
  else if isSealed b = false then (Pk.zero, 9)
  else if validP (ofBody (b.take (b.length - 4))) = false then (Pk.zero, 1)
  else (ofBody (b.take (b.length - 4)), 0)
theorem decP_short {b : List Byte} (h : b.length < 17) : decP b = (Pk.zero, 4) := by unfold decP; rw [if_pos h]
theorem decP_form {b : List Byte} (h : 17 ≤ b.length) (h2 : 64 < (b.getD 12 0).toNat ∨ (b.getD 12 0).toNat + 17 ≠ b.length) : decP b = (Pk.zero, 3) := by
  unfold decP; rw [if_neg (by omega), if_pos h2]
theorem decP_sum {b : List Byte} (h : 17 ≤ b.length) (h2 : (b.getD 12 0).toNat ≤ 64 ∧ (b.getD 12 0).toNat + 17 = b.length) (h3 : isSealed b = false) : decP b = (Pk.zero, 9) := by
  unfold decP; rw [if_neg (by omega), if_neg (by omega), if_pos h3]
theorem decP_arg {b : List Byte} (h : 17 ≤ b.length) (h2 : (b.getD 12 0).toNat ≤ 64 ∧ (b.getD 12 0).toNat + 17 = b.length) (h3 : isSealed b = true) (h4 : validP (ofBody (b.take (b.length - 4))) = false) : decP b = (Pk.zero, 1) := by
  unfold decP; rw [if_neg (by omega), if_neg (by omega), if_neg (by simp [h3]), if_pos h4]
theorem decP_ok {b : List Byte} (h : 17 ≤ b.length) (h2 : (b.getD 12 0).toNat ≤ 64 ∧ (b.getD 12 0).toNat + 17 = b.length) (h3 : isSealed b = true) (h4 : validP (ofBody (b.take (b.length - 4))) = true) : decP b = (ofBody (b.take (b.length - 4)), 0) := by
  unfold decP; rw [if_neg (by omega), if_neg (by omega), if_neg (by simp [h3]), if_neg (by simp [h4])]
/-- every case of decP -/
theorem decP_cases (b : List Byte) : (b.length < 17 ∧ decP b = (Pk.zero, 4)) ∨ (17 ≤ b.length ∧ (64 < (b.getD 12 0).toNat ∨ (b.getD 12 0).toNat + 17 ≠ b.length) ∧ decP b = (Pk.zero, 3)) ∨
    (17 ≤ b.length ∧ ((b.getD 12 0).toNat ≤ 64 ∧ (b.getD 12 0).toNat + 17 = b.length) ∧ ((isSealed b = false ∧ decP b = (Pk.zero, 9)) ∨ (isSealed b = true ∧
      ((validP (ofBody (b.take (b.length - 4))) = false ∧ decP b = (Pk.zero, 1)) ∨ (validP (ofBody (b.take (b.length - 4))) = true ∧ decP b = (ofBody (b.take (b.length - 4)), 0)))))) := by
  by_cases h : b.length < 17
  · exact .inl ⟨h, decP_short h⟩
  · by_cases h2 : 64 < (b.getD 12 0).toNat ∨ (b.getD 12 0).toNat + 17 ≠ b.length
    · exact .inr (.inl ⟨by omega, h2, decP_form (by omega) h2⟩)
    · refine .inr (.inr ⟨by omega, by omega, ?_⟩)
      cases h3 : isSealed b with
      | false => exact .inl ⟨rfl, decP_sum (by omega) (by omega) h3⟩
      | true =>
        refine .inr ⟨rfl, ?_⟩
        cases h4 : validP (ofBody (b.take (b.length - 4))) with
        | false => exact .inl ⟨rfl, decP_arg (by omega) (by omega) h3 h4⟩
        | true => exact .inr ⟨rfl, decP_ok (by omega) (by omega) h3 h4⟩
theorem getD_app_left {α : Type} {l r : List α} {k : Nat} {d : α} (h : k < l.length) : (l ++ r).getD k d = l.getD k d := by
  simp [List.getD, List.getElem?_append_left h]
theorem encP_12 (p : Pk) (h : p.pay.length ≤ 64) : ((encP p).getD 12 0).toNat = p.pay.length := by
  unfold encP sealed bodyP
  rw [List.append_assoc, getD_app_left (by rw [headP_length]; omega)]
  show (BitVec.ofNat 8 p.pay.length).toNat = _
  rw [BitVec.toNat_ofNat]; omega
theorem encP_body (p : Pk) : (encP p).take ((encP p).length - 4) = bodyP p := by
  unfold encP
  rw [sealed_length, Nat.add_sub_cancel]
  unfold sealed
  exact List.take_left
theorem ofBody_bodyP {p : Pk} (h : Good p) : ofBody (bodyP p) = p := by
  obtain ⟨k, c, n, v, pay⟩ := p
  have h1 := h.c0; have h2 := h.c1; have h3 := h.n0; have h4 := h.n1; have h5 := h.v0; have h6 := h.v1
  dsimp only at h1 h2 h3 h4 h5 h6
  have e1 : (num (five n.toNat ++ (five v.toNat ++ [BitVec.ofNat 8 pay.length] ++ pay)) 5 : Nat) = n.toNat := num_five _ (by omega) _
  have e2 : (num (five v.toNat ++ ([BitVec.ofNat 8 pay.length] ++ pay)) 5 : Nat) = v.toNat := num_five _ (by omega) _
  show (⟨k, ((BitVec.ofInt 8 c).toNat : Int), (num (five n.toNat ++ (five v.toNat ++ [BitVec.ofNat 8 pay.length] ++ pay)) 5 : Nat), (num (five v.toNat ++ ([BitVec.ofNat 8 pay.length] ++ pay)) 5 : Nat), pay⟩ : Pk) = _
  rw [e1, e2]
  have e3 : ((BitVec.ofInt 8 c).toNat : Int) = c := by
    rw [BitVec.toNat_ofInt]
    omega
  rw [e3, Int.toNat_of_nonneg h3, Int.toNat_of_nonneg h5]
theorem decP_encP {p : Pk} (h : Good p) : decP (encP p) = (p, 0) := by
  have hl := encP_length p
  have h12 := encP_12 p h.pay
  have hp := h.pay
  rw [decP_ok (b := encP p) (by omega) (by rw [h12]; omega) (isSealed_sealed _) (by rw [encP_body, ofBody_bodyP h, validP_iff]; exact h), encP_body, ofBody_bodyP h]
theorem bodyP_ofBody {b : List Byte} (h : 13 ≤ b.length) (h12 : (b.getD 12 0).toNat + 13 = b.length) : bodyP (ofBody b) = b := by
  match b, h with
  | a0 :: a1 :: a2 :: a3 :: a4 :: a5 :: a6 :: a7 :: a8 :: a9 :: a10 :: a11 :: a12 :: l, _ =>
    have h12' : a12.toNat = l.length := by
      have : a12.toNat + 13 = l.length + 1 + 1 + 1 + 1 + 1 + 1 + 1 + 1 + 1 + 1 + 1 + 1 + 1 := h12
      omega
    show [a0, BitVec.ofInt 8 ((a1.toNat : Nat) : Int)] ++ five ((num ([a2, a3, a4, a5, a6] ++ (a7 :: a8 :: a9 :: a10 :: a11 :: a12 :: l)) 5 : Nat) : Int).toNat ++ five ((num ([a7, a8, a9, a10, a11] ++ (a12 :: l)) 5 : Nat) : Int).toNat ++ [BitVec.ofNat 8 l.length] ++ l = _
    rw [Int.toNat_natCast, Int.toNat_natCast, num_append _ _ 5 (Nat.le_refl _), num_append _ _ 5 (Nat.le_refl _), five_num _ rfl, five_num _ rfl, ← h12']
    have e1 : BitVec.ofInt 8 ((a1.toNat : Nat) : Int) = a1 := by
      apply BitVec.eq_of_toNat_eq
      rw [BitVec.toNat_ofInt]
      have := a1.isLt
      omega
    have e2 : BitVec.ofNat 8 a12.toNat = a12 := by apply BitVec.eq_of_toNat_eq; rw [BitVec.toNat_ofNat]; have := a12.isLt; omega
    rw [e1, e2]; rfl
theorem decP_good {b : List Byte} {p : Pk} (h : decP b = (p, 0)) : Good p ∧ encP p = b := by
  rcases decP_cases b with ⟨_, e⟩ | ⟨_, _, e⟩ | ⟨hl, ⟨h1, h2⟩, ⟨_, e⟩ | ⟨hs, ⟨_, e⟩ | ⟨hv, e⟩⟩⟩
  all_goals rw [h] at e
  · have := congrArg Prod.snd e; simp at this
  · have := congrArg Prod.snd e; simp at this
  · have := congrArg Prod.snd e; simp at this
  · have := congrArg Prod.snd e; simp at this
  · obtain rfl : p = _ := congrArg Prod.fst e
    refine ⟨validP_iff.1 hv, ?_⟩
    have ht : (b.take (b.length - 4)).length = b.length - 4 := by rw [List.length_take]; omega
    have hb : bodyP (ofBody (b.take (b.length - 4))) = b.take (b.length - 4) := by
      refine bodyP_ofBody (by omega) ?_
      have : (b.take (b.length - 4)).getD 12 0 = b.getD 12 0 := by unfold List.getD; rw [List.getElem?_take, if_pos (show 12 < b.length - 4 by omega)]
      rw [this, ht]; omega
    unfold encP
    rw [hb]
    exact ((isSealed_iff b (by omega)).1 hs).symm
/-- the symbols of a packet -/
def symP (p : Pk) : List Byte := 49 :: (encS (encP p) ++ [50])
theorem symP_length (p : Pk) : (symP p).length = 2 * p.pay.length + 36 := by unfold symP; rw [List.length_cons, List.length_append, encS_length, encP_length]; simp; omega
/-- a scanner -/
structure Sc where
  inside : Bool
  data : List Byte
  bad : Nat
def Sc.new : Sc := ⟨false, [], 0⟩
def Sc.push (s : Sc) (x : Byte) : Sc × Option Pk :=
  if x = 49 then (⟨true, [], if s.inside then s.bad + 1 else s.bad⟩, none)
  else if s.inside = false then (s, none)
  else if isData x = true ∧ s.data.length < 162 then (⟨true, s.data ++ [x], s.bad⟩, none)
  else if x = 50 ∧ (decS s.data).2.2 = 0 ∧ (decP (decS s.data).1).2 = 0 then (⟨false, [], s.bad⟩, some (decP (decS s.data).1).1)
  else (⟨false, [], s.bad + 1⟩, none)
/-- what a scanner finds in symbols -/
def Sc.scan (s : Sc) : List Byte → Sc × List Pk
  | [] => (s, [])
  | x :: l => (((s.push x).1.scan l).1, (s.push x).2.toList ++ ((s.push x).1.scan l).2)
theorem Sc.scan_app (s : Sc) : ∀ (a b : List Byte), s.scan (a ++ b) = (((s.scan a).1.scan b).1, (s.scan a).2 ++ ((s.scan a).1.scan b).2)
  | [], b => rfl
  | x :: l, b => by
    have h := Sc.scan_app (s.push x).1 l b
    have e1 : s.scan (x :: (l ++ b)) = (((s.push x).1.scan (l ++ b)).1, (s.push x).2.toList ++ ((s.push x).1.scan (l ++ b)).2) := rfl
    have e2 : s.scan (x :: l) = (((s.push x).1.scan l).1, (s.push x).2.toList ++ ((s.push x).1.scan l).2) := rfl
    rw [List.cons_append, e1, e2, h, List.append_assoc]
end Go.Proofs.YtdmfjmdnkfeljaaDoor
