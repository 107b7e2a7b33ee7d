/- Changed bits, in plain words: what a few changed bits do to the register, and how many differ. No program in sight. -/
import Derived.Test.YtdmfjmdnkfeljaaDoorCrcR
import Derived.Test.YtdmfjmdnkfeljaaDoorCrcE
namespace Go.Proofs.YtdmfjmdnkfeljaaDoor

/-- a string of L bytes with one bit set -/
def e1 (L p : Nat) : List (BitVec 8) := (List.range L).map fun i => if i = p / 8 then 1#8 <<< (p % 8) else 0#8
theorem e1_length (L p : Nat) : (e1 L p).length = L := by simp [e1]
/-- a string with one bit inverted -/
def flip (s : List (BitVec 8)) (p : Nat) : List (BitVec 8) := s.set (p / 8) (s.getD (p / 8) 0 ^^^ 1#8 <<< (p % 8))
theorem flip_length (s : List (BitVec 8)) (p : Nat) : (flip s p).length = s.length := by simp [flip]
theorem flip_bx (s : List (BitVec 8)) (p : Nat) : flip s p = bx s (e1 s.length p) := by
  apply List.ext_getElem
  · simp [flip, bx, e1]
  · intro i h1 h2
    have hi : i < s.length := by simpa [flip] using h1
    simp only [flip, bx, e1, List.getElem_set, List.getElem_zipWith, List.getElem_map, List.getElem_range]
    by_cases h : p / 8 = i
    · subst h; simp [List.getD, hi]
    · rw [if_neg h, if_neg (fun e => h e.symm), BitVec.xor_zero]
theorem bx_assoc (a b c : List (BitVec 8)) : bx (bx a b) c = bx a (bx b c) := by
  apply List.ext_getElem
  · simp only [bx, List.length_zipWith]; omega
  · intro i h1 h2
    simp only [bx, List.getElem_zipWith]; rw [BitVec.xor_assoc]
theorem bx_length (a b : List (BitVec 8)) (h : a.length = b.length) : (bx a b).length = a.length := by simp [bx, h]

theorem reg_zeros (n : Nat) (r : BitVec 32) : reg r (List.replicate n 0#8) = T (8 * n) r := by
  induction n generalizing r with
  | zero => rfl
  | succ n ih =>
    rw [List.replicate_succ]
    show reg (stepB r 0#8) (List.replicate n 0#8) = _
    rw [ih, stepB_T, show 8 * (n + 1) = 8 + 8 * n by omega, T_add]
    congr 2
    have : (0#8).setWidth 32 = 0#32 := by decide
    rw [this, BitVec.xor_zero]
theorem T_z (n : Nat) : T n 0#32 = 0#32 := by
  induction n with
  | zero => rfl
  | succ n ih => show T n (T1 0#32) = _; have : T1 0#32 = 0#32 := by decide
                 rw [this, ih]
theorem one_T : ∀ k : Fin 8, T 8 ((1#8 <<< k.val).setWidth 32) = T (8 - k.val) 1#32 := by decide +kernel
theorem e1_split (L p : Nat) (h : p / 8 < L) : e1 L p = List.replicate (p / 8) 0#8 ++ (1#8 <<< (p % 8)) :: List.replicate (L - p / 8 - 1) 0#8 := by
  apply List.ext_getElem
  · simp [e1]; omega
  · intro i h1 h2
    have hi : i < L := by simpa [e1] using h1
    simp only [e1, List.getElem_map, List.getElem_range]
    rw [List.getElem_append]
    simp only [List.length_replicate]
    by_cases h3 : i < p / 8
    · rw [dif_pos h3, if_neg (by omega), List.getElem_replicate]
    · rw [dif_neg h3]
      by_cases h4 : i = p / 8
      · subst h4; simp
      · rw [if_neg h4]
        obtain ⟨m, hm⟩ : ∃ m, i - p / 8 = m + 1 := ⟨i - p / 8 - 1, by omega⟩
        simp only [hm, List.getElem_cons_succ, List.getElem_replicate]
theorem reg_e1 (L p : Nat) (h : p < 8 * L) : reg 0#32 (e1 L p) = T (8 * L - p) 1#32 := by
  have hp : p / 8 < L := by omega
  rw [e1_split L p hp, reg_append, reg_zeros, T_z]
  show reg (stepB 0#32 (1#8 <<< (p % 8))) _ = _
  rw [reg_zeros, stepB_T, BitVec.zero_xor]
  have := one_T ⟨p % 8, by omega⟩
  dsimp only at this
  rw [this, ← T_add]
  congr 1
  omega
theorem T_inj (n : Nat) (a b : BitVec 32) (h : T n a = T n b) : a = b := by
  apply xor_eq_zero
  apply T_zero n
  rw [T_xor, h, BitVec.xor_self]
/-- the register that holds 1 does not come back to 1 in fewer than 832 steps -/
def noReturn : Nat → BitVec 32 → Bool
  | 0, _ => true
  | n + 1, r => (T1 r != 1#32) && noReturn n (T1 r)
theorem noReturn_spec (n : Nat) : ∀ (r : BitVec 32) (d : Nat), noReturn n r = true → 1 ≤ d → d ≤ n → T d r ≠ 1#32 := by
  induction n with
  | zero => intro r d _ h1 h2; omega
  | succ n ih =>
    intro r d h h1 h2
    simp only [noReturn, Bool.and_eq_true, bne_iff_ne] at h
    obtain ⟨e, rfl⟩ : ∃ e, d = e + 1 := ⟨d - 1, by omega⟩
    show T e (T1 r) ≠ _
    by_cases he : e = 0
    · subst he; exact h.1
    · exact ih _ e h.2 (by omega) (by omega)
theorem noReturn_832 : noReturn 832 1#32 = true := by decide +kernel
theorem pair_ne (a b : Nat) (h : a ≠ b) (ha : a ≤ 832) (hb : b ≤ 832) : T a 1#32 ≠ T b 1#32 := by
  intro e
  rcases Nat.lt_or_ge a b with hab | hab
  · obtain ⟨d, rfl⟩ : ∃ d, b = d + a := ⟨b - a, by omega⟩
    rw [T_add] at e
    have e2 : T d (T a 1#32) = T a (T d 1#32) := by rw [← T_add, ← T_add, Nat.add_comm]
    have : T a (T d 1#32) = T a 1#32 := by
      have := T_add d a 1#32
      rw [← this, Nat.add_comm, T_add a d, e2, ← this, T_add d a] ; rw [e]
    exact noReturn_spec 832 1#32 d noReturn_832 (by omega) (by omega) (T_inj a _ _ this)
  · obtain ⟨d, rfl⟩ : ∃ d, a = d + b := ⟨a - b, by omega⟩
    rw [T_add] at e
    exact noReturn_spec 832 1#32 d noReturn_832 (by omega) (by omega) (T_inj b _ _ e)

/-! three bits: no two of the first 832 registers differ in the last bit alone -/
def t1 (n : Nat) : Nat := (n / 2) ^^^ (if n % 2 = 1 then 3988292384 else 0)
def pw : Nat → Nat → List Nat
  | 0, _ => []
  | k + 1, r => t1 r :: pw k (t1 r)
def mask (q : Nat) : List Nat → Nat
  | [] => 0
  | x :: l => mask q l ||| (1 <<< (x % q))
def allOk (q M : Nat) : List Nat → Bool
  | [] => true
  | x :: l => bif M.testBit ((x ^^^ 1) % q) then false else allOk q M l
theorem allOk_832 : allOk 33164 (mask 33164 (pw 832 1)) (pw 832 1) = true := by decide +kernel
theorem mask_mem (q x : Nat) (l : List Nat) (h : x ∈ l) : (mask q l).testBit (x % q) = true := by
  induction l with
  | nil => cases h
  | cons y l ih =>
    simp only [mask, Nat.testBit_or, Bool.or_eq_true]
    rcases List.mem_cons.1 h with rfl | h
    · right; simp [Nat.testBit_shiftLeft]
    · exact .inl (ih h)
theorem allOk_mem (q M x : Nat) (l : List Nat) (h : allOk q M l = true) (hx : x ∈ l) : M.testBit ((x ^^^ 1) % q) = false := by
  induction l with
  | nil => cases hx
  | cons y l ih =>
    simp only [allOk] at h
    cases hb : M.testBit ((y ^^^ 1) % q) with
    | true => rw [hb] at h; cases h
    | false =>
      rw [hb] at h
      rcases List.mem_cons.1 hx with rfl | hx
      · exact hb
      · exact ih h hx
theorem t1_T1 (r : BitVec 32) : (T1 r).toNat = t1 r.toNat := by
  unfold T1 t1
  rw [BitVec.toNat_xor, BitVec.toNat_ushiftRight, Nat.shiftRight_eq_div_pow, BitVec.getLsbD, Nat.testBit_zero]
  congr 1
  by_cases h : r.toNat % 2 = 1 <;> simp [h]
theorem pw_mem (n : Nat) : ∀ (r : BitVec 32) (d : Nat), 1 ≤ d → d ≤ n → (T d r).toNat ∈ pw n r.toNat := by
  induction n with
  | zero => intro r d h1 h2; omega
  | succ n ih =>
    intro r d h1 h2
    obtain ⟨e, rfl⟩ : ∃ e, d = e + 1 := ⟨d - 1, by omega⟩
    show (T e (T1 r)).toNat ∈ t1 r.toNat :: pw n (t1 r.toNat)
    by_cases he : e = 0
    · subst he; rw [← t1_T1]; exact List.mem_cons_self
    · rw [← t1_T1]; exact List.mem_cons_of_mem _ (ih _ e (by omega) (by omega))
theorem trip0 (i j : Nat) (hi : 1 ≤ i) (hi' : i ≤ 832) (hj : 1 ≤ j) (hj' : j ≤ 832) : T i 1#32 ≠ T j 1#32 ^^^ 1#32 := by
  intro e
  have m1 := pw_mem 832 1#32 i hi hi'
  have m2 := pw_mem 832 1#32 j hj hj'
  have e' : (T i 1#32).toNat = (T j 1#32).toNat ^^^ 1 := by rw [e, BitVec.toNat_xor]; rfl
  have a := mask_mem 33164 _ _ m1
  have b := allOk_mem 33164 _ _ _ allOk_832 m2
  rw [e'] at a
  have : (mask 33164 (pw 832 1)).testBit (((T j 1#32).toNat ^^^ 1) % 33164) = true := a
  rw [this] at b; cases b
/-- three different bits leave the register not zero -/
theorem trip_ne (a b c : Nat) (hab : a ≠ b) (hac : a ≠ c) (hbc : b ≠ c) (ha : a ≤ 832) (hb : b ≤ 832) (hc : c ≤ 832) : T a 1#32 ^^^ T b 1#32 ^^^ T c 1#32 ≠ 0#32 := by
  have main : ∀ x y z : Nat, x < y → x < z → y ≤ 832 → z ≤ 832 → T x 1#32 ^^^ T y 1#32 ^^^ T z 1#32 ≠ 0#32 := by
    intro x y z hxy hxz hy hz e
    obtain ⟨i, rfl⟩ : ∃ i, y = i + x := ⟨y - x, by omega⟩
    obtain ⟨j, rfl⟩ : ∃ j, z = j + x := ⟨z - x, by omega⟩
    rw [T_add, T_add, ← T_xor, ← T_xor] at e
    have e0 := T_zero x _ e
    have e1 : T i 1#32 = T j 1#32 ^^^ 1#32 := by
      have := xor_eq_zero _ _ e0
      rw [← this, BitVec.xor_comm (1#32), BitVec.xor_assoc, BitVec.xor_self, BitVec.xor_zero]
    exact trip0 i j (by omega) (by omega) (by omega) (by omega) e1
  rcases Nat.lt_or_ge a b with h1 | h1
  · rcases Nat.lt_or_ge a c with h2 | h2
    · exact main a b c h1 h2 hb hc
    · have := main c a b (by omega) (by omega) ha hb
      rwa [BitVec.xor_comm, ← BitVec.xor_assoc]
  · rcases Nat.lt_or_ge b c with h2 | h2
    · have := main b a c (by omega) (by omega) ha hc
      rwa [BitVec.xor_comm (T a 1#32)]
    · have := main c a b (by omega) (by omega) ha hb
      rwa [BitVec.xor_comm, ← BitVec.xor_assoc]

/-! bits of a string, and how many are set -/
def bitAt (e : List (BitVec 8)) (p : Nat) : Bool := (e.getD (p / 8) 0).getLsbD (p % 8)
def cnt (f : Nat → Bool) : Nat → Nat
  | 0 => 0
  | n + 1 => cnt f n + (f n).toNat
theorem cnt_congr (f g : Nat → Bool) (n : Nat) (h : ∀ p, p < n → f p = g p) : cnt f n = cnt g n := by
  induction n with
  | zero => rfl
  | succ n ih => simp only [cnt]; rw [ih fun p hp => h p (by omega), h n (by omega)]
theorem cnt_one (x n : Nat) : cnt (fun p => p == x) n = if x < n then 1 else 0 := by
  induction n with
  | zero => simp [cnt]
  | succ n ih =>
    simp only [cnt, ih]
    by_cases h : n = x
    · subst h; simp
    · have : (n == x) = false := by simpa using h
      rw [this]
      by_cases h2 : x < n
      · rw [if_pos h2, if_pos (by omega)]; rfl
      · rw [if_neg h2, if_neg (by omega)]; rfl
theorem cnt_or (f g : Nat → Bool) (n : Nat) (h : ∀ p, p < n → ¬ (f p = true ∧ g p = true)) : cnt (fun p => f p ^^ g p) n = cnt f n + cnt g n := by
  induction n with
  | zero => rfl
  | succ n ih =>
    simp only [cnt]
    rw [ih fun p hp => h p (by omega)]
    have := h n (by omega)
    generalize f n = x at *
    generalize g n = y at *
    cases x <;> cases y <;> simp at this ⊢ <;> omega
theorem cnt_pos (f : Nat → Bool) (n p : Nat) (hp : p < n) (h : f p = true) : 0 < cnt f n := by
  induction n with
  | zero => omega
  | succ n ih =>
    simp only [cnt]
    by_cases e : p = n
    · subst e; rw [h]; simp [Bool.toNat]
    · have := ih (by omega); omega
theorem bitAt_bx (a b : List (BitVec 8)) (h : a.length = b.length) (p : Nat) : bitAt (bx a b) p = (bitAt a p ^^ bitAt b p) := by
  unfold bitAt
  rw [← BitVec.getLsbD_xor]
  congr 1
  by_cases hp : p / 8 < a.length
  · have hp2 : p / 8 < b.length := by omega
    simp [bx, List.getD, List.getElem?_zipWith, hp, hp2]
  · have hp2 : ¬ p / 8 < b.length := by omega
    simp [bx, List.getD, List.getElem?_zipWith, hp, hp2]
theorem bitAt_e1 (L q p : Nat) (hp : p < 8 * L) : bitAt (e1 L q) p = (p == q) := by
  unfold bitAt
  have h1 : p / 8 < L := by omega
  have h2 : (e1 L q).getD (p / 8) 0 = if p / 8 = q / 8 then 1#8 <<< (q % 8) else 0#8 := by simp [e1, List.getD, h1]
  rw [h2]
  by_cases h : p / 8 = q / 8
  · rw [if_pos h]
    have key : ∀ a b : Fin 8, (1#8 <<< a.val).getLsbD b.val = (b.val == a.val) := by decide
    have := key ⟨q % 8, by omega⟩ ⟨p % 8, by omega⟩
    dsimp only at this
    rw [this, Bool.eq_iff_iff, beq_iff_eq, beq_iff_eq]
    omega
  · rw [if_neg h]
    have : (p == q) = false := by simp; omega
    rw [this]; simp
end Go.Proofs.YtdmfjmdnkfeljaaDoor
