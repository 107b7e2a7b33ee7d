/- What Check and Errors say of a sealed string in which bits are changed: one, two, three bits, and one burst. No program in sight. -/
import Derived.Test.YtdmfjmdnkfeljaaDoorCrcP
namespace Go.Proofs.YtdmfjmdnkfeljaaDoor

theorem cnt_add (f : Nat → Bool) (n : Nat) : ∀ m, cnt f (n + m) = cnt f n + cnt (fun p => f (n + p)) m := by
  intro m
  induction m with
  | zero => rfl
  | succ m ih => show cnt f (n + m) + (f (n + m)).toNat = _; rw [ih]; simp only [cnt]; omega
theorem rel_cnt (d : BitVec 8) (k : Nat) : (rel d k).1 = cnt (fun p => d.getLsbD p) k := by
  induction k with
  | zero => rfl
  | succ k ih =>
    simp only [rel, cnt]
    cases h : d.getLsbD k
    · simp [ih]
    · simp [ih]
theorem refErrs_cnt (a b : List (BitVec 8)) (h : a.length = b.length) (k : Nat) (hk : k ≤ a.length) : (refErrs a b k).1 = (cnt (bitAt (bx a b)) (8 * k) : Nat) := by
  induction k with
  | zero => rfl
  | succ k ih =>
    have e2 : refErrs a b (k + 1) = refBitsE (a.getD k 0 ^^^ b.getD k 0) k (refErrs a b k) 8 := rfl
    rw [e2, refBitsE_rel]
    dsimp only
    rw [ih (by omega), rel_cnt, show 8 * (k + 1) = 8 * k + 8 by omega, cnt_add]
    have : cnt (fun p => (a.getD k 0 ^^^ b.getD k 0).getLsbD p) 8 = cnt (fun p => bitAt (bx a b) (8 * k + p)) 8 := by
      refine cnt_congr _ _ _ fun p hp => ?_
      unfold bitAt
      rw [show (8 * k + p) / 8 = k by omega, show (8 * k + p) % 8 = p by omega]
      congr 1
      have h1 : k < a.length := by omega
      have h2 : k < b.length := by omega
      simp [bx, List.getD, List.getElem?_zipWith, h1, h2]
    rw [this]; omega
/-- where the first and the last difference are bits that differ -/
theorem refErrs_ends (a b : List (BitVec 8)) (h : a.length = b.length) (k : Nat) (hk : k ≤ a.length) :
    refErrs a b k = (0, -1, -1) ∨ ∃ f l : Nat, f < 8 * k ∧ l < 8 * k ∧ f ≤ l ∧ bitAt (bx a b) f = true ∧ bitAt (bx a b) l = true ∧ 0 < (refErrs a b k).1 ∧ (refErrs a b k).2.1 = f ∧ (refErrs a b k).2.2 = l := by
  have bits : ∀ (i : Nat), i < a.length → ∀ j, j < 8 → bitAt (bx a b) (8 * i + j) = (a.getD i 0 ^^^ b.getD i 0).getLsbD j := by
    intro i hi j hj
    unfold bitAt
    rw [show (8 * i + j) / 8 = i by omega, show (8 * i + j) % 8 = j by omega]
    congr 1
    have h2 : i < b.length := by omega
    simp [bx, List.getD, List.getElem?_zipWith, hi, h2]
  induction k with
  | zero => exact .inl rfl
  | succ k ih =>
    have e2 : refErrs a b (k + 1) = refBitsE (a.getD k 0 ^^^ b.getD k 0) k (refErrs a b k) 8 := rfl
    rw [e2]
    have hb := bits k (by omega)
    generalize a.getD k 0 ^^^ b.getD k 0 = d at *
    have step : ∀ j, j ≤ 8 → (refBitsE d k (refErrs a b k) j = (0, -1, -1) ∨ ∃ f l : Nat, f < 8 * k + j ∧ l < 8 * k + j ∧ f ≤ l ∧ bitAt (bx a b) f = true ∧ bitAt (bx a b) l = true ∧ 0 < (refBitsE d k (refErrs a b k) j).1 ∧ (refBitsE d k (refErrs a b k) j).2.1 = f ∧ (refBitsE d k (refErrs a b k) j).2.2 = l) := by
      intro j
      induction j with
      | zero =>
        intro _
        rcases ih (by omega) with h0 | ⟨f, l, h1, h2, h3⟩
        · exact .inl h0
        · exact .inr ⟨f, l, by omega, by omega, h3⟩
      | succ j ihj =>
        intro hj
        have e3 : refBitsE d k (refErrs a b k) (j + 1) = refStep d k (refBitsE d k (refErrs a b k) j) j := rfl
        rw [e3]
        have ihj' := ihj (by omega)
        generalize refBitsE d k (refErrs a b k) j = s at *
        have hbj := hb j (by omega)
        unfold refStep
        cases hd : d.getLsbD j
        · simp only [Bool.false_eq_true, if_false]
          rcases ihj' with h0 | ⟨f, l, h1, h2, h3⟩
          · exact .inl h0
          · exact .inr ⟨f, l, by omega, by omega, h3⟩
        · rw [hd] at hbj
          simp only [if_true]
          rcases ihj' with h0 | ⟨f, l, h1, h2, h3, h4, h5, h6, h7, h8⟩
          · subst h0
            exact .inr ⟨8 * k + j, 8 * k + j, by omega, by omega, by omega, hbj, hbj, by simp, by simp, by simp⟩
          · exact .inr ⟨f, 8 * k + j, by omega, by omega, by omega, h4, hbj, by omega, by rw [if_neg (by omega)]; exact h7, by simp⟩
    have := step 8 (by omega)
    rwa [show 8 * (k + 1) = 8 * k + 8 by omega]
/-- the count of differing bits -/
theorem errors_cnt (a b : List (BitVec 8)) (h : a.length = b.length) : (errors a b).1 = (cnt (bitAt (bx a b)) (8 * a.length) : Nat) := by
  unfold errors; rw [if_pos h]
  rw [(errs_refErrs a b a.length).1, refErrs_cnt a b h _ (Nat.le_refl _)]
/-- all differing bits in a window of 32, and one at least: the burst is from 1 to 32 -/
theorem errors_burst (a b : List (BitVec 8)) (h : a.length = b.length) (lo : Nat) (hw : ∀ p, bitAt (bx a b) p = true → lo ≤ p ∧ p < lo + 32) (p : Nat) (hp : p < 8 * a.length) (hb : bitAt (bx a b) p = true) :
    0 < (errors a b).1 ∧ 0 < (errors a b).2 ∧ (errors a b).2 ≤ 32 := by
  have hc := refErrs_cnt a b h _ (Nat.le_refl _)
  have hpos := cnt_pos (bitAt (bx a b)) (8 * a.length) p hp hb
  rcases refErrs_ends a b h _ (Nat.le_refl _) with h0 | ⟨f, l, h1, h2, h3, h4, h5, h6, h7, h8⟩
  · rw [h0] at hc; simp at hc; omega
  · rw [errors_ref a b h]; unfold refErrors
    rw [if_neg (by omega)]
    dsimp only
    have w1 := hw f h4
    have w2 := hw l h5
    omega
theorem bx_self (s e : List (BitVec 8)) (h : e.length = s.length) : bx s (bx s e) = e := by
  apply List.ext_getElem
  · simp [bx, h]
  · intro i h1 h2
    simp only [bx, List.getElem_zipWith]
    rw [← BitVec.xor_assoc, BitVec.xor_self, BitVec.zero_xor]
theorem reg_bx0 (a b : List (BitVec 8)) (h : a.length = b.length) : reg 0#32 (bx a b) = reg 0#32 a ^^^ reg 0#32 b := by
  have := reg_bx a b 0#32 0#32 h
  rwa [BitVec.xor_self] at this
/-- one, two, three changed bits -/
theorem one_bit (c : List (BitVec 8)) (x : Nat) (hx : x < 8 * (sealed c).length) : isSealed (flip (sealed c) x) = false := by
  rw [Bool.eq_false_iff]; intro h
  rw [flip_bx] at h
  have := undetected c _ (e1_length _ _) h
  rw [reg_e1 _ _ hx] at this
  have := T_zero _ _ this
  exact absurd this (by decide)
theorem flip2 (s : List (BitVec 8)) (x y : Nat) : flip (flip s x) y = bx s (bx (e1 s.length x) (e1 s.length y)) := by
  rw [flip_bx (flip s x), flip_length, flip_bx, bx_assoc]
theorem flip3 (s : List (BitVec 8)) (x y z : Nat) : flip (flip (flip s x) y) z = bx s (bx (bx (e1 s.length x) (e1 s.length y)) (e1 s.length z)) := by
  rw [flip_bx (flip (flip s x) y), flip_length, flip_length, flip2, bx_assoc]
theorem two_bits (c : List (BitVec 8)) (x y : Nat) (hl : (sealed c).length ≤ 104) (hx : x < 8 * (sealed c).length) (hy : y < 8 * (sealed c).length) (hne : x ≠ y) : isSealed (flip (flip (sealed c) x) y) = false := by
  rw [Bool.eq_false_iff]; intro h
  rw [flip2] at h
  have := undetected c _ (by rw [bx_length _ _ (by rw [e1_length, e1_length]), e1_length]) h
  rw [reg_bx0 _ _ (by rw [e1_length, e1_length]), reg_e1 _ _ hx, reg_e1 _ _ hy] at this
  exact pair_ne _ _ (by omega) (by omega) (by omega) (xor_eq_zero _ _ this)
theorem flip_flip (s : List (BitVec 8)) (x : Nat) : flip (flip s x) x = s := by
  rw [flip2]
  apply List.ext_getElem
  · simp [bx, e1]
  · intro i h1 h2
    simp only [bx, List.getElem_zipWith]
    rw [BitVec.xor_self, BitVec.xor_zero]
theorem flip_comm (s : List (BitVec 8)) (x y : Nat) : flip (flip s x) y = flip (flip s y) x := by
  rw [flip2, flip2]
  congr 1
  apply List.ext_getElem
  · simp [bx, e1]
  · intro i h1 h2
    simp only [bx, List.getElem_zipWith]
    rw [BitVec.xor_comm]
theorem cnt_flip1 (s : List (BitVec 8)) (x : Nat) (hx : x < 8 * s.length) : (errors s (flip s x)).1 = 1 := by
  rw [errors_cnt _ _ (flip_length _ _).symm, flip_bx, bx_self _ _ (e1_length _ _)]
  rw [cnt_congr _ (fun p => p == x) _ fun p hp => bitAt_e1 _ _ _ hp, cnt_one, if_pos hx]; rfl
theorem three_bits (c : List (BitVec 8)) (x y z : Nat) (hl : (sealed c).length ≤ 104) (hx : x < 8 * (sealed c).length) (hy : y < 8 * (sealed c).length) (hz : z < 8 * (sealed c).length) :
    isSealed (flip (flip (flip (sealed c) x) y) z) = false ∧ ((errors (sealed c) (flip (flip (flip (sealed c) x) y) z)).1 = 1 ∨ (errors (sealed c) (flip (flip (flip (sealed c) x) y) z)).1 = 3) := by
  by_cases hxy : x = y
  · subst hxy; rw [flip_flip]; exact ⟨one_bit c z hz, .inl (cnt_flip1 _ _ hz)⟩
  by_cases hxz : x = z
  · subst hxz; rw [flip_comm (sealed c), flip_flip]; exact ⟨one_bit c y hy, .inl (cnt_flip1 _ _ hy)⟩
  by_cases hyz : y = z
  · subst hyz; rw [flip_flip]; exact ⟨one_bit c x hx, .inl (cnt_flip1 _ _ hx)⟩
  have l1 : (bx (e1 (sealed c).length x) (e1 (sealed c).length y)).length = (sealed c).length := by rw [bx_length _ _ (by rw [e1_length, e1_length]), e1_length]
  have l2 : (bx (bx (e1 (sealed c).length x) (e1 (sealed c).length y)) (e1 (sealed c).length z)).length = (sealed c).length := by rw [bx_length _ _ (by rw [l1, e1_length]), l1]
  refine ⟨?_, .inr ?_⟩
  · rw [Bool.eq_false_iff]; intro h
    rw [flip3] at h
    have := undetected c _ l2 h
    rw [reg_bx0 _ _ (by rw [l1, e1_length]), reg_bx0 _ _ (by rw [e1_length, e1_length]), reg_e1 _ _ hx, reg_e1 _ _ hy, reg_e1 _ _ hz] at this
    exact trip_ne _ _ _ (by omega) (by omega) (by omega) (by omega) (by omega) (by omega) this
  · rw [errors_cnt _ _ (by rw [flip_length, flip_length, flip_length]), flip3, bx_self _ _ l2]
    rw [cnt_congr _ (fun p => (p == x ^^ p == y) ^^ p == z) _ fun p hp => by
      rw [bitAt_bx _ _ (by rw [l1, e1_length]), bitAt_bx _ _ (by rw [e1_length, e1_length]), bitAt_e1 _ _ _ hp, bitAt_e1 _ _ _ hp, bitAt_e1 _ _ _ hp]]
    rw [cnt_or (fun p => p == x ^^ p == y) (fun p => p == z) _ (by
      intro p _ ⟨h1, h2⟩
      have e := beq_iff_eq.1 h2
      subst e
      have a1 : (p == x) = false := by simp; omega
      have a2 : (p == y) = false := by simp; omega
      rw [a1, a2] at h1; cases h1)]
    rw [cnt_or (fun p => p == x) (fun p => p == y) _ (by
      intro p _ ⟨h1, h2⟩
      have := beq_iff_eq.1 h1; have := beq_iff_eq.1 h2; omega)]
    rw [cnt_one, cnt_one, cnt_one, if_pos hx, if_pos hy, if_pos hz]; rfl

/-! a burst -/
def burst (s : List (BitVec 8)) (lo : Nat) (pat : BitVec 32) : Nat → List (BitVec 8)
  | 0 => s
  | k + 1 => if pat.getLsbD k then flip (burst s lo pat k) (lo + k) else burst s lo pat k
theorem burst_length (s : List (BitVec 8)) (lo : Nat) (pat : BitVec 32) (k : Nat) : (burst s lo pat k).length = s.length := by
  induction k with
  | zero => rfl
  | succ k ih => simp only [burst]; split <;> simp [flip_length, ih]
/-- the damage of the first k bits of a pattern -/
def dmg (L lo : Nat) (pat : BitVec 32) : Nat → List (BitVec 8)
  | 0 => List.replicate L 0#8
  | k + 1 => if pat.getLsbD k then bx (dmg L lo pat k) (e1 L (lo + k)) else dmg L lo pat k
theorem dmg_length (L lo : Nat) (pat : BitVec 32) (k : Nat) : (dmg L lo pat k).length = L := by
  induction k with
  | zero => simp [dmg]
  | succ k ih =>
    simp only [dmg]; split
    · rw [bx_length _ _ (by rw [ih, e1_length]), ih]
    · exact ih
theorem bx_zeros (s : List (BitVec 8)) : bx s (List.replicate s.length 0#8) = s := by
  apply List.ext_getElem
  · simp [bx]
  · intro i h1 h2
    simp only [bx, List.getElem_zipWith, List.getElem_replicate, BitVec.xor_zero]
theorem burst_dmg (s : List (BitVec 8)) (lo : Nat) (pat : BitVec 32) (k : Nat) : burst s lo pat k = bx s (dmg s.length lo pat k) := by
  induction k with
  | zero => exact (bx_zeros s).symm
  | succ k ih =>
    simp only [burst, dmg]
    split
    · rw [flip_bx, burst_length, ih, bx_assoc]
    · exact ih
/-- the pattern's first k bits -/
def low (pat : BitVec 32) : Nat → BitVec 32
  | 0 => 0#32
  | k + 1 => if pat.getLsbD k then low pat k ^^^ (1#32 <<< k) else low pat k
theorem low_bit (pat : BitVec 32) (k : Nat) (hk : k ≤ 32) : ∀ i, i < 32 → (low pat k).getLsbD i = (decide (i < k) && pat.getLsbD i) := by
  induction k with
  | zero => intro i _; simp [low]
  | succ k ih =>
    intro i hi
    have ih' := ih (by omega) i hi
    have e1 : (1#32 <<< k).getLsbD i = (i == k) := by
      rw [BitVec.getLsbD_shiftLeft]
      by_cases h : i < k
      · have : (i == k) = false := by simp; omega
        simp [h, this]
      · by_cases h2 : i = k
        · subst h2; simp [hi]
        · have : (i == k) = false := by simpa using h2
          have : (1#32).getLsbD (i - k) = false := by
            rw [BitVec.getLsbD_one]; simp; omega
          simp [*]
    simp only [low]
    by_cases hp : pat.getLsbD k = true
    · rw [if_pos hp, BitVec.getLsbD_xor, ih', e1]
      by_cases h2 : i = k
      · subst h2; simp [hp]
      · have : (i == k) = false := by simpa using h2
        rw [this, Bool.xor_false]
        by_cases h3 : i < k
        · simp [h3, show i < k + 1 by omega]
        · simp [h3, show ¬ i < k + 1 by omega]
    · rw [if_neg hp, ih']
      by_cases h2 : i = k
      · subst h2
        have : pat.getLsbD i = false := by simpa using hp
        simp [this]
      · by_cases h3 : i < k
        · simp [h3, show i < k + 1 by omega]
        · simp [h3, show ¬ i < k + 1 by omega]
theorem low_32 (pat : BitVec 32) : low pat 32 = pat := by
  apply BitVec.eq_of_getLsbD_eq
  intro i hi
  rw [low_bit pat 32 (Nat.le_refl _) i hi]; simp [hi]
theorem reg_dmg (L lo : Nat) (pat : BitVec 32) (h : lo + 32 ≤ 8 * L) (k : Nat) (hk : k ≤ 32) : reg 0#32 (dmg L lo pat k) = T (8 * L - lo) (low pat k) := by
  induction k with
  | zero => show reg 0#32 (List.replicate L 0#8) = T (8 * L - lo) 0#32; rw [reg_zeros, T_z, T_z]
  | succ k ih =>
    simp only [dmg, low]
    split
    · rw [reg_bx0 _ _ (by rw [dmg_length, e1_length]), ih (by omega), reg_e1 _ _ (by omega), T_xor]
      congr 1
      have e : 8 * L - lo = k + (8 * L - (lo + k)) := by omega
      have hT : (1#32).toNat * 2 ^ k < 2 ^ 32 := by
        have : 2 ^ k < 2 ^ 32 := Nat.pow_lt_pow_right (by decide) (by omega)
        show 1 * 2 ^ k < 2 ^ 32; omega
      have h2 := T_add k (8 * L - (lo + k)) (1#32 <<< k)
      rw [T_shl k 1#32 hT, ← e] at h2
      exact h2.symm
    · exact ih (by omega)
theorem bitAt_dmg (L lo : Nat) (pat : BitVec 32) (k p : Nat) (hp : p < 8 * L) (hk : k ≤ 32) : bitAt (dmg L lo pat k) p = (decide (lo ≤ p ∧ p < lo + k) && pat.getLsbD (p - lo)) := by
  induction k with
  | zero =>
    have h1 : p / 8 < L := by omega
    simp [dmg, bitAt, List.getD, h1]
    intro h2 h3; omega
  | succ k ih =>
    have ih' := ih (by omega)
    simp only [dmg]
    by_cases hpk : pat.getLsbD k = true
    · rw [if_pos hpk, bitAt_bx _ _ (by rw [dmg_length, e1_length]), ih', bitAt_e1 _ _ _ hp]
      by_cases e : p = lo + k
      · subst e
        simp [hpk]
      · have e2 : (p == lo + k) = false := by simpa using e
        rw [e2, Bool.xor_false]
        congr 1
        rw [Bool.eq_iff_iff, decide_eq_true_eq, decide_eq_true_eq]; omega
    · rw [if_neg hpk, ih']
      by_cases e : p = lo + k
      · subst e
        have h1 : pat.getLsbD k = false := by simpa using hpk
        simp [h1]
      · congr 1
        rw [Bool.eq_iff_iff, decide_eq_true_eq, decide_eq_true_eq]; omega
theorem bitAt_out (e : List (BitVec 8)) (p : Nat) (h : 8 * e.length ≤ p) : bitAt e p = false := by
  unfold bitAt
  have : ¬ p / 8 < e.length := by omega
  simp [List.getD, this]
theorem burst_law (c : List (BitVec 8)) (lo : Nat) (pat : BitVec 32) (hp : pat ≠ 0#32) (h : lo + 32 ≤ 8 * (sealed c).length) :
    isSealed (burst (sealed c) lo pat 32) = false ∧ 0 < (errors (sealed c) (burst (sealed c) lo pat 32)).1 ∧ 0 < (errors (sealed c) (burst (sealed c) lo pat 32)).2 ∧ (errors (sealed c) (burst (sealed c) lo pat 32)).2 ≤ 32 := by
  have hd := dmg_length (sealed c).length lo pat 32
  constructor
  · rw [Bool.eq_false_iff]; intro hs
    rw [burst_dmg] at hs
    have := undetected c _ hd hs
    rw [reg_dmg _ _ _ h _ (Nat.le_refl _), low_32] at this
    exact hp (T_zero _ _ this)
  · obtain ⟨i, hi, hb⟩ : ∃ i, i < 32 ∧ pat.getLsbD i = true := by
      refine Classical.byContradiction fun hn => hp ?_
      apply BitVec.eq_of_getLsbD_eq
      intro i hi
      have : ¬ pat.getLsbD i = true := fun e => hn ⟨i, hi, e⟩
      simpa using this
    refine errors_burst _ _ (burst_length _ _ _ _).symm lo ?_ (lo + i) (by omega) ?_
    · intro p hb
      rw [burst_dmg, bx_self _ _ hd] at hb
      by_cases hpl : p < 8 * (sealed c).length
      · rw [bitAt_dmg _ _ _ _ _ hpl (Nat.le_refl _)] at hb
        simp only [Bool.and_eq_true, decide_eq_true_eq] at hb
        exact hb.1
      · rw [bitAt_out _ _ (by rw [hd]; omega)] at hb; cases hb
    · rw [burst_dmg, bx_self _ _ hd, bitAt_dmg _ _ _ _ _ (by omega) (Nat.le_refl _)]
      simp [hb, hi]
end Go.Proofs.YtdmfjmdnkfeljaaDoor
