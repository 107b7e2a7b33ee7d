/- A sealed string with one to three changed bits, or with changed bits in a window of 32, is not sealed. No program in sight. -/
import Derived.Test.YtdmfjmdnkfeljaaDoorCrcQ
import Derived.Test.YtdmfjmdnkfeljaaDoorMgC
namespace Go.Proofs.YtdmfjmdnkfeljaaDoor

theorem ext_bitAt (a b : List (BitVec 8)) (h : a.length = b.length) (hb : ∀ p, p < 8 * a.length → bitAt a p = bitAt b p) : a = b := by
  apply List.ext_getElem h
  intro i h1 h2
  apply BitVec.eq_of_getLsbD_eq
  intro j hj
  have := hb (8 * i + j) (by omega)
  unfold bitAt at this
  rw [show (8 * i + j) / 8 = i by omega, show (8 * i + j) % 8 = j by omega] at this
  simpa [List.getD, h1, h2] using this
/-- between the first and the last difference lie all of them -/
def Ends (f : Nat → Bool) (n : Nat) (s : Int × Int × Int) : Prop :=
  (s.2.1 < 0 ∧ ∀ p, p < n → f p = false) ∨ (0 ≤ s.2.1 ∧ s.2.1 < n ∧ ∀ p, p < n → f p = true → s.2.1 ≤ p ∧ (p : Int) ≤ s.2.2)
theorem Ends.step {f : Nat → Bool} {n : Nat} {s : Int × Int × Int} (h : Ends f n s) : Ends f (n + 1) (if f n then (s.1 + 1, if s.2.1 < 0 then (n : Int) else s.2.1, (n : Int)) else s) := by
  cases hf : f n with
  | false =>
    simp only [Bool.false_eq_true, if_false]
    rcases h with ⟨h1, h2⟩ | ⟨h1, h2, h3⟩
    · refine .inl ⟨h1, fun p hp => ?_⟩
      by_cases e : p = n
      · subst e; exact hf
      · exact h2 p (by omega)
    · refine .inr ⟨h1, by omega, fun p hp hb => ?_⟩
      by_cases e : p = n
      · subst e; rw [hf] at hb; cases hb
      · exact h3 p (by omega) hb
  | true =>
    simp only [if_true]
    rcases h with ⟨h1, h2⟩ | ⟨h1, h2, h3⟩
    · rw [if_pos h1]
      refine .inr ⟨by dsimp only; omega, by dsimp only; omega, fun p hp hb => ?_⟩
      dsimp only
      by_cases e : p = n
      · omega
      · rw [h2 p (by omega)] at hb; cases hb
    · rw [if_neg (by omega)]
      refine .inr ⟨h1, by dsimp only; omega, fun p hp hb => ?_⟩
      dsimp only
      by_cases e : p = n
      · omega
      · have := h3 p (by omega) hb; omega
theorem refErrs_in (a b : List (BitVec 8)) (h : a.length = b.length) (k : Nat) (hk : k ≤ a.length) : Ends (bitAt (bx a b)) (8 * k) (refErrs a b k) := by
  have bits : ∀ (i : Nat), i < a.length → ∀ j, j < 8 → bitAt (bx a b) (8 * i + j) = (a.getD i 0 ^^^ b.getD i 0).getLsbD j := by
    intro i hi j hj
    unfold bitAt
    rw [show (8 * i + j) / 8 = i by omega, show (8 * i + j) % 8 = j by omega]
    congr 1
    have h2 : i < b.length := by omega
    simp [bx, List.getD, List.getElem?_zipWith, hi, h2]
  induction k with
  | zero => exact .inl ⟨by show (-1 : Int) < 0; decide, fun p hp => by omega⟩
  | succ k ih =>
    have e2 : refErrs a b (k + 1) = refBitsE (a.getD k 0 ^^^ b.getD k 0) k (refErrs a b k) 8 := rfl
    rw [e2]
    have hb := bits k (by omega)
    generalize a.getD k 0 ^^^ b.getD k 0 = d at *
    have step : ∀ j, j ≤ 8 → Ends (bitAt (bx a b)) (8 * k + j) (refBitsE d k (refErrs a b k) j) := by
      intro j
      induction j with
      | zero => intro _; exact ih (by omega)
      | succ j ihj =>
        intro hj
        have e3 : refBitsE d k (refErrs a b k) (j + 1) = refStep d k (refBitsE d k (refErrs a b k) j) j := rfl
        rw [e3]
        have := (ihj (by omega)).step
        rw [hb j (by omega)] at this
        unfold refStep
        rw [show ((8 * k + j : Nat) : Int) = 8 * (k : Int) + j by omega] at this
        exact this
    exact step 8 (Nat.le_refl _)
/-- a pattern from its bits -/
def patOf (f : Nat → Bool) : Nat → BitVec 32
  | 0 => 0#32
  | k + 1 => if f k then patOf f k ^^^ (1#32 <<< k) else patOf f k
theorem patOf_bit (f : Nat → Bool) (k : Nat) (hk : k ≤ 32) : ∀ i, i < 32 → (patOf f k).getLsbD i = (decide (i < k) && f i) := by
  induction k with
  | zero => intro i _; simp [patOf]
  | succ k ih =>
    intro i hi
    have ih' := ih (by omega) i hi
    have e1 : (1#32 <<< k).getLsbD i = (i == k) := by
      rw [BitVec.getLsbD_shiftLeft]
      by_cases h : i < k
      · have : (i == k) = false := by simp; omega
        simp [h, this]
      · by_cases h2 : i = k
        · subst h2; simp [hi]
        · have : (i == k) = false := by simpa using h2
          have : (1#32).getLsbD (i - k) = false := by
            rw [BitVec.getLsbD_one]; simp; omega
          simp [*]
    simp only [patOf]
    by_cases hp : f k = true
    · rw [if_pos hp, BitVec.getLsbD_xor, ih', e1]
      by_cases h2 : i = k
      · subst h2; simp [hp]
      · have : (i == k) = false := by simpa using h2
        rw [this, Bool.xor_false]
        by_cases h3 : i < k
        · simp [h3, show i < k + 1 by omega]
        · simp [h3, show ¬ i < k + 1 by omega]
    · rw [if_neg hp, ih']
      by_cases h2 : i = k
      · subst h2
        have : f i = false := by simpa using hp
        simp [this]
      · by_cases h3 : i < k
        · simp [h3, show i < k + 1 by omega]
        · simp [h3, show ¬ i < k + 1 by omega]
theorem reg_window (e : List (BitVec 8)) (lo : Nat) (h : lo + 32 ≤ 8 * e.length) (hw : ∀ p, p < 8 * e.length → bitAt e p = true → lo ≤ p ∧ p < lo + 32) (q : Nat) (hq : q < 8 * e.length) (hb : bitAt e q = true) : reg 0#32 e ≠ 0#32 := by
  intro hr
  have he : e = dmg e.length lo (patOf (fun i => bitAt e (lo + i)) 32) 32 := by
    refine ext_bitAt _ _ (dmg_length _ _ _ _).symm fun p hp => ?_
    rw [bitAt_dmg _ _ _ _ _ hp (Nat.le_refl _)]
    by_cases hin : lo ≤ p ∧ p < lo + 32
    · rw [patOf_bit _ 32 (Nat.le_refl _) _ (by omega)]
      have e1 : lo + (p - lo) = p := by omega
      have e2 : p - lo < 32 := by omega
      simp [hin, e1, e2]
    · have : ¬ bitAt e p = true := fun hb => hin (hw p hp hb)
      simp only [hin, decide_false, Bool.false_and]
      simpa using this
  rw [he, reg_dmg _ _ _ (by omega) _ (Nat.le_refl _), low_32] at hr
  have hz := T_zero _ _ hr
  obtain ⟨h1, h2⟩ := hw q hq hb
  have := patOf_bit (fun i => bitAt e (lo + i)) 32 (Nat.le_refl _) (q - lo) (by omega)
  rw [hz] at this
  have e1 : lo + (q - lo) = q := by omega
  have e2 : q - lo < 32 := by omega
  simp [e1, e2, hb] at this
theorem cnt_find (f : Nat → Bool) (n : Nat) (h : 0 < cnt f n) : ∃ p, p < n ∧ f p = true := by
  induction n with
  | zero => exact absurd h (Nat.lt_irrefl 0)
  | succ n ih =>
    simp only [cnt] at h
    by_cases hf : f n = true
    · exact ⟨n, by omega, hf⟩
    · have : f n = false := by simpa using hf
      rw [this] at h
      obtain ⟨p, hp, hb⟩ := ih (by simpa using h)
      exact ⟨p, by omega, hb⟩
theorem peel (e : List (BitVec 8)) (n : Nat) (h : cnt (bitAt e) (8 * e.length) = n + 1) :
    ∃ (x : Nat) (g : List (BitVec 8)), x < 8 * e.length ∧ g.length = e.length ∧ bitAt e x = true ∧ (∀ p, p < 8 * e.length → bitAt g p = (bitAt e p ^^ (p == x))) ∧ e = bx g (e1 e.length x) ∧ cnt (bitAt g) (8 * g.length) = n := by
  obtain ⟨x, hx, hb⟩ := cnt_find _ _ (by rw [h]; omega)
  have hl : (bx e (e1 e.length x)).length = e.length := bx_length _ _ (e1_length _ _).symm
  have hg : ∀ p, p < 8 * e.length → bitAt (bx e (e1 e.length x)) p = (bitAt e p ^^ (p == x)) := fun p hp => by
    rw [bitAt_bx _ _ (e1_length _ _).symm, bitAt_e1 _ _ _ hp]
  refine ⟨x, bx e (e1 e.length x), hx, hl, hb, hg, ?_, ?_⟩
  · refine ext_bitAt _ _ (by rw [bx_length _ _ (by rw [hl, e1_length]), hl]) fun p hp => ?_
    rw [bitAt_bx _ _ (by rw [hl, e1_length]), hg p hp, bitAt_e1 _ _ _ hp, Bool.xor_assoc, Bool.xor_self, Bool.xor_false]
  · rw [hl]
    have h1 := cnt_or (bitAt (bx e (e1 e.length x))) (fun p => p == x) (8 * e.length) (fun p hp ⟨ha, hc⟩ => by
      have : p = x := by simpa using hc
      subst this
      rw [hg p hp, hb] at ha; simp at ha)
    rw [cnt_one, if_pos hx] at h1
    have h2 : cnt (fun p => bitAt (bx e (e1 e.length x)) p ^^ (p == x)) (8 * e.length) = cnt (bitAt e) (8 * e.length) := cnt_congr _ _ _ fun p hp => by
      rw [hg p hp, Bool.xor_assoc, Bool.xor_self, Bool.xor_false]
    omega
theorem reg_none (e : List (BitVec 8)) (h : cnt (bitAt e) (8 * e.length) = 0) : reg 0#32 e = 0#32 := by
  have he : e = List.replicate e.length 0#8 := by
    refine ext_bitAt _ _ (by simp) fun p hp => ?_
    have h1 : ¬ bitAt e p = true := fun hb => by have := cnt_pos _ _ p hp hb; omega
    have h2 : bitAt (List.replicate e.length 0#8) p = false := by
      have h3 : p / 8 < e.length := by omega
      simp [bitAt, List.getD, h3]
    rw [h2]; simpa using h1
  rw [he, reg_zeros, T_z]
theorem reg_peel (e g : List (BitVec 8)) (x : Nat) (hx : x < 8 * e.length) (hl : g.length = e.length) (h : e = bx g (e1 e.length x)) : reg 0#32 e = reg 0#32 g ^^^ T (8 * e.length - x) 1#32 := by
  have : reg 0#32 (bx g (e1 e.length x)) = reg 0#32 g ^^^ T (8 * e.length - x) 1#32 := by
    rw [reg_bx0 _ _ (by rw [hl, e1_length]), reg_e1 _ _ hx]
  rwa [← h] at this
theorem reg_bits (e : List (BitVec 8)) (hl : e.length ≤ 104) (h1 : 1 ≤ cnt (bitAt e) (8 * e.length)) (h3 : cnt (bitAt e) (8 * e.length) ≤ 3) : reg 0#32 e ≠ 0#32 := by
  intro hr
  obtain ⟨n, hn⟩ : ∃ n, cnt (bitAt e) (8 * e.length) = n + 1 := ⟨cnt (bitAt e) (8 * e.length) - 1, by omega⟩
  obtain ⟨x, g, hx, hg, hbx, hbg, hex, hcn⟩ := peel e n hn
  have rx := reg_peel e g x hx hg hex
  by_cases n0 : n = 0
  · subst n0
    rw [reg_none g hcn, hr, BitVec.zero_xor] at rx
    exact absurd (T_zero _ _ rx.symm) (by decide)
  · obtain ⟨m, rfl⟩ : ∃ m, n = m + 1 := ⟨n - 1, by omega⟩
    obtain ⟨y, g2, hy, hg2, hby, hbg2, hey, hcm⟩ := peel g m hcn
    have ry := reg_peel g g2 y hy hg2 hey
    rw [hg] at ry hy hbg2
    have hyx : y ≠ x := by
      intro e0; subst e0
      rw [hbg y hy, hbx] at hby; simp at hby
    by_cases m0 : m = 0
    · subst m0
      rw [ry, reg_none g2 hcm, hr, BitVec.zero_xor] at rx
      exact pair_ne _ _ (by omega) (by omega) (by omega) (xor_eq_zero _ _ rx.symm)
    · have : m = 1 := by omega
      subst this
      obtain ⟨z, g3, hz, hg3, hbz, hbg3, hez, hcz⟩ := peel g2 0 hcm
      have rz := reg_peel g2 g3 z hz hg3 hez
      rw [hg2, hg] at rz hz hbg3
      have hzy : z ≠ y := by
        intro e0; subst e0
        rw [hbg2 z hz, hby] at hbz; simp at hbz
      have hzx : z ≠ x := by
        intro e0; subst e0
        rw [hbg2 z hz, hbg z hz, hbx] at hbz; simp [Ne.symm hyx] at hbz
      rw [ry, rz, reg_none g3 hcz, hr, BitVec.zero_xor] at rx
      exact trip_ne _ _ _ (by omega) (by omega) (by omega) (by omega) (by omega) (by omega) rx.symm
/-- the law: damage of one to three bits, or inside 32 bits, is seen -/
theorem seen (c d : List (BitVec 8)) (hd : d.length = (sealed c).length) (hl : (sealed c).length ≤ 104) (h4 : 4 ≤ (sealed c).length) (h1 : 1 ≤ (errors (sealed c) d).1)
   (h : (errors (sealed c) d).1 ≤ 3 ∨ (errors (sealed c) d).2 ≤ 32) : isSealed d = false := by
  rw [Bool.eq_false_iff]; intro hs
  have hbl : (bx (sealed c) d).length = (sealed c).length := bx_length _ _ hd.symm
  have hdd : d = bx (sealed c) (bx (sealed c) d) := (bx_self _ _ hd).symm
  rw [hdd] at hs
  have hr := undetected c _ hbl hs
  have hc := errors_cnt (sealed c) d hd.symm
  rcases h with h | h
  · exact reg_bits _ (by omega) (by rw [hbl]; omega) (by rw [hbl]; omega) hr
  · obtain ⟨q, hq, hb⟩ := cnt_find (bitAt (bx (sealed c) d)) (8 * (sealed c).length) (by omega)
    have hin := refErrs_in (sealed c) d hd.symm _ (Nat.le_refl _)
    have hr1 := refErrs_cnt (sealed c) d hd.symm _ (Nat.le_refl _)
    rw [errors_ref _ _ hd.symm] at h
    unfold refErrors at h
    have hpos := cnt_pos _ _ q hq hb
    rw [if_neg (by omega)] at h
    dsimp only at h
    rcases hin with ⟨_, h0⟩ | ⟨h0, h2, h3⟩
    · rw [h0 q hq] at hb; cases hb
    · generalize (refErrs (sealed c) d (sealed c).length).2.1 = f at *
      generalize (refErrs (sealed c) d (sealed c).length).2.2 = l at *
      refine reg_window _ (min f.toNat (8 * (sealed c).length - 32)) (by rw [hbl]; omega) ?_ q (by rw [hbl]; exact hq) hb hr
      intro p hp hbp
      rw [hbl] at hp
      have := h3 p hp hbp
      omega
end Go.Proofs.YtdmfjmdnkfeljaaDoor
