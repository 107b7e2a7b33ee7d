/- Plain lemmas on a sender that carries packets one after another. No program in sight. -/
import Derived.Test.YtgpeekicpkgpmaaRetM
namespace Go.Proofs.Ytgpeekicpkgpmaa

def oneB (i : Nat) : Bytes := [BitVec.ofNat 8 i]
def ksB (f : Nat → Bytes) (n : Nat) : List Bytes := (List.range n).map f
/-- n packets were offered, a are acknowledged, the position is p, h were sent -/
def qS (f : Nat → Bytes) (w n a p h : Nat) : Snd := ⟨w, 5, (ksB f n).drop a, a, p, h, 0⟩
variable {f : Nat → Bytes}
theorem ksB_length (n : Nat) : (ksB f n).length = n := by simp [ksB]
theorem ksB_succ (n : Nat) : ksB f (n + 1) = ksB f n ++ [f n] := by simp [ksB, List.range_succ]
theorem ksB_get (n i : Nat) (h : i < n) : (ksB f n)[i]? = some (f i) := by simp [ksB, h]
theorem qS_kept (w n a p h : Nat) : (qS f w n a p h).kept.length = n - a := by simp [qS, ksB]
theorem qS_ok (hf : ∀ i, (f i).length ≤ 64) (w n a p h : Nat) (h1 : 1 ≤ w) (h2 : w ≤ 128) (h3 : n ≤ w + a) (h4 : p ≤ h) (h5 : h ≤ n - a) : (qS f w n a p h).Ok := by
  refine ⟨h1, h2, by simp [qS], by simp [qS], ?_, h4, ?_, by simp [qS], ?_⟩
  · rw [qS_kept]; show n - a ≤ w; omega
  · rw [qS_kept]; exact h5
  · intro d hd
    have := List.mem_of_mem_drop hd
    simp only [ksB, List.mem_map] at this
    obtain ⟨i, _, rfl⟩ := this
    exact hf i
theorem qS_total (w n a p h : Nat) (h0 : n < 1000000) (h1 : a < 1000000) : (qS f w n a p h).total < 1000000000000 := by
  unfold Snd.total; rw [qS_kept]; show a + (n - a) < _; omega
theorem qS_offer (hf : ∀ i, (f i).length ≤ 64) (w n a p h : Nat) (h0 : a ≤ n) (h1 : n < w + a) : (qS f w n a p h).offer (f n) = (0, qS f w (n + 1) a p h) := by
  unfold Snd.offer
  rw [if_neg (by have := hf n; omega), if_neg (by rw [qS_kept]; show ¬ w ≤ n - a; omega)]
  have : (ksB f n).drop a ++ [f n] = (ksB f (n + 1)).drop a := by
    rw [ksB_succ, List.drop_append_of_le_length (by rw [ksB_length]; exact h0)]
  simp only [qS, this]
theorem qS_full (w n a p h : Nat) (h1 : n = w + a) : (qS f w n a p h).offer [] = (5, qS f w n a p h) := by
  unfold Snd.offer
  rw [if_neg (by simp), if_pos (by rw [qS_kept]; show w ≤ n - a; omega)]
theorem qS_tick (w n a p h : Nat) (h1 : a + p < n) : (qS f w n a p h).tick = (some ((a + p) % 256, f (a + p)), qS f w n a (p + 1) (max h (p + 1))) := by
  unfold Snd.tick
  rw [if_neg (by rw [qS_kept]; omega), if_neg (by rw [qS_kept]; show ¬ n - a ≤ p; omega)]
  have e : (qS f w n a p h).kept.getD (qS f w n a p h).pos [] = f (a + p) := by
    show ((ksB f n).drop a).getD p [] = _
    rw [List.getD_eq_getElem?_getD, List.getElem?_drop, ksB_get n (a + p) h1]; rfl
  unfold Snd.send
  rw [e]; rfl
theorem qS_tick' (w n m i h : Nat) (h0 : m ≤ i) (h1 : i < n) : (qS f w n m (i - m) h).tick = (some (i % 256, f i), qS f w n m (i + 1 - m) (max h (i + 1 - m))) := by
  have e : m + (i - m) = i := by omega
  have e' : i - m + 1 = i + 1 - m := by omega
  have := qS_tick (f := f) w n m (i - m) h (by omega)
  rw [e, e'] at this; exact this
theorem qS_count0 (w n p k : Nat) (x : Int) (h2 : k ≤ 128) : (qS f w n 0 p k).count x = if 0 ≤ x ∧ x ≤ k then some x.toNat else none := by
  unfold Snd.count
  by_cases hx : x < 0 ∨ 256 ≤ x
  · rw [if_pos hx, if_neg (by omega)]
  · have e : (x.toNat + 256 - (qS f w n 0 p k).acked % 256) % 256 = x.toNat := by show (x.toNat + 256 - 0 % 256) % 256 = _; omega
    rw [if_neg hx, e]
    by_cases h : 0 ≤ x ∧ x ≤ k
    · rw [if_neg (by show ¬ k < x.toNat; omega), if_pos h]
    · rw [if_pos (by show k < x.toNat; omega), if_neg h]
theorem qS_accept0 (w n k m : Nat) (h1 : m ≤ k) (h2 : k ≤ 128) : (qS f w n 0 k k).accept (m : Int) = ((m, true), if m = 0 then qS f w n 0 k k else qS f w n m (k - m) (k - m)) := by
  unfold Snd.accept
  rw [qS_count0 w n k k _ h2, if_pos (by omega)]
  by_cases h0 : m = 0
  · simp [Snd.drop, h0]
  · simp [Snd.drop, h0, qS]
theorem qS_accept_no (w n p k : Nat) (x : Int) (h1 : ¬ (0 ≤ x ∧ x ≤ k)) (h2 : k ≤ 128) : (qS f w n 0 p k).accept x = ((0, false), qS f w n 0 p k) := by
  unfold Snd.accept
  rw [qS_count0 w n p k _ h2, if_neg h1]
theorem qS_nak (w n k m : Nat) (h1 : m ≤ k) (h2 : k ≤ 128) : (qS f w n 0 k k).nak (m : Int) = (m, qS f w n m 0 (k - m)) := by
  unfold Snd.nak
  rw [qS_accept0 w n k m h1 h2]
  by_cases h0 : m = 0
  · subst h0; simp [qS]
  · simp [h0, qS]
theorem qS_nak_no (w n p k : Nat) (x : Int) (h1 : ¬ (0 ≤ x ∧ x ≤ k)) (h2 : k ≤ 128) : (qS f w n 0 p k).nak x = (0, qS f w n 0 p k) := by
  unfold Snd.nak; rw [qS_accept_no w n p k x h1 h2]; rfl
theorem qS_ack_no (w n p k : Nat) (x : Int) (h1 : ¬ (0 ≤ x ∧ x ≤ k)) (h2 : k ≤ 128) : (qS f w n 0 p k).ack x = (0, qS f w n 0 p k) := by
  unfold Snd.ack; rw [qS_accept_no w n p k x h1 h2]
theorem qS_ack0 (w n k m : Nat) (h1 : m ≤ k) (h2 : k ≤ 128) : (qS f w n 0 k k).ack (m : Int) = (m, qS f w n m (k - m) (k - m)) := by
  unfold Snd.ack
  rw [qS_accept0 w n k m h1 h2]
  by_cases h0 : m = 0
  · subst h0; simp
  · simp [h0]
/-- everything that was sent is acknowledged, modulo 256 -/
theorem qS_ack_all (w n a : Nat) (h0 : a < n) (h1 : n - a ≤ 128) : (qS f w n a (n - a) (n - a)).ack ((n % 256 : Nat) : Int) = (n - a, qS f w n n 0 0) := by
  have hc : (qS f w n a (n - a) (n - a)).count ((n % 256 : Nat) : Int) = some (n - a) := by
    unfold Snd.count
    have e : (((n % 256 : Nat) : Int).toNat + 256 - (qS f w n a (n - a) (n - a)).acked % 256) % 256 = n - a := by show (((n % 256 : Nat) : Int).toNat + 256 - a % 256) % 256 = _; omega
    rw [if_neg (by omega), e, if_neg (by show ¬ n - a < n - a; omega)]
  unfold Snd.ack Snd.accept
  rw [hc]
  have h2 : ¬ n - a = 0 := by omega
  have h3 : a + (n - a) = n := by omega
  simp [Snd.drop, h2, qS, h3]
end Go.Proofs.Ytgpeekicpkgpmaa
