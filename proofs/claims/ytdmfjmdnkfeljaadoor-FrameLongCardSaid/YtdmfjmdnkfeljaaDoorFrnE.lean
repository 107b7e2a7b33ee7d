/- A packet that does not end: plain facts. No program in sight. -/
import Derived.Test.YtdmfjmdnkfeljaaDoorFrmQ
import Derived.Test.YtdmfjmdnkfeljaaDoorFrnC
namespace Go.Proofs.YtdmfjmdnkfeljaaDoor

def longS (x : Byte) (k : Nat) : Sc := if k ≤ 162 then ⟨true, List.replicate k x, 0⟩ else ⟨false, [], 1⟩
theorem longS_push {x : Byte} (hx : isData x = true) (k : Nat) : (longS x k).push x = (longS x (k + 1), none) := by
  unfold longS
  by_cases h : k ≤ 162
  · rw [if_pos h]
    by_cases h2 : k + 1 ≤ 162
    · rw [if_pos h2, push_data hx rfl (by simp; omega)]
      simp [List.replicate_succ']
    · rw [if_neg h2, push_bad (data_ne x hx).1 rfl (fun hh => by have := hh.2; simp at this; omega) (fun hh => (data_ne x hx).2 hh.1)]
  · rw [if_neg h, if_neg (by omega), push_out (data_ne x hx).1 rfl]
theorem longS_bad (x : Byte) (k : Nat) : (longS x k).bad = if 162 < k then 1 else 0 := by
  unfold longS
  by_cases h : k ≤ 162
  · rw [if_pos h, if_neg (by omega)]
  · rw [if_neg h, if_pos (by omega)]
theorem decB_rep (x : Byte) : ∀ m, decB (List.replicate (2 * m) x) = List.replicate m (BitVec.ofNat 8 (16 * idx x + idx x))
  | 0 => rfl
  | m + 1 => by
    rw [show 2 * (m + 1) = (2 * m) + 1 + 1 by omega, List.replicate_succ, List.replicate_succ, List.replicate_succ]
    show _ :: decB _ = _
    rw [decB_rep x m]
theorem long_stop {x : Byte} (hx : isData x = true) (k : Nat) : ¬ ((decS (List.replicate k x)).2.2 = 0 ∧ (decP (decS (List.replicate k x)).1).2 = 0) := by
  have hd : ∀ s ∈ List.replicate k x, isData s = true := fun s hs => by rw [List.eq_of_mem_replicate hs]; exact hx
  by_cases hk : (List.replicate k x).length % 2 = 0
  · rw [decS_good hd hk]
    rintro ⟨_, h⟩
    rw [List.length_replicate] at hk
    obtain ⟨m, rfl⟩ : ∃ m, k = 2 * m := ⟨k / 2, by omega⟩
    dsimp only at h
    rw [decB_rep] at h
    have hi : idx x < 16 := by simpa [isData] using hx
    obtain ⟨y, hy⟩ : ∃ y, y = BitVec.ofNat 8 (16 * idx x + idx x) := ⟨_, rfl⟩
    have hyn : y.toNat = 17 * idx x := by rw [hy, BitVec.toNat_ofNat]; omega
    rw [← hy] at h
    obtain ⟨p, hp⟩ : ∃ p, decP (List.replicate m y) = (p, 0) := ⟨(decP (List.replicate m y)).1, by rw [← h]⟩
    obtain ⟨hg, he⟩ := decP_good hp
    have hl : 17 ≤ m := by have := congrArg List.length he; rw [encP_length, List.length_replicate] at this; omega
    have h0 : (encP p).getD 0 0 = y := by rw [he]; unfold List.getD; rw [List.getElem?_replicate, if_pos (by omega)]; rfl
    have h1 : (encP p).getD 1 0 = y := by rw [he]; unfold List.getD; rw [List.getElem?_replicate, if_pos (by omega)]; rfl
    have h0' : p.kind = y := h0
    have h1' : BitVec.ofInt 8 p.cls = y := h1
    have h2 : (BitVec.ofInt 8 p.cls).toNat < 4 := by
      rw [BitVec.toNat_ofInt]; have := hg.c0; have := hg.c1; omega
    rw [h1'] at h2
    have h3 : y = 0 := by apply BitVec.eq_of_toNat_eq; rw [hyn]; simp; omega
    exact hg.kind (h0'.trans h3)
  · rw [decS_odd hd hk]
    rintro ⟨h, _⟩
    exact absurd (show (4 : Int) = 0 from h) (by decide)
theorem longS_stop {x : Byte} (hx : isData x = true) (k : Nat) : (longS x k).push 50 = (⟨false, [], 1⟩, none) := by
  unfold longS
  by_cases h : k ≤ 162
  · rw [if_pos h, push_bad (by decide) rfl (fun hh => absurd hh.1 (by decide)) (fun hh => long_stop hx k hh.2)]
  · rw [if_neg h, push_out (by decide) rfl]
end Go.Proofs.YtdmfjmdnkfeljaaDoor
