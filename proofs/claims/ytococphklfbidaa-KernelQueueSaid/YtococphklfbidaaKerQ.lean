/- The reference's queue: remove. -/
import Derived.Test.YtococphklfbidaaWalkKernelNow
import Derived.Test.YtococphklfbidaaKerL
import Derived.IntWalk
import Derived.Deep.RegionHeld3
namespace Go.Proofs.Ytococphklfbidaa
open Go.RowKit Go.Maps

theorem EvR.take {w : World} {a : Option Addr} {c : Nat} {l : List Ev} (h : EvR w (.slice a l.length c) l) {k : Nat} (hk : k ≤ l.length) : Rd w 5 (.slice a k c) k (evCells (l.take k)) := by
  obtain ⟨_, a', c', e, h1, h2, h3, h4⟩ := h
  obtain ⟨rfl, rfl⟩ : a = a' ∧ c = c' := by simpa using e
  refine ⟨by rw [evCells_length, List.length_take]; omega, a, c, rfl, by omega, h2, fun e => by have := h3 e; omega, fun b hb j u hj => h4 b hb j u ?_⟩
  rw [← evCells_take, List.getElem?_take] at hj
  split at hj
  · exact hj
  · cases hj
theorem EvR.drop {w : World} {b off c : Nat} {l : List Ev} (h : EvR w (.slice (some ⟨b, off, none⟩) l.length c) l) {k : Nat} (hk : k ≤ l.length) : Rd w 5 (.slice (if c = k then some ⟨b, off, none⟩ else some ⟨b, off + k * 5, none⟩) (l.length - k) (c - k)) (l.length - k) (evCells (l.drop k)) := by
  obtain ⟨_, a', c', e, h1, h2, h3, h4⟩ := h
  obtain ⟨rfl, rfl⟩ : some ⟨b, off, none⟩ = a' ∧ c = c' := by simpa using e
  refine ⟨by rw [evCells_length, List.length_drop], _, c - k, rfl, by omega, by omega, (fun e => by split at e <;> cases e), fun ad hb j u hj => ?_⟩
  have hjl := lt_of_get hj
  rw [evCells_length, List.length_drop] at hjl
  have hck : ¬ c = k := by omega
  rw [if_neg hck] at hb
  obtain rfl := Option.some.inj hb
  rw [← evCells_drop, List.getElem?_drop] at hj
  refine ⟨rfl, ?_⟩
  have := (h4 _ rfl _ u hj).2
  rw [← Nat.add_assoc] at this
  exact this
theorem slREv : SlT Try.prog 50 44 (.agg #[.int .i64 0, .int .i64 0, .int .i64 0, .int .i64 0, .int .i64 0]) 5 40 := ⟨Try.underlying50, info_parts (by kernel_rfl), rfl, by decide⟩
theorem sl_empty5 (w w0 : World) (T : TypeId) (hz : w.heap.size ≤ w0.heap.size) : Sl (w0.alloc (.cells #[] T)) (fun k => w.heap.size ≤ k) T 5 (.slice (some ⟨w0.heap.size, 0, none⟩) 0 0) 0 [] := ⟨by simp, .inr ⟨_, 0, 0, #[], rfl, hz, heap_alloc_new w0 _, Nat.le_refl _, by decide, by simp, by simp⟩⟩
@[go_sem] theorem run_storeCells_nil {P : Program} (a : Addr) (i : Nat) (w : World) : (storeCells a [] i).run P w = .ok () w := rfl
def RemPost (w : World) (l' : List Ev) (e : Ending) (w' : World) : Prop := ∃ (a : Option Addr) (c : Nat), e = .returned (.slice a l'.length c) ∧ EvR w' (.slice a l'.length c) l' ∧ (∀ b, (Value.slice a l'.length c).ownBlock = some b → w.heap.size ≤ b) ∧ Below w.heap.size w w'
set_option maxHeartbeats 4000000 in
theorem remove_any (w : World) (b off c : Nat) (l : List Ev) (h : EvR w (.slice (some ⟨b, off, none⟩) l.length c) l) (hl : l.length ≤ 10000) (i : Nat) (hi : i < l.length) :
    Calls Try.prog 31 #[.slice (some ⟨b, off, none⟩) l.length c, .int .i64 (i : Int)] w (RemPost w (l.take i ++ l.drop (i + 1))) := by
  have hT := h.take (k := i) (by omega)
  have hD := h.drop (k := i + 1) (by omega)
  obtain ⟨_, a', c', e, hc1, hc2, _⟩ := h
  obtain ⟨rfl, rfl⟩ : some ⟨b, off, none⟩ = a' ∧ c = c' := by simpa using e
  have HT := Lib.hid hT; have HD := Lib.hid hD
  unfold maxLen at hc2
  clear hT hD e
  have hx0 : IntKind.i64.wrap ((i : Int) + 1) = (i : Int) + 1 := IntWalk.i64_in _ (by omega)
  have hx1 : (0 : Int) ≤ (i : Int) + 1 ∧ (i : Int) + 1 ≤ (l.length : Int) := by omega
  have hx2 : ((i : Int) + 1).toNat = i + 1 := by omega
  have hx3 : (0 : Int) ≤ (i : Int) ∧ (i : Int) ≤ (c : Int) := by omega
  have hone1 : Hid (∀ u ∈ evCells (l.take i), u.oneCell' = true) := Lib.hid fun u hu => evCells_one hu
  have hone2 : Hid (∀ u ∈ evCells (l.drop (i + 1)), u.oneCell' = true) := Lib.hid fun u hu => evCells_one hu
  go_enter Try.func31, Try.ntmps31
  go_wp2_with fail
  go_region_held3 (fun w' => w.heap.size ≤ w'.heap.size) (first | exact Nat.le_refl _ | exact HSZ.out | simp | (simp; omega))
    (first
    | (refine step_app_sl slREv rfl _ _ (by rfl) (fun k => w.heap.size ≤ k) (.slice (some ⟨w.heap.size, 0, none⟩) 0 0) 0 [] (by rfl) (by exact sl_empty5 w _ _ (Nat.le_refl _)) _ i (evCells (l.take i)) (by rfl) (by exact Rd.keep HT.out fun k _ hk => Below.heap_alloc _ _ k hk) hone1.out (by unfold maxLen; omega) (by omega) ?_; intro v2 w2 hs2 hf2; rw [Nat.zero_add, List.nil_append] at hs2; obtain ⟨v2a, v2c, rfl⟩ := hs2.shape; have HSL := Lib.hid (hs2.mono (G := fun k => w.heap.size ≤ k) (by rintro k (h | h); exact h; simp at h; omega)); have HFR := Lib.hid hf2; have HK2 := Lib.hid (show ∀ k, k < w.heap.size → w2.heap[k]? = w.heap[k]? from fun k hk => (hf2.block k (by simp <;> omega) (by omega)).trans (Below.heap_alloc _ _ k (by simpa using hk))); have HSZ := Lib.hid (show w.heap.size ≤ w2.heap.size by have := hf2.size; simp at this; omega); have HBB := Lib.hid ((show Below w.heap.size w _ by (repeat (first | (with_reducible exact Below.refl _ _) | (with_reducible refine Bw.alloc ?_ _) | (with_reducible refine Bw.drewN ?_ _) | (with_reducible refine Bw.drew ?_)))).trans (hf2.below (show w.heap.size ≤ _ by simp) fun _ h => h)); clear hs2 hf2)
    | (refine step_app_sl slREv rfl _ _ (by rfl) (fun k => w.heap.size ≤ k) _ i (evCells (l.take i)) (by rfl) HSL.out _ (l.length - (i + 1)) (evCells (l.drop (i + 1))) (by rfl) (by exact Rd.keep HD.out fun k _ hk => HK2.out k hk) hone2.out (by unfold maxLen; omega) (by omega) ?_; intro v3 w3 hs3 hf3; obtain ⟨v3a, v3c, rfl⟩ := hs3.shape; have HSL3 := Lib.hid hs3; have HSZ0 := HSZ; have HFR3 := Lib.hid hf3; have HB3 := Lib.hid (HBB.out.trans (hf3.below HSZ.out fun _ h => h)); have HSZ := Lib.hid (Nat.le_trans HSZ.out hf3.size); clear hs3 hf3))
  all_goals go_wp2_with fail
  all_goals
    go_ret
    have hlen : (l.take i ++ l.drop (i + 1)).length = i + (l.length - (i + 1)) := by simp; omega
    refine ⟨v3a, v3c, by rw [hlen]; rfl, ?_, fun k hk => ?_, HB3.out⟩
    · unfold EvR
      rw [hlen, evCells_app]
      exact Sl.rd HSL3.out
    · rw [hlen] at hk
      rcases HSL3.out.2 with ⟨e, _⟩ | ⟨g, o, cp, cur, e, hF, _⟩
      · rw [e] at hk; cases hk
      · rw [e] at hk
        obtain rfl : g = k := by simpa [Value.ownBlock] using hk
        rcases hF with h | h
        · exact h
        · exact Nat.le_trans HSZ0.out h
end Go.Proofs.Ytococphklfbidaa
