/- The contract of linecode.Flip, at a bit that is there. -/
import Derived.Test.YtdmfjmdnkfeljaaDoorFrmI
import Derived.RegionTactic
import Derived.ChangeAlike
namespace Go.Proofs.YtdmfjmdnkfeljaaDoor
open Go.RowKit

theorem Nb.put {w : World} {B g off n c : Nat} {bs : List Byte} (h : Nb w B (.slice (some ⟨g, off, none⟩) n c) bs) {j : Nat} (_hj : j < bs.length) (y : Byte) : Nb (w.setCell ⟨g, off + j, none⟩ (.int .u8 (U y))) B (.slice (some ⟨g, off, none⟩) n c) (bs.set j y) := by
  obtain ⟨_, ⟨e, _⟩ | ⟨g', off', cap, cur, e, hF, hg, h1, h2, h3, h4⟩⟩ := h
  · cases e
  · obtain ⟨⟨rfl, rfl⟩, rfl, rfl⟩ : (g = g' ∧ off = off') ∧ n = bs.length ∧ c = cap := by simpa using e
    refine ⟨by rw [cu_length, List.length_set, Nat.mul_one], .inr ⟨g, off, c, cur.setIfInBounds (off + j) (.int .u8 (U y)), by rw [List.length_set], hF, heap_setCell_same w g (off + j) cur _ _ hg, by rw [List.length_set]; exact h1, h2, by rw [Array.size_setIfInBounds]; exact h3, ?_⟩⟩
    rw [List.length_set]
    rw [Nat.mul_one] at h4 ⊢
    have e1 : (cur.setIfInBounds (off + j) (.int .u8 (U y))).toList.drop off = (cur.toList.drop off).set j (.int .u8 (U y)) := by
      rw [Array.toList_setIfInBounds, List.drop_set, if_neg (by omega)]
      congr 1
      omega
    rw [e1, List.take_set, h4]
    unfold cu
    rw [List.map_set]
theorem nb_shape {w : World} {B : Nat} {v : Value} {bs : List Byte} (h : Nb w B v bs) (h0 : 0 < bs.length) : ∃ g off c, v = .slice (some ⟨g, off, none⟩) bs.length c ∧ B ≤ g ∧ (∀ i, w.frozen? ⟨g, i, none⟩ = false) ∧ ∀ k, k < bs.length → w.cell? ⟨g, off + k, none⟩ = some (.int .u8 (U (bs.getD k 0))) := by
  have hby := h.by
  rcases h.2 with ⟨_, e⟩ | ⟨g, off, cap, cur, rfl, hF, hg, _⟩
  · omega
  · obtain ⟨_, ⟨hn, _⟩ | ⟨g', off', c', e, _, _, _, hc⟩⟩ := hby.cases
    · rw [hn] at h0; simp at h0
    · obtain ⟨⟨rfl, rfl⟩, rfl⟩ : (g = g' ∧ off = off') ∧ cap = c' := by simpa using e
      exact ⟨g, off, cap, rfl, hF, fun i => blk_free hg i, hc⟩
theorem shl_flip (yk : IntKind) (m : Nat) (h : m < 6) : Op.shift .shl .u8 1 yk ((m : Nat) : Int) = pure (.int .u8 (U ((1#8) <<< m))) := by
  match m, h with
  | 0, _ => rfl
  | 1, _ => rfl
  | 2, _ => rfl
  | 3, _ => rfl
  | 4, _ => rfl
  | 5, _ => rfl
theorem flipU8 (x : Byte) (m : Nat) (h : m < 6) : bits .xor .u8 (U x) (2 ^ m % 256) = U (x ^^^ (1#8 <<< m)) := by
  have e : ((2 : Int) ^ m % 256) = U ((1#8) <<< m) := by
    match m, h with
    | 0, _ => rfl
    | 1, _ => rfl
    | 2, _ => rfl
    | 3, _ => rfl
    | 4, _ => rfl
    | 5, _ => rfl
  rw [e]; exact (bits_u8 _ _).1
set_option maxRecDepth 100000 in
set_option maxHeartbeats 4000000 in
theorem flip_any (v : Value) (ss : List Byte) (w : World) (hv : By w v ss) (k : Nat) (hk : k < 6 * ss.length) (hm : ss.length ≤ 100000) :
    Calls Tryd.prog 35 #[v, .int .i64 (k : Int)] w fun e w' => ∃ a c, e = .returned (.tuple #[.slice a ss.length c, .int .i64 0]) ∧ Nb w' w.heap.size (.slice a ss.length c) (ss.set (k / 6) (flipS (ss.getD (k / 6) 0) (k % 6))) ∧ Below w.heap.size w w' := by
  have HV := Lib.hid hv
  obtain ⟨a, cap, rfl⟩ := hv.slice
  clear hv
  obtain ⟨q, hq⟩ : ∃ q, q = k / 6 := ⟨_, rfl⟩
  rw [← hq]
  have HQ := Lib.hid hq
  clear hq
  go_enter Tryd.func35, Tryd.ntmps35
  go_wp2_with (at_builtin; refine wpList_nb rfl _ _ rfl w.heap.size _ [] rfl (Nb.nil _ _) _ ss rfl HV.out (by show 0 + _ ≤ _; omega) (Nat.le_refl _) ?_; intro x1a x1c w1 hn1 hb1; have HN1 := Lib.hid (show Nb w1 w.heap.size (.slice x1a ss.length x1c) ss by simpa using hn1); have HB1 := Lib.hid hb1; clear hn1 hb1)
  have hlen0 : 0 < ss.length := by omega
  obtain ⟨g, off, fcap, e, hgB, hfree, hcell⟩ := nb_shape HN1.out hlen0
  obtain ⟨rfl, rfl⟩ : x1a = some ⟨g, off, none⟩ ∧ x1c = fcap := by simpa using e
  have hq := HQ.out
  have hql : q < ss.length := by omega
  have hcx := hcell q hql
  have hfx := hfree (off + q)
  have hd1 : (0 : Int) ≤ (k : Int) / 6 ∧ (k : Int) / 6 < (ss.length : Int) := by omega
  have hd2 : ((k : Int) / 6).toNat = q := by omega
  have hr : (5 - (k : Int) % 6) = ((5 - k % 6 : Nat) : Int) := by omega
  have hsh : Op.shift .shl .u8 1 .i64 (5 - (k : Int) % 6) = pure (.int .u8 (U ((1#8) <<< (5 - k % 6)))) := by rw [hr]; exact shl_flip _ _ (by omega)
  have hwr : IntKind.i64.wrap (5 - (k : Int) % 6) = 5 - (k : Int) % 6 := IntWalk.i64_in _ (by omega)
  have HPUT := Lib.hid (HN1.out.put (j := q) hql (flipS (ss.getD q 0) (k % 6)))
  have HFL := Lib.hid (show ss.getD q 0 ^^^ ((1#8) <<< (5 - k % 6)) = flipS (ss.getD q 0) (k % 6) from rfl)
  obtain ⟨x, hx⟩ : ∃ x, x = ss.getD q 0 := ⟨_, rfl⟩
  rw [← hx] at hcx
  rw [← hx] at HFL
  rw [← hx] at HPUT
  have HX := Lib.hid hx
  clear hcell hfree e hr hq hx
  go_region
  all_goals go_wp2_with fail
  all_goals go_ret2
  all_goals
    refine ⟨_, _, rfl, ?_, ?_⟩
    · rw [flipU8 x _ (by omega), HFL.out, ← HX.out]; first | exact HPUT.out | exact HPUT.out.below (below_drew _ 1)
    · first | exact Below.setCell HB1.out hgB _ | exact Bw.drew (Below.setCell HB1.out hgB _)
end Go.Proofs.YtdmfjmdnkfeljaaDoor
