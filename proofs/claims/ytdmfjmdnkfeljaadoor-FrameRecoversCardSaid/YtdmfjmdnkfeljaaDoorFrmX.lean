/- The contracts of slices.Grow of the nil slice, and of slices.Concat of two slices of bytes. -/
import Derived.Test.YtdmfjmdnkfeljaaDoorFrmT
import Derived.Lib.AppendZeros
namespace Go.Proofs.YtdmfjmdnkfeljaaDoor
open Go.RowKit

set_option maxRecDepth 100000 in
set_option maxHeartbeats 4000000 in
theorem grow_nil (n : Nat) (w : World) (hn : n ≤ 1000000) :
    Calls Tryd.prog 47 #[.slice none 0 0, .int .i64 (n : Int)] w fun e w' => ∃ v', e = .returned v' ∧ Nb w' w.heap.size v' [] ∧ Below w.heap.size w w' := by
  by_cases h0 : 0 < n
  · obtain ⟨i0, hi0, hz0, hzs, hzb⟩ := info_parts (show (Tryd.prog.info? 5).map (fun i => (i.zero, i.size, i.bytes)) = some (some (.int .u8 0), 1, 1) by kernel_rfl)
    obtain ⟨G, hG⟩ : ∃ G, G = grownCap w n 0 5 := ⟨_, rfl⟩
    obtain ⟨ROW, hROW⟩ : ∃ ROW : Array Value, ROW = Builtin.zeroCells (Value.int .u8 0).cells n ++ Builtin.zeroCells (Value.int .u8 0).cells (G - n) := ⟨_, rfl⟩
    have hGn : n ≤ G := by rw [hG]; exact grownCap_ge w _ _ _
    have hG63 : G ≤ maxLen := by rw [hG]; exact grownCap_le_maxLen w n 0 5 (by unfold maxLen; omega)
    have hrz : ∀ ty, (Builtin.append_ #[22, 3] ty #[.slice none 0 0, .int .i64 (n : Int)]).run Tryd.prog w = .ok (.slice (some ⟨w.heap.size, 0, none⟩) n G) (w.drew.alloc (.cells ROW 5)) := fun ty => by
      have h := Lib.run_append_nil_zeros w 22 3 ty 5 i0 _ .i64 .i64 Tryd.underlying22 Tryd.underlying3 hi0 hz0 n h0 (by omega) (by omega) (by rw [hzb]; omega)
      rw [← hG] at h
      rw [h, hROW]
    have hRl : ROW.size = G := by
      rw [hROW]; simp only [Array.size_append, size_zeroCells]
      have hzl : (Value.int IntKind.u8 0).cells.size = 1 := rfl
      rw [hzl]; omega
    obtain ⟨w1, hw1⟩ : ∃ w1, w1 = w.drew.alloc (.cells ROW 5) := ⟨_, rfl⟩
    have HN := Lib.hid (show Nb w1 w.heap.size (.slice (some ⟨w.heap.size, 0, none⟩) 0 G) [] by
      rw [hw1]
      exact ⟨rfl, .inr ⟨w.heap.size, 0, G, ROW, rfl, Nat.le_refl _, heap_alloc_new w.drew _, Nat.zero_le _, hG63, by rw [hRl]; omega, rfl⟩⟩)
    have HB := Lib.hid (show Below w.heap.size w w1 by rw [hw1]; exact (Below.refl _ _ |> Bw.drew).alloc (Nat.le_refl _) _)
    have HRZ := Lib.hid hrz; have HW1 := Lib.hid hw1
    clear hrz hw1 hRl hROW hG hzs hzb hz0 hi0
    unfold maxLen at hG63
    have hg0 : ¬ G = 0 := by omega
    go_enter Tryd.func47, Tryd.ntmps47
    go_wp2_with (at_builtin; refine Lib.wpList_append_run _ rfl _ _ _ _ rfl _ _ rfl rfl _ _ (HRZ.out _) ?_; rw [← HW1.out])
    go_ret
    exact ⟨_, rfl, HN.out, HB.out⟩
  · obtain rfl : n = 0 := by omega
    go_enter Tryd.func47, Tryd.ntmps47
    go_wp2_with fail
    go_ret
    exact ⟨_, rfl, Nb.nil _ _, Below.refl _ _⟩
def upto (xs ys : List Byte) (k : Nat) : List Byte := if k = 0 then [] else if k = 1 then xs else xs ++ ys
set_option maxRecDepth 100000 in
set_option maxHeartbeats 4000000 in
theorem concat2 (v1 v2 : Value) (xs ys : List Byte) (b : Nat) (w : World) (hr : w.heap[b]? = some (.cells #[v1, v2] 22)) (h1 : By w v1 xs) (h2 : By w v2 ys) (hx : xs.length ≤ 400000) (hy : ys.length ≤ 400000) :
    Calls Tryd.prog 25 #[.slice (some ⟨b, 0, none⟩) 2 2] w fun e w' => ∃ v', e = .returned v' ∧ Nb w' w.heap.size v' (xs ++ ys) ∧ Below w.heap.size w w' := by
  obtain ⟨a1, c1, rfl⟩ := h1.slice
  obtain ⟨a2, c2, rfl⟩ := h2.slice
  have HR := Lib.hid hr; have H1 := Lib.hid h1; have H2 := Lib.hid h2
  have d1 := blk_cell (i := 0) hr rfl; have d2 := blk_cell (i := 1) hr rfl
  have hbl := lt_of_block hr
  clear hr h1 h2
  go_enter Tryd.func25, Tryd.ntmps25
  go_wp2_with fail
  go_loop [3, 11] (fun s i => ∃ (k : Nat), k ≤ 2 ∧ i = .int .i64 (k : Int) ∧ s = .int .i64 ((upto xs ys k).length : Int)) (fun _ i => 2 - (intOf i).toNat)
  case atStart => exact ⟨0, by omega, by go_num, by go_num⟩
  case round =>
    obtain ⟨k, hk, rfl, rfl⟩ := hrel
    have h3 : k = 0 ∨ k = 1 ∨ k = 2 := by omega
    rcases h3 with rfl | rfl | rfl
    · have e0 : ((upto xs ys 0).length : Int) = 0 := by simp [upto]
      rw [e0]
      clear e0
      go_wp2_with fail
      go_round
      case rel => exact ⟨1, by omega, by go_num, by simp [upto]⟩
      case measure => simp [intOf]
    · have e0 : ((upto xs ys 1).length : Int) = (xs.length : Int) := by simp [upto]
      rw [e0]
      clear e0
      go_wp2_with fail
      go_round
      case rel => exact ⟨2, by omega, by go_num, by simp [upto]⟩
      case measure => simp [intOf]
    · have e0 : ((upto xs ys 2).length : Int) = ((xs.length + ys.length : Nat) : Int) := by simp [upto]
      rw [e0]
      clear e0
      generalize hn : xs.length + ys.length = n
      have hn1 : n ≤ 800000 := by omega
      have HNN := Lib.hid hn
      clear hn
      clear d1 d2
      go_wp2_with fail
      refine (grow_nil n w (by omega)).mono ?_
      rintro e w1 ⟨v1, rfl, hn1', hb1⟩
      obtain ⟨ga, gc, rfl⟩ := hn1'.slice
      have HO1 := Lib.hid hn1'; have HB1 := Lib.hid hb1
      clear hn1' hb1
      go_wp2_with fail
      go_loopw [6, 27] (fun v i wr => ∃ (k : Nat), k ≤ 2 ∧ i = .int .i64 (k : Int) ∧ (∃ a c, v = .slice a (upto xs ys k).length c) ∧ Hid (Nb wr w.heap.size v (upto xs ys k)) ∧ Hid (Below w.heap.size w wr)) (fun _ i _ => 2 - (intOf i).toNat)
      case atStart => exact ⟨0, by omega, by go_num, ⟨ga, gc, rfl⟩, HO1, HB1⟩
      case round =>
        clear HO1 HB1
        obtain ⟨k, hk, rfl, ⟨oa, oc, rfl⟩, HO, HB⟩ := hrel
        have hrw := (HB.out.block _ hbl).trans HR.out
        have d1 := blk_cell (i := 0) hrw rfl; have d2 := blk_cell (i := 1) hrw rfl
        have hws := HB.out.size
        clear hrw
        have h3 : k = 0 ∨ k = 1 ∨ k = 2 := by omega
        rcases h3 with rfl | rfl | rfl
        · rw [show upto xs ys 0 = [] from rfl] at HO
          rw [show upto xs ys 0 = [] from rfl, List.length_nil]
          go_wp2_with (at_builtin; refine wpList_nb rfl _ _ rfl w.heap.size _ [] rfl (by exact HO.out) (.slice a1 xs.length c1) xs rfl (by exact H1.out.below HB.out) (by show 0 + _ ≤ _; omega) (by omega) ?_; intro a' c' w2 hn2 hb2; have HN2 := Lib.hid (show Nb w2 w.heap.size (.slice a' xs.length c') xs by simpa using hn2); have HB2 := Lib.hid (HB.out.trans hb2); clear hn2 hb2)
          go_roundw
          case rel => exact ⟨1, by omega, by go_num, ⟨a', c', by simp [upto]⟩, Lib.hid (by simpa [upto] using HN2.out), HB2⟩
          case measure => simp [intOf]
        · rw [show upto xs ys 1 = xs from rfl] at HO
          rw [show upto xs ys 1 = xs from rfl]
          go_wp2_with (at_builtin; refine wpList_nb rfl _ _ rfl w.heap.size _ xs rfl (by exact HO.out) (.slice a2 ys.length c2) ys rfl (by exact H2.out.below HB.out) (by omega) (by omega) ?_; intro a' c' w2 hn2 hb2; have HN2 := Lib.hid hn2; have HB2 := Lib.hid (HB.out.trans hb2); clear hn2 hb2)
          go_roundw
          case rel => exact ⟨2, by omega, by go_num, ⟨a', c', by simp [upto]⟩, Lib.hid (by simpa [upto] using HN2.out), HB2⟩
          case measure => simp [intOf]
        · rw [show upto xs ys 2 = xs ++ ys from rfl] at HO
          clear d1 d2
          go_wp2_with fail
          go_ret
          exact ⟨_, rfl, by simpa [upto] using HO.out, HB.out⟩
end Go.Proofs.YtdmfjmdnkfeljaaDoor
