/- The side of a link (linkup): what is an incarnation. -/
import Derived.Test.YtcocnfbhileheaaPorA
namespace Go.Proofs.Ytcocnfbhileheaa
open Go.RowKit

theorem incOk_any (x : Int) (w : World) : Calls Try.prog 66 #[.int .i64 x] w fun e w' => e = .returned (.bool (decide (1 ≤ x ∧ x ≤ 1099511627775))) ∧ w = w' := by
  go_enter Try.func66, Try.ntmps66
  by_cases h1 : 1 ≤ x
  · have e : decide (1 ≤ x ∧ x ≤ 1099511627775) = decide (x ≤ 1099511627775) := by simp [h1]
    rw [e]
    clear e
    go_wp2_with fail
    go_ret
    exact ⟨rfl, rfl⟩
  · have e : decide (1 ≤ x ∧ x ≤ 1099511627775) = false := by simp; omega
    rw [e]
    clear e
    go_wp2_with fail
    go_ret
    exact ⟨rfl, rfl⟩
set_option maxHeartbeats 1000000 in
theorem sideReceive_any (b : Nat) (s : Side) (w : World) (x y : Int) (h : SideAt w b s) :
    Calls Try.prog 96 #[.pointer (some ⟨b, 0, none⟩), .agg #[.int .i64 x, .int .i64 y]] w fun e w' => (∃ c, e = .returned (.bool c)) ∧ SideAt w' b (s.receive x y) ∧ Fr (fun k => k = b) w w' := by
  obtain ⟨ch, h⟩ := h
  have H := Lib.hid h
  have hlt := lt_of_block h
  obtain ⟨m, d, p, se, st, si⟩ := s
  clear h
  go_enter Try.func96, Try.ntmps96
  go_wp2_with fail
  obtain ⟨w1, hw1⟩ : ∃ w1, w1 = w.alloc (.cells #[.int .i64 x, .int .i64 y] 110) := ⟨_, rfl⟩
  rw [← hw1]
  have HR1 := Lib.hid (show w1.heap[b]? = some (sideRow ⟨m, d, p, se, st, si⟩ ch) by rw [hw1]; exact ((below_alloc w _).block b hlt).trans H.out)
  have hg1 : w1.heap[w.heap.size]? = some (.cells #[.int .i64 x, .int .i64 y] 110) := by rw [hw1]; exact heap_alloc_new w _
  have HB1 := Lib.hid (show Below w.heap.size w w1 by rw [hw1]; exact below_alloc w _)
  have HG1 := Lib.hid hg1
  have g0 : w1.cell? ⟨w.heap.size, 0, none⟩ = some (.int .i64 x) := blk_cell (i := 0) hg1 rfl
  have g1 : w1.cell? ⟨w.heap.size, 1, none⟩ = some (.int .i64 y) := blk_cell (i := 1) hg1 rfl
  have hne : b ≠ w.heap.size := by omega
  clear hw1 hg1
  obtain ⟨c0, c1, c2, c3, c4, c5, c6, cf⟩ := side_cells HR1.out
  dsimp only at *
  by_cases hv : 1 ≤ x ∧ x ≤ 1099511627775
  · have hv' : decide (1 ≤ x ∧ x ≤ 1099511627775) = true := by simpa using hv
    obtain ⟨n, rfl⟩ : ∃ n : Nat, x = (n : Int) := ⟨x.toNat, by omega⟩
    by_cases hs : (n : Int) < (se : Int)
    · have ht : Side.receive ⟨m, d, p, se, st, si⟩ n y = ⟨m, d, p, se, st, si⟩ := by unfold Side.receive; rw [if_pos (by dsimp only; omega)]
      have HT := Lib.hid ht
      clear ht hv
      go_quiet (exact Calls.quiet_of_same ((incOk_any _ _).mono fun e w' h => ⟨show e = .returned (.bool true) from by rw [h.1, hv'], h.2.symm⟩))
      go_wp2_with fail
      go_ret
      exact ⟨⟨_, rfl⟩, by rw [HT.out]; exact ⟨ch, by (apply row_trans; focus (repeat (first | (with_reducible exact HR1.out) | (with_reducible apply row_set) | (with_reducible apply row_drewN) | (with_reducible apply row_drew) | (with_reducible apply row_alloc) | (apply row_set_other (by first | omega | (simp <;> omega)))))); rfl⟩, by have hf1 : Fr (fun k => k = b) w w1 := Fr.of_below (Fr.refl _ _) HB1.out; (repeat (first | (with_reducible exact hf1) | (with_reducible refine Fr.drewN ?_ _) | (with_reducible refine Fr.drew ?_)))⟩
    · have ht : Side.receive ⟨m, d, p, se, st, si⟩ n y = ⟨m, d, n, n, if y = (m : Int) then 2 else 1, 0⟩ := by unfold Side.receive; rw [if_neg (by dsimp only; omega)]; rfl
      have HT := Lib.hid ht
      clear ht hv
      by_cases hy : y = (m : Int)
      · have hy' : (y == (m : Int)) = true := by simpa using hy
        have HY := Lib.hid hy
        clear hy
        go_quiet (exact Calls.quiet_of_same ((incOk_any _ _).mono fun e w' h => ⟨show e = .returned (.bool true) from by rw [h.1, hv'], h.2.symm⟩))
        go_wp2_with fail
        go_quiet (fail)
        go_wp2_with fail
        generalize hw2 : (((w1.drewN _).setCell ⟨b, 3, none⟩ (.int .i64 (n : Int))).setCell ⟨b, 5, none⟩ (.int .i64 0)).drewN _ = w2
        have HF2 := Lib.hid (show Fr (fun k => k = b) w w2 by rw [← hw2]; exact (Fr.setCell (p := ⟨b, 5, none⟩) (Fr.setCell (p := ⟨b, 3, none⟩) (Fr.drewN (F := fun k => k = b) (Fr.of_below (Fr.refl _ _) HB1.out) _) (Or.inl rfl) _) (Or.inl rfl) _).drewN _)
        have HR2 := Lib.hid (show w2.heap[b]? = some (sideRow ⟨m, d, p, n, st, 0⟩ ch) by rw [← hw2]; (apply row_trans; focus (repeat (first | (with_reducible exact HR1.out) | (with_reducible apply row_set) | (with_reducible apply row_drewN) | (with_reducible apply row_drew) | (with_reducible apply row_alloc) | (apply row_set_other (by first | omega | (simp <;> omega)))))); rfl)
        clear hw2
        refine (become_any b m d p n st 0 ch w2 2 n HR2.out).mono ?_
        rintro e w3 ⟨⟨c, rfl⟩, ⟨ch', hr⟩, hf⟩
        have HR3 := Lib.hid hr
        have HF3 := Lib.hid (HF2.out.trans hf fun k hk => .inl hk)
        clear hr hf c0 c1 c2 c3 c4 c5 c6 cf g0 g1
        go_wp2_with fail
        go_ret
        exact ⟨⟨_, rfl⟩, by rw [HT.out, if_pos HY.out]; exact ⟨ch', HR3.out⟩, HF3.out⟩
      · have hy' : (y == (m : Int)) = false := by simpa using hy
        have HY := Lib.hid hy
        clear hy
        go_quiet (exact Calls.quiet_of_same ((incOk_any _ _).mono fun e w' h => ⟨show e = .returned (.bool true) from by rw [h.1, hv'], h.2.symm⟩))
        go_wp2_with fail
        go_quiet (fail)
        go_wp2_with fail
        generalize hw2 : (((w1.drewN _).setCell ⟨b, 3, none⟩ (.int .i64 (n : Int))).setCell ⟨b, 5, none⟩ (.int .i64 0)).drewN _ = w2
        have HF2 := Lib.hid (show Fr (fun k => k = b) w w2 by rw [← hw2]; exact (Fr.setCell (p := ⟨b, 5, none⟩) (Fr.setCell (p := ⟨b, 3, none⟩) (Fr.drewN (F := fun k => k = b) (Fr.of_below (Fr.refl _ _) HB1.out) _) (Or.inl rfl) _) (Or.inl rfl) _).drewN _)
        have HR2 := Lib.hid (show w2.heap[b]? = some (sideRow ⟨m, d, p, n, st, 0⟩ ch) by rw [← hw2]; (apply row_trans; focus (repeat (first | (with_reducible exact HR1.out) | (with_reducible apply row_set) | (with_reducible apply row_drewN) | (with_reducible apply row_drew) | (with_reducible apply row_alloc) | (apply row_set_other (by first | omega | (simp <;> omega)))))); rfl)
        clear hw2
        refine (become_any b m d p n st 0 ch w2 1 n HR2.out).mono ?_
        rintro e w3 ⟨⟨c, rfl⟩, ⟨ch', hr⟩, hf⟩
        have HR3 := Lib.hid hr
        have HF3 := Lib.hid (HF2.out.trans hf fun k hk => .inl hk)
        clear hr hf c0 c1 c2 c3 c4 c5 c6 cf g0 g1
        go_wp2_with fail
        go_ret
        exact ⟨⟨_, rfl⟩, by rw [HT.out, if_neg HY.out]; exact ⟨ch', HR3.out⟩, HF3.out⟩
  · have hv' : decide (1 ≤ x ∧ x ≤ 1099511627775) = false := by simpa using hv
    have ht : Side.receive ⟨m, d, p, se, st, si⟩ x y = ⟨m, d, p, se, st, si⟩ := by unfold Side.receive; rw [if_pos (by omega)]
    have HT := Lib.hid ht
    clear ht hv
    go_quiet (exact Calls.quiet_of_same ((incOk_any _ _).mono fun e w' h => ⟨show e = .returned (.bool false) from by rw [h.1, hv'], h.2.symm⟩))
    go_wp2_with fail
    go_ret
    exact ⟨⟨_, rfl⟩, by rw [HT.out]; exact ⟨ch, by (apply row_trans; focus (repeat (first | (with_reducible exact HR1.out) | (with_reducible apply row_set) | (with_reducible apply row_drewN) | (with_reducible apply row_drew) | (with_reducible apply row_alloc) | (apply row_set_other (by first | omega | (simp <;> omega)))))); rfl⟩, by have hf1 : Fr (fun k => k = b) w w1 := Fr.of_below (Fr.refl _ _) HB1.out; (repeat (first | (with_reducible exact hf1) | (with_reducible refine Fr.drewN ?_ _) | (with_reducible refine Fr.drew ?_)))⟩
end Go.Proofs.Ytcocnfbhileheaa
