/- Several texts in one: The side of a link (linkup) in memory, and its methods. The side of a link (linkup): what is an incarnation. The side of a link (linkup): New. -/
import Derived.Test.YtcocnfbhileheaaPorP
import Derived.Test.YtcocnfbhileheaaMgB
import Derived.Test.YtcocnfbhileheaaRows
import Derived.Deep.QuietTactic
import Derived.BigQuiet
import Derived.Handy
/- The side of a link (linkup) in memory, and its methods. -/
namespace Go.Proofs.Ytcocnfbhileheaa
open Go.RowKit

/-- a side's block; the count of changes is some number -/
abbrev sideRow (s : Side) (ch : Int) : Obj := .cells #[.int .i64 (s.mine : Int), .int .i64 (s.dead : Int), .int .i64 (s.peer : Int), .int .i64 (s.seen : Int), .int .i64 (s.state : Int), .int .i64 (s.silent : Int), .int .i64 ch] 130
def SideAt (w : World) (b : Nat) (s : Side) : Prop := ∃ ch, w.heap[b]? = some (sideRow s ch)
theorem side_cells {w : World} {b : Nat} {s : Side} {ch : Int} (h : w.heap[b]? = some (sideRow s ch)) : w.cell? ⟨b, 0, none⟩ = some (.int .i64 (s.mine : Int)) ∧ w.cell? ⟨b, 1, none⟩ = some (.int .i64 (s.dead : Int)) ∧ w.cell? ⟨b, 2, none⟩ = some (.int .i64 (s.peer : Int)) ∧ w.cell? ⟨b, 3, none⟩ = some (.int .i64 (s.seen : Int)) ∧
    w.cell? ⟨b, 4, none⟩ = some (.int .i64 (s.state : Int)) ∧ w.cell? ⟨b, 5, none⟩ = some (.int .i64 (s.silent : Int)) ∧ w.cell? ⟨b, 6, none⟩ = some (.int .i64 ch) ∧ (∀ j, w.frozen? ⟨b, j, none⟩ = false) :=
  ⟨blk_cell (i := 0) h rfl, blk_cell (i := 1) h rfl, blk_cell (i := 2) h rfl, blk_cell (i := 3) h rfl, blk_cell (i := 4) h rfl, blk_cell (i := 5) h rfl, blk_cell (i := 6) h rfl, fun j => blk_free h j⟩
theorem state_any (b : Nat) (s : Side) (w : World) (h : SideAt w b s) : Calls Try.prog 47 #[.pointer (some ⟨b, 0, none⟩)] w fun e w' => e = .returned (.int .i64 (s.state : Int)) ∧ w = w' := by
  obtain ⟨ch, h⟩ := h
  obtain ⟨c0, c1, c2, c3, c4, c5, c6, _⟩ := side_cells h
  clear h
  go_enter Try.func47, Try.ntmps47
  go_wp2_with fail
  go_ret
  exact ⟨rfl, rfl⟩
theorem peer_any (b : Nat) (s : Side) (w : World) (h : SideAt w b s) : Calls Try.prog 97 #[.pointer (some ⟨b, 0, none⟩)] w fun e w' => e = .returned (.int .i64 (s.peer : Int)) ∧ w = w' := by
  obtain ⟨ch, h⟩ := h
  obtain ⟨c0, c1, c2, c3, c4, c5, c6, _⟩ := side_cells h
  clear h
  go_enter Try.func97, Try.ntmps97
  go_wp2_with fail
  go_ret
  exact ⟨rfl, rfl⟩
theorem accepts_any (b : Nat) (s : Side) (w : World) (x : Int) (h : SideAt w b s) : Calls Try.prog 72 #[.pointer (some ⟨b, 0, none⟩), .int .i64 x] w fun e w' => e = .returned (.bool (decide (s.peer ≠ 0 ∧ (s.peer : Int) = x))) ∧ w = w' := by
  obtain ⟨ch, h⟩ := h
  obtain ⟨c0, c1, c2, c3, c4, c5, c6, _⟩ := side_cells h
  clear h
  go_enter Try.func72, Try.ntmps72
  by_cases h0 : s.peer = 0
  · have h1 : ((s.peer : Int) != 0) = false := by simp [h0]
    have h2 : decide (s.peer ≠ 0 ∧ (s.peer : Int) = x) = false := by simp [h0]
    rw [h2]
    clear h0 h2
    go_wp2_with fail
    go_ret
    exact ⟨rfl, rfl⟩
  · have h1 : ((s.peer : Int) != 0) = true := by simp; omega
    have h2 : decide (s.peer ≠ 0 ∧ (s.peer : Int) = x) = ((s.peer : Int) == x) := by
      rw [Bool.eq_iff_iff]; simp; omega
    rw [h2]
    clear h0 h2
    go_wp2_with fail
    go_ret
    exact ⟨rfl, rfl⟩
set_option maxHeartbeats 1000000 in
theorem become_any (b m d p se st si : Nat) (ch : Int) (w : World) (st' p' : Nat) (h : w.heap[b]? = some (sideRow ⟨m, d, p, se, st, si⟩ ch)) :
    Calls Try.prog 77 #[.pointer (some ⟨b, 0, none⟩), .int .i64 (st' : Int), .int .i64 (p' : Int)] w fun e w' => (∃ c, e = .returned (.bool c)) ∧ (∃ ch', w'.heap[b]? = some (sideRow ⟨m, d, p', se, st', si⟩ ch')) ∧ Fr (fun k => k = b) w w' := by
  have H := Lib.hid h
  have hlt := lt_of_block h
  obtain ⟨c0, c1, c2, c3, c4, c5, c6, cf⟩ := side_cells h
  dsimp only at *
  clear h
  obtain ⟨ch', hch⟩ : ∃ ch', IntKind.i64.wrap (ch + 1) = ch' := ⟨_, rfl⟩
  go_enter Try.func77, Try.ntmps77
  by_cases h1 : st = st'
  · by_cases h2 : p = p'
    · subst h1 h2
      go_wp2_with fail
      go_ret
      exact ⟨⟨_, rfl⟩, ⟨ch, H.out⟩, Fr.refl _ _⟩
    · subst h1
      have e2 : ((p : Int) == (p' : Int)) = false := by simp; omega
      clear h2
      go_wp2_with fail
      go_ret
      refine ⟨⟨_, rfl⟩, ⟨ch', ?_⟩, by (repeat (first | (with_reducible exact Fr.refl _ _) | exact Or.inl rfl | (with_reducible refine Fr.setCell ?_ ?_ _) | (with_reducible refine Fr.drewN ?_ _) | (with_reducible refine Fr.drew ?_)))⟩
      (apply row_trans; focus (repeat (first | (with_reducible exact H.out) | (with_reducible apply row_set) | (with_reducible apply row_drewN) | (with_reducible apply row_drew))))
      rfl
  · have e1 : ((st : Int) == (st' : Int)) = false := by simp; omega
    clear h1
    go_wp2_with fail
    go_ret
    refine ⟨⟨_, rfl⟩, ⟨ch', ?_⟩, by (repeat (first | (with_reducible exact Fr.refl _ _) | exact Or.inl rfl | (with_reducible refine Fr.setCell ?_ ?_ _) | (with_reducible refine Fr.drewN ?_ _) | (with_reducible refine Fr.drew ?_)))⟩
    (apply row_trans; focus (repeat (first | (with_reducible exact H.out) | (with_reducible apply row_set) | (with_reducible apply row_drewN) | (with_reducible apply row_drew))))
    rfl
set_option maxHeartbeats 1000000 in
theorem sideTick_any (b : Nat) (s : Side) (w : World) (h : SideAt w b s) (ho : s.Ok) :
    Calls Try.prog 46 #[.pointer (some ⟨b, 0, none⟩)] w fun e w' => e = .returned (.agg #[.int .i64 (s.tick.mine : Int), .int .i64 (s.tick.peer : Int)]) ∧ SideAt w' b s.tick ∧ Fr (fun k => k = b) w w' := by
  obtain ⟨ch, h⟩ := h
  have H := Lib.hid h
  have hlt := lt_of_block h
  obtain ⟨c0, c1, c2, c3, c4, c5, c6, cf⟩ := side_cells h
  obtain ⟨a1, a2, a3, a4, a5, a6, a7, a8, a9⟩ := ho
  obtain ⟨m, d, p, se, st, si⟩ := s
  dsimp only at *
  clear h
  go_enter Try.func46, Try.ntmps46
  by_cases h0 : p = 0
  · have ht : Side.tick ⟨m, d, p, se, st, si⟩ = ⟨m, d, p, se, st, si⟩ := by unfold Side.tick; rw [if_pos h0]
    have hp : ((p : Int) != 0) = false := by simp [h0]
    have HP0 := Lib.hid h0
    rw [ht]
    clear h0 ht a8
    go_wp2_with fail
    obtain ⟨w1, hw1⟩ : ∃ w1, w1 = w.alloc (.cells #[.int .i64 0, .int .i64 0] 110) := ⟨_, rfl⟩
    rw [← hw1]
    have HR1 := Lib.hid (show w1.heap[b]? = some (sideRow ⟨m, d, p, se, st, si⟩ ch) by rw [hw1]; exact ((below_alloc w _).block b hlt).trans H.out)
    have hg1 : w1.heap[w.heap.size]? = some (.cells #[.int .i64 0, .int .i64 0] 110) := by rw [hw1]; exact heap_alloc_new w _
    have HB1 := Lib.hid (show Below w.heap.size w w1 by rw [hw1]; exact below_alloc w _)
    have g0 : w1.cell? ⟨w.heap.size, 0, none⟩ = some (.int .i64 0) := blk_cell (i := 0) hg1 rfl
    have g1 : w1.cell? ⟨w.heap.size, 1, none⟩ = some (.int .i64 0) := blk_cell (i := 1) hg1 rfl
    have gf := fun j => blk_free hg1 j
    have hne : b ≠ w.heap.size := by omega
    clear hw1 hg1 c0 c1 c2 c3 c4 c5 c6 cf
    obtain ⟨c0, c1, c2, c3, c4, c5, c6, cf⟩ := side_cells HR1.out
    dsimp only at *
    go_region
    all_goals go_wp2_with fail
    all_goals refine bodyPost_ret (by simp [results, Try.results46, go_sem, g0, g1]; try rfl) rfl ?_
    all_goals exact ⟨rfl, ⟨ch, by (apply row_trans; focus (repeat (first | (with_reducible exact HR1.out) | (with_reducible apply row_set) | (with_reducible apply row_drewN) | (with_reducible apply row_drew) | (with_reducible apply row_alloc) | (apply row_set_other (by first | omega | (simp <;> omega)))))); rfl⟩, by have hf1 : Fr (fun k => k = b) w w1 := Fr.of_below (Fr.refl _ _) HB1.out; (repeat (first | (with_reducible exact hf1) | (exact Or.inr (Nat.le_refl _)) | (with_reducible refine Fr.setCell ?_ ?_ _) | (with_reducible refine Fr.drew ?_)))⟩
  · have hp : ((p : Int) != 0) = true := by simp; omega
    have h0' : 1 ≤ p := by omega
    by_cases hd : d ≤ si + 1
    · have ht : Side.tick ⟨m, d, p, se, st, si⟩ = ⟨m, d, 0, se, 0, 0⟩ := by unfold Side.tick; rw [if_neg h0, if_pos hd]
      rw [ht]
      clear ht a8 h0
      go_wp2_with fail
      go_quiet (fail)
      go_wp2_with fail
      generalize hw1 : ((w.setCell ⟨b, 5, none⟩ (.int .i64 ((si : Int) + 1))).alloc (.cells #[.int .i64 0, .int .i64 0] 110)).drewN _ = w0
      have HF0 := Lib.hid (show Fr (fun k => k = b) w w0 by rw [← hw1]; exact ((Fr.setCell (F := fun k => k = b) (p := ⟨b, 5, none⟩) (Fr.refl _ _) (Or.inl rfl) _).alloc _).drewN _)
      have HR0 := Lib.hid (show w0.heap[b]? = some (sideRow ⟨m, d, p, se, st, si + 1⟩ ch) by rw [← hw1]; (apply row_trans; focus (repeat (first | (with_reducible exact H.out) | (with_reducible apply row_set) | (with_reducible apply row_drewN) | (with_reducible apply row_drew) | (with_reducible apply row_alloc) | (apply row_set_other (by first | omega | (simp <;> omega)))))); rfl)
      have HG0 := Lib.hid (show w0.heap[w.heap.size]? = some (.cells #[.int .i64 0, .int .i64 0] 110) by
        rw [← hw1]
        have h := heap_alloc_new (w.setCell ⟨b, 5, none⟩ (.int .i64 ((si : Int) + 1))) (.cells #[.int .i64 0, .int .i64 0] 110)
        rw [World.size_setCell] at h
        exact h)
      have hne : b ≠ w.heap.size := by omega
      clear hw1 c0 c1 c2 c3 c4 c5 c6 cf
      refine (become_any b m d p se st (si + 1) ch w0 0 0 HR0.out).mono ?_
      rintro e w2 ⟨⟨c, rfl⟩, ⟨ch', hr⟩, hf⟩
      have HR2 := Lib.hid hr
      have HG2 := Lib.hid ((hf.block _ (lt_of_block HG0.out) (fun e => hne e.symm)).trans HG0.out)
      have HF2 := Lib.hid (HF0.out.trans hf fun k hk => .inl hk)
      obtain ⟨c0, c1, c2, c3, c4, c5, c6, cf⟩ := side_cells HR2.out
      clear hr hf
      go_wp2_with fail
      generalize hw1 : w2.setCell ⟨b, 5, none⟩ (.int .i64 0) = w1
      have HF1 := Lib.hid (show Fr (fun k => k = b) w w1 by rw [← hw1]; exact Fr.setCell (p := ⟨b, 5, none⟩) HF2.out (Or.inl rfl) _)
      have HR1 := Lib.hid (show w1.heap[b]? = some (sideRow ⟨m, d, 0, se, 0, 0⟩ ch') by rw [← hw1]; (apply row_trans; focus (repeat (first | (with_reducible exact HR2.out) | (with_reducible apply row_set) | (with_reducible apply row_drewN) | (with_reducible apply row_drew) | (with_reducible apply row_alloc) | (apply row_set_other (by first | omega | (simp <;> omega)))))); rfl)
      have hg1 : w1.heap[w.heap.size]? = some (.cells #[.int .i64 0, .int .i64 0] 110) := by rw [← hw1]; (apply row_trans; focus (repeat (first | (with_reducible exact HG2.out) | (with_reducible apply row_set) | (with_reducible apply row_drewN) | (with_reducible apply row_drew) | (with_reducible apply row_alloc) | (apply row_set_other (by first | omega | (simp <;> omega)))))); rfl
      have g0 : w1.cell? ⟨w.heap.size, 0, none⟩ = some (.int .i64 0) := blk_cell (i := 0) hg1 rfl
      have g1 : w1.cell? ⟨w.heap.size, 1, none⟩ = some (.int .i64 0) := blk_cell (i := 1) hg1 rfl
      have gf := fun j => blk_free hg1 j
      clear hw1 hg1 c0 c1 c2 c3 c4 c5 c6 cf
      obtain ⟨c0, _, c2, _, _, _, _, cf⟩ := side_cells HR1.out
      have d2 : w1.cell? ⟨b, 2, none⟩ = some (.int .i64 0) := c2
      clear c2
      dsimp only at *
      go_region
      all_goals go_wp2_with fail
      all_goals refine bodyPost_ret (by simp [results, Try.results46, go_sem, g0, g1]; try rfl) rfl ?_
      all_goals exact ⟨rfl, ⟨ch', by (apply row_trans; focus (repeat (first | (with_reducible exact HR1.out) | (with_reducible apply row_set) | (with_reducible apply row_drewN) | (with_reducible apply row_drew) | (with_reducible apply row_alloc) | (apply row_set_other (by first | omega | (simp <;> omega)))))); rfl⟩, by have hf1 := HF1.out; (repeat (first | (with_reducible exact hf1) | (exact Or.inr (Nat.le_refl _)) | (with_reducible refine Fr.setCell ?_ ?_ _) | (with_reducible refine Fr.drew ?_)))⟩
    · have ht : Side.tick ⟨m, d, p, se, st, si⟩ = ⟨m, d, p, se, st, si + 1⟩ := by unfold Side.tick; rw [if_neg h0, if_neg hd]
      rw [ht]
      clear ht a8 h0
      go_wp2_with fail
      go_quiet (fail)
      go_wp2_with fail
      generalize hw1 : ((w.setCell ⟨b, 5, none⟩ (.int .i64 ((si : Int) + 1))).alloc (.cells #[.int .i64 0, .int .i64 0] 110)).drewN _ = w1
      have HF1 := Lib.hid (show Fr (fun k => k = b) w w1 by rw [← hw1]; exact ((Fr.setCell (F := fun k => k = b) (p := ⟨b, 5, none⟩) (Fr.refl _ _) (Or.inl rfl) _).alloc _).drewN _)
      have HR1 := Lib.hid (show w1.heap[b]? = some (sideRow ⟨m, d, p, se, st, si + 1⟩ ch) by rw [← hw1]; (apply row_trans; focus (repeat (first | (with_reducible exact H.out) | (with_reducible apply row_set) | (with_reducible apply row_drewN) | (with_reducible apply row_drew) | (with_reducible apply row_alloc) | (apply row_set_other (by first | omega | (simp <;> omega)))))); rfl)
      have hg1 : w1.heap[w.heap.size]? = some (.cells #[.int .i64 0, .int .i64 0] 110) := by
        rw [← hw1]
        have h := heap_alloc_new (w.setCell ⟨b, 5, none⟩ (.int .i64 ((si : Int) + 1))) (.cells #[.int .i64 0, .int .i64 0] 110)
        rw [World.size_setCell] at h
        exact h
      have g0 : w1.cell? ⟨w.heap.size, 0, none⟩ = some (.int .i64 0) := blk_cell (i := 0) hg1 rfl
      have g1 : w1.cell? ⟨w.heap.size, 1, none⟩ = some (.int .i64 0) := blk_cell (i := 1) hg1 rfl
      have gf := fun j => blk_free hg1 j
      have hne : b ≠ w.heap.size := by omega
      clear hw1 hg1 c0 c1 c2 c3 c4 c5 c6 cf
      obtain ⟨c0, c1, c2, c3, c4, c5, c6, cf⟩ := side_cells HR1.out
      dsimp only at *
      go_region
      all_goals go_wp2_with fail
      all_goals refine bodyPost_ret (by simp [results, Try.results46, go_sem, g0, g1]; try rfl) rfl ?_
      all_goals exact ⟨rfl, ⟨ch, by (apply row_trans; focus (repeat (first | (with_reducible exact HR1.out) | (with_reducible apply row_set) | (with_reducible apply row_drewN) | (with_reducible apply row_drew) | (with_reducible apply row_alloc) | (apply row_set_other (by first | omega | (simp <;> omega)))))); rfl⟩, by have hf1 := HF1.out; (repeat (first | (with_reducible exact hf1) | (exact Or.inr (Nat.le_refl _)) | (with_reducible refine Fr.setCell ?_ ?_ _) | (with_reducible refine Fr.drew ?_)))⟩
end Go.Proofs.Ytcocnfbhileheaa

/- The side of a link (linkup): what is an incarnation. -/
namespace Go.Proofs.Ytcocnfbhileheaa
open Go.RowKit

theorem incOk_any (x : Int) (w : World) : Calls Try.prog 66 #[.int .i64 x] w fun e w' => e = .returned (.bool (decide (1 ≤ x ∧ x ≤ 1099511627775))) ∧ w = w' := by
  go_enter Try.func66, Try.ntmps66
  by_cases h1 : 1 ≤ x
  · have e : decide (1 ≤ x ∧ x ≤ 1099511627775) = decide (x ≤ 1099511627775) := by simp [h1]
    rw [e]
    clear e
    go_wp2_with fail
    go_ret
    exact ⟨rfl, rfl⟩
  · have e : decide (1 ≤ x ∧ x ≤ 1099511627775) = false := by simp; omega
    rw [e]
    clear e
    go_wp2_with fail
    go_ret
    exact ⟨rfl, rfl⟩
set_option maxHeartbeats 1000000 in
theorem sideReceive_any (b : Nat) (s : Side) (w : World) (x y : Int) (h : SideAt w b s) :
    Calls Try.prog 96 #[.pointer (some ⟨b, 0, none⟩), .agg #[.int .i64 x, .int .i64 y]] w fun e w' => (∃ c, e = .returned (.bool c)) ∧ SideAt w' b (s.receive x y) ∧ Fr (fun k => k = b) w w' := by
  obtain ⟨ch, h⟩ := h
  have H := Lib.hid h
  have hlt := lt_of_block h
  obtain ⟨m, d, p, se, st, si⟩ := s
  clear h
  go_enter Try.func96, Try.ntmps96
  go_wp2_with fail
  obtain ⟨w1, hw1⟩ : ∃ w1, w1 = w.alloc (.cells #[.int .i64 x, .int .i64 y] 110) := ⟨_, rfl⟩
  rw [← hw1]
  have HR1 := Lib.hid (show w1.heap[b]? = some (sideRow ⟨m, d, p, se, st, si⟩ ch) by rw [hw1]; exact ((below_alloc w _).block b hlt).trans H.out)
  have hg1 : w1.heap[w.heap.size]? = some (.cells #[.int .i64 x, .int .i64 y] 110) := by rw [hw1]; exact heap_alloc_new w _
  have HB1 := Lib.hid (show Below w.heap.size w w1 by rw [hw1]; exact below_alloc w _)
  have HG1 := Lib.hid hg1
  have g0 : w1.cell? ⟨w.heap.size, 0, none⟩ = some (.int .i64 x) := blk_cell (i := 0) hg1 rfl
  have g1 : w1.cell? ⟨w.heap.size, 1, none⟩ = some (.int .i64 y) := blk_cell (i := 1) hg1 rfl
  have hne : b ≠ w.heap.size := by omega
  clear hw1 hg1
  obtain ⟨c0, c1, c2, c3, c4, c5, c6, cf⟩ := side_cells HR1.out
  dsimp only at *
  by_cases hv : 1 ≤ x ∧ x ≤ 1099511627775
  · have hv' : decide (1 ≤ x ∧ x ≤ 1099511627775) = true := by simpa using hv
    obtain ⟨n, rfl⟩ : ∃ n : Nat, x = (n : Int) := ⟨x.toNat, by omega⟩
    by_cases hs : (n : Int) < (se : Int)
    · have ht : Side.receive ⟨m, d, p, se, st, si⟩ n y = ⟨m, d, p, se, st, si⟩ := by unfold Side.receive; rw [if_pos (by dsimp only; omega)]
      have HT := Lib.hid ht
      clear ht hv
      go_quiet (exact Calls.quiet_of_same ((incOk_any _ _).mono fun e w' h => ⟨show e = .returned (.bool true) from by rw [h.1, hv'], h.2.symm⟩))
      go_wp2_with fail
      go_ret
      exact ⟨⟨_, rfl⟩, by rw [HT.out]; exact ⟨ch, by (apply row_trans; focus (repeat (first | (with_reducible exact HR1.out) | (with_reducible apply row_set) | (with_reducible apply row_drewN) | (with_reducible apply row_drew) | (with_reducible apply row_alloc) | (apply row_set_other (by first | omega | (simp <;> omega)))))); rfl⟩, by have hf1 : Fr (fun k => k = b) w w1 := Fr.of_below (Fr.refl _ _) HB1.out; (repeat (first | (with_reducible exact hf1) | (with_reducible refine Fr.drewN ?_ _) | (with_reducible refine Fr.drew ?_)))⟩
    · have ht : Side.receive ⟨m, d, p, se, st, si⟩ n y = ⟨m, d, n, n, if y = (m : Int) then 2 else 1, 0⟩ := by unfold Side.receive; rw [if_neg (by dsimp only; omega)]; rfl
      have HT := Lib.hid ht
      clear ht hv
      by_cases hy : y = (m : Int)
      · have hy' : (y == (m : Int)) = true := by simpa using hy
        have HY := Lib.hid hy
        clear hy
        go_quiet (exact Calls.quiet_of_same ((incOk_any _ _).mono fun e w' h => ⟨show e = .returned (.bool true) from by rw [h.1, hv'], h.2.symm⟩))
        go_wp2_with fail
        go_quiet (fail)
        go_wp2_with fail
        generalize hw2 : (((w1.drewN _).setCell ⟨b, 3, none⟩ (.int .i64 (n : Int))).setCell ⟨b, 5, none⟩ (.int .i64 0)).drewN _ = w2
        have HF2 := Lib.hid (show Fr (fun k => k = b) w w2 by rw [← hw2]; exact (Fr.setCell (p := ⟨b, 5, none⟩) (Fr.setCell (p := ⟨b, 3, none⟩) (Fr.drewN (F := fun k => k = b) (Fr.of_below (Fr.refl _ _) HB1.out) _) (Or.inl rfl) _) (Or.inl rfl) _).drewN _)
        have HR2 := Lib.hid (show w2.heap[b]? = some (sideRow ⟨m, d, p, n, st, 0⟩ ch) by rw [← hw2]; (apply row_trans; focus (repeat (first | (with_reducible exact HR1.out) | (with_reducible apply row_set) | (with_reducible apply row_drewN) | (with_reducible apply row_drew) | (with_reducible apply row_alloc) | (apply row_set_other (by first | omega | (simp <;> omega)))))); rfl)
        clear hw2
        refine (become_any b m d p n st 0 ch w2 2 n HR2.out).mono ?_
        rintro e w3 ⟨⟨c, rfl⟩, ⟨ch', hr⟩, hf⟩
        have HR3 := Lib.hid hr
        have HF3 := Lib.hid (HF2.out.trans hf fun k hk => .inl hk)
        clear hr hf c0 c1 c2 c3 c4 c5 c6 cf g0 g1
        go_wp2_with fail
        go_ret
        exact ⟨⟨_, rfl⟩, by rw [HT.out, if_pos HY.out]; exact ⟨ch', HR3.out⟩, HF3.out⟩
      · have hy' : (y == (m : Int)) = false := by simpa using hy
        have HY := Lib.hid hy
        clear hy
        go_quiet (exact Calls.quiet_of_same ((incOk_any _ _).mono fun e w' h => ⟨show e = .returned (.bool true) from by rw [h.1, hv'], h.2.symm⟩))
        go_wp2_with fail
        go_quiet (fail)
        go_wp2_with fail
        generalize hw2 : (((w1.drewN _).setCell ⟨b, 3, none⟩ (.int .i64 (n : Int))).setCell ⟨b, 5, none⟩ (.int .i64 0)).drewN _ = w2
        have HF2 := Lib.hid (show Fr (fun k => k = b) w w2 by rw [← hw2]; exact (Fr.setCell (p := ⟨b, 5, none⟩) (Fr.setCell (p := ⟨b, 3, none⟩) (Fr.drewN (F := fun k => k = b) (Fr.of_below (Fr.refl _ _) HB1.out) _) (Or.inl rfl) _) (Or.inl rfl) _).drewN _)
        have HR2 := Lib.hid (show w2.heap[b]? = some (sideRow ⟨m, d, p, n, st, 0⟩ ch) by rw [← hw2]; (apply row_trans; focus (repeat (first | (with_reducible exact HR1.out) | (with_reducible apply row_set) | (with_reducible apply row_drewN) | (with_reducible apply row_drew) | (with_reducible apply row_alloc) | (apply row_set_other (by first | omega | (simp <;> omega)))))); rfl)
        clear hw2
        refine (become_any b m d p n st 0 ch w2 1 n HR2.out).mono ?_
        rintro e w3 ⟨⟨c, rfl⟩, ⟨ch', hr⟩, hf⟩
        have HR3 := Lib.hid hr
        have HF3 := Lib.hid (HF2.out.trans hf fun k hk => .inl hk)
        clear hr hf c0 c1 c2 c3 c4 c5 c6 cf g0 g1
        go_wp2_with fail
        go_ret
        exact ⟨⟨_, rfl⟩, by rw [HT.out, if_neg HY.out]; exact ⟨ch', HR3.out⟩, HF3.out⟩
  · have hv' : decide (1 ≤ x ∧ x ≤ 1099511627775) = false := by simpa using hv
    have ht : Side.receive ⟨m, d, p, se, st, si⟩ x y = ⟨m, d, p, se, st, si⟩ := by unfold Side.receive; rw [if_pos (by omega)]
    have HT := Lib.hid ht
    clear ht hv
    go_quiet (exact Calls.quiet_of_same ((incOk_any _ _).mono fun e w' h => ⟨show e = .returned (.bool false) from by rw [h.1, hv'], h.2.symm⟩))
    go_wp2_with fail
    go_ret
    exact ⟨⟨_, rfl⟩, by rw [HT.out]; exact ⟨ch, by (apply row_trans; focus (repeat (first | (with_reducible exact HR1.out) | (with_reducible apply row_set) | (with_reducible apply row_drewN) | (with_reducible apply row_drew) | (with_reducible apply row_alloc) | (apply row_set_other (by first | omega | (simp <;> omega)))))); rfl⟩, by have hf1 : Fr (fun k => k = b) w w1 := Fr.of_below (Fr.refl _ _) HB1.out; (repeat (first | (with_reducible exact hf1) | (with_reducible refine Fr.drewN ?_ _) | (with_reducible refine Fr.drew ?_)))⟩
end Go.Proofs.Ytcocnfbhileheaa

/- The side of a link (linkup): New. -/
namespace Go.Proofs.Ytcocnfbhileheaa
open Go.RowKit

theorem newSide_any (m d : Nat) (w : World) (h1 : 1 ≤ m) (h2 : m ≤ 1099511627775) (h3 : 1 ≤ d) (h4 : d ≤ 1000) :
    Calls Try.prog 40 #[.int .i64 (m : Int), .int .i64 (d : Int)] w fun e w' => e = .returned (.tuple #[.pointer (some ⟨w.heap.size, 0, none⟩), .int .i64 0]) ∧ SideAt w' w.heap.size (newSide m d) ∧ Below w.heap.size w w' := by
  have hv : decide (1 ≤ (m : Int) ∧ (m : Int) ≤ 1099511627775) = true := by simp; omega
  go_enter Try.func40, Try.ntmps40
  go_wp2_with fail
  refine (incOk_any (m : Int) w).mono ?_
  rintro e w' ⟨rfl, rfl⟩
  rw [hv]
  go_wp2_with fail
  go_ret2
  exact ⟨rfl, ⟨0, heap_alloc_new w _⟩, by (repeat (first | (with_reducible exact Below.refl _ _) | (with_reducible refine Bw.alloc ?_ _) | (with_reducible refine Bw.drewN ?_ _) | (with_reducible refine Bw.drew ?_)))⟩
end Go.Proofs.Ytcocnfbhileheaa
