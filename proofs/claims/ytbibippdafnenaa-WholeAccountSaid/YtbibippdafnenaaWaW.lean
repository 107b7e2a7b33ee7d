/- A booking that is accepted. -/
import Derived.Test.YtbibippdafnenaaWaV
namespace Go.Proofs.Ytbibippdafnenaa
open Go.RowKit Go.Maps
set_option maxRecDepth 100000

theorem zBal (w : World) : (zeroValue 84).run Try.prog w = .ok (.agg #[.int .i64 0, .int .i64 0, .int .i64 0, .int .i64 0, .int .i64 0]) w := by kernel_rfl
abbrev balO (b : Bal) : Obj := .cells #[.int .i64 b.s, .int .i64 b.t, .int .i64 b.f, .int .i64 b.d, .int .i64 b.g] 84
theorem bal_cell {w : World} {p : Nat} {b : Bal} (h : w.heap[p]? = some (balO b)) {k : Nat} (hk : k < 4) : w.cell? ⟨p, k, none⟩ = some (.int .i64 (b.get k)) := by
  have : k = 0 ∨ k = 1 ∨ k = 2 ∨ k = 3 := by omega
  rcases this with rfl | rfl | rfl | rfl <;> exact blk_cell h rfl
theorem bal_move {w : World} {p : Nat} {b : Bal} (h : w.heap[p]? = some (balO b)) {k : Nat} (hk : k < 3) (n : Int) : ((w.setCell ⟨p, k, none⟩ (.int .i64 (b.get k - n))).setCell ⟨p, k + 1, none⟩ (.int .i64 (b.get (k + 1) + n))).heap[p]? = some (balO (b.move k n)) := by
  have : k = 0 ∨ k = 1 ∨ k = 2 := by omega
  rcases this with rfl | rfl | rfl <;> ((apply row_trans; focus (repeat (first | (with_reducible exact h) | (with_reducible apply row_set) | (with_reducible apply row_drewN) | (with_reducible apply row_drew) | (with_reducible apply row_alloc) | (apply row_set_other (by first | omega | (simp <;> omega)))))); rfl)
theorem Bal.Small.get {b : Bal} (h : b.Small) (k : Nat) : -1000000000000 ≤ b.get k ∧ b.get k ≤ 1000000000000 := by
  obtain ⟨h1, h2, h3, h4, h5, h6, h7, h8, h9, h10⟩ := h
  unfold Bal.get
  split <;> exact ⟨by assumption, by assumption⟩
section
variable {F Z : BS} {W w : World} {ts : List Th} {p : Nat} {L : Led}
theorem led_cells {v : Value} {b : Nat} (h : w.heap[p]? = some (.cells #[v, .map (some b)] 74)) : w.cell? ⟨p, 0, none⟩ = some v ∧ w.cell? ⟨p, 1, none⟩ = some (.map (some b)) := ⟨blk_cell h rfl, blk_cell h rfl⟩
theorem ent_cells {b : Nat} {t c k m n : Int} (h : w.heap[b]? = some (.cells #[.int .i64 t, .int .i64 c, .int .i64 k, .int .i64 m, .int .i64 n] 45)) : w.cell? ⟨b, 0, none⟩ = some (.int .i64 t) ∧ w.cell? ⟨b, 1, none⟩ = some (.int .i64 c) ∧ w.cell? ⟨b, 2, none⟩ = some (.int .i64 k) ∧ w.cell? ⟨b, 3, none⟩ = some (.int .i64 m) ∧ w.cell? ⟨b, 4, none⟩ = some (.int .i64 n) :=
  ⟨blk_cell h rfl, blk_cell h rfl, blk_cell h rfl, blk_cell h rfl, blk_cell h rfl⟩
set_option maxHeartbeats 64000000 in
theorem book_c (h : Held F Z W (tLed p L :: ts) w) (e : Ent) (hc : L.Can e) :
    Calls Try.prog 9 #[.pointer (some ⟨p, 0, none⟩), .agg #[.int .i64 (e.tick : Int), .int .i64 (e.conn : Int), .int .i64 (e.frm : Int), .int .i64 ((e.frm + 1 : Nat) : Int), .int .i64 (e.bytes : Int)]] w fun x w' => x = .returned (.int .i64 0) ∧ Held F Z W (tLed p (L.book e) :: ts) w' := by
  obtain ⟨⟨ev, mb⟩, h1⟩ := Held.opens h
  obtain ⟨_, _, hsq⟩ := h1.get 1 rfl
  obtain ⟨ea, ec, e1, hle1, hle2, -⟩ := Sq.le (show Sq eEnt 45 w _ _ ev L.es from hsq)
  subst e1
  clear hsq
  obtain ⟨N, hN⟩ : ∃ N, N = L.es.length := ⟨_, rfl⟩
  rw [← hN] at h1 hle1
  obtain ⟨ti, co, k, n⟩ := e
  obtain ⟨g1, g2, g3, g4, g5, g6, g7, g8, g9⟩ := hc
  dsimp only at g1 g2 g3 g4 g5 g6 g8 g9 ⊢
  rw [← hN] at g6 g7
  have HN := Lib.hid hN
  clear hN
  have H1 := Lib.hid (h1.new (.cells #[.int .i64 (ti : Int), .int .i64 (co : Int), .int .i64 (k : Int), .int .i64 ((k + 1 : Nat) : Int), .int .i64 (n : Int)] 45)).front
  have hpl := lt_of_block (h1.blk 0 rfl)
  have G6 := Lib.hid g6
  have G8 := Lib.hid g8
  have G9 := Lib.hid (show ∀ k, -1000000000000 ≤ (L.bal co).get k ∧ (L.bal co).get k ≤ 1000000000000 from fun k => g9.get k)
  clear h h1 g6 g8 g9
  go_enter Try.func9, Try.ntmps9
  obtain ⟨wb, hwb⟩ : ∃ wb, wb = w.alloc (.cells #[.int .i64 (ti : Int), .int .i64 (co : Int), .int .i64 (k : Int), .int .i64 ((k + 1 : Nat) : Int), .int .i64 (n : Int)] 45) := ⟨_, rfl⟩
  obtain ⟨kk, hkk⟩ : ∃ kk : Int, kk = ((k + 1 : Nat) : Int) := ⟨_, rfl⟩
  rw [← hkk] at hwb H1 ⊢
  have HKK := Lib.hid hkk
  have hk2 : 0 ≤ kk ∧ kk < 5 := by omega
  have hk3 : (0 : Int) ≤ (k : Int) ∧ (k : Int) < 5 := by omega
  clear hkk
  go_upto_region 3 with fail
  rw [← hwb] at H1 ⊢
  have hbox := H1.out.blk 0 rfl
  obtain ⟨b0, b1, b2, b3, b4⟩ := ent_cells hbox
  clear hwb hbox
  go_wp2_with (first | (go_at_call 25; refine (inRange_c _ _ _ _ _ (by omega) _).mono ?_; rintro x w2 ⟨rfl, hb2⟩; have H2 := Lib.hid (H1.out.own hb2); clear H1 hb2 b0 b1 b2 b3 b4; have hbox := H2.out.blk 0 rfl; obtain ⟨b0, b1, b2, b3, b4⟩ := ent_cells hbox; obtain ⟨c0, c1⟩ := led_cells (H2.out.blk 1 rfl); clear hbox) | (go_at_call 26; refine (permitted_c k g2 kk HKK.out _).mono ?_; rintro x w3 ⟨rfl, rfl⟩))
  have hlen : N ≤ 10000 := by omega
  by_cases hz : N = 0
  case' pos =>
    have hz2 : ¬ 0 < N := by omega
    have hz3 : decide (0 < N) = false := by rw [decide_eq_false_iff_not]; omega
    clear hz hle1 hle2 hlen hz2 b0 b1 b2 b3 b4 c0 c1
    refine wp_region_held_drew (S := fun _ => True) (by kernel_rfl) trivial (fun hS0 => ?_)
    change wpAnyH _ _ _ _ _ (0 + 16) _ _ _
    refine wpAnyH_take_n 0 16 (by kernel_rfl) hS0 (fun _ _ _ _ _ h => h) ?_
    simp only [List.drop_zero, List.take_succ_cons, List.take_zero]
    iterate 3 (refine wpFirst_val (v := ?_) (by rfl) ?_ ?_; rotate_left 1; (focus ((intro w' hS'; go_simp); try with_reducible rfl)); simp only [Act.put, List.setIfInBounds_toArray, List.set_cons_zero, List.set_cons_succ])
    iterate 12 (refine wpFirst_un (by rfl) ?_; simp only [Act.put, List.setIfInBounds_toArray, List.set_cons_zero, List.set_cons_succ])
    (refine wpFirst_val (v := ?_) (by rfl) ?_ ?_; rotate_left 1; (focus ((intro w' hS'; go_simp); try with_reducible rfl)); simp only [Act.put, List.setIfInBounds_toArray, List.set_cons_zero, List.set_cons_succ])
    refine wpFirst_nil ?_
    refine wpAnyH_done (by kernel_rfl) ?_ _
  case' neg =>
    obtain ⟨x, hx⟩ : ∃ x, L.es[N - 1]? = some x := ⟨L.es[N - 1]'(by rw [← HN.out]; omega), List.getElem?_eq_getElem (by rw [← HN.out]; omega)⟩
    obtain ⟨_, _, hsq⟩ := H2.out.get 2 rfl
    obtain ⟨eb, eo, cs, _, e1, _, hrd, _, hcs⟩ := Sq.at (show Sq eEnt 45 w2 _ _ (.slice ea N ec) L.es from hsq) (by decide) hx
    subst e1
    have x0 := hcs 0 (.int .i64 (x.tick : Int)) (by rw [show cs = entC x from hrd]; rfl)
    have x0' : w2.cell? ⟨eb, eo + (N - 1) * 5, none⟩ = some (.int .i64 (x.tick : Int)) := x0
    have hxt : (x.tick : Int) ≤ (ti : Int) := by have := G6.out x hx; omega
    have hwr : IntKind.i64.wrap ((N : Int) - 1) = ((N - 1 : Nat) : Int) := by rw [IntKind.wrap_i64]; omega
    have hxi : (0 : Int) ≤ ((N - 1 : Nat) : Int) ∧ ((N - 1 : Nat) : Int) < (N : Int) := by omega
    have hpos : decide (0 < N) = true := by rw [decide_eq_true_iff]; omega
    have HX := Lib.hid hx
    have HF := Lib.hid (show ∀ w' : World, Held F Z W (tBlk w.heap.size (.cells #[.int .i64 (ti : Int), .int .i64 (co : Int), .int .i64 (k : Int), .int .i64 kk, .int .i64 (n : Int)] 45) :: ledThs p L (.slice (some ⟨eb, eo, none⟩) N ec, mb) ++ ts) w' → w'.cell? ⟨w.heap.size, 0, none⟩ = some (.int .i64 (ti : Int)) ∧ w'.cell? ⟨p, 0, none⟩ = some (.slice (some ⟨eb, eo, none⟩) N ec) ∧ w'.cell? ⟨eb, eo + (N - 1) * 5, none⟩ = some (.int .i64 (x.tick : Int)) from fun w' hw' => by
      obtain ⟨b0, _⟩ := ent_cells (hw'.blk 0 rfl)
      obtain ⟨c0, c1⟩ := led_cells (hw'.blk 1 rfl)
      obtain ⟨_, _, hsq⟩ := hw'.get 2 rfl
      obtain ⟨eb', eo', cs, _, e1, _, hrd, _, hcs⟩ := Sq.at (show Sq eEnt 45 w' _ _ (.slice (some ⟨eb, eo, none⟩) N ec) L.es from hsq) (by decide) HX.out
      obtain ⟨rfl, rfl⟩ : eb = eb' ∧ eo = eo' := by simpa using e1
      exact ⟨b0, c0, hcs 0 (.int .i64 (x.tick : Int)) (by rw [show cs = entC x from hrd]; rfl)⟩)
    have H2' : Hid (Held F Z W (tBlk w.heap.size (.cells #[.int .i64 (ti : Int), .int .i64 (co : Int), .int .i64 (k : Int), .int .i64 kk, .int .i64 (n : Int)] 45) :: ledThs p L (.slice (some ⟨eb, eo, none⟩) N ec, mb) ++ ts) w2) := H2
    clear x0 x0' hcs hrd hsq hx hz hle1 hle2 hlen b0 b1 b2 b3 b4 c0 c1
    refine wp_region_held_drew (S := Held F Z W (tBlk w.heap.size (.cells #[.int .i64 (ti : Int), .int .i64 (co : Int), .int .i64 (k : Int), .int .i64 kk, .int .i64 (n : Int)] 45) :: ledThs p L (.slice (some ⟨eb, eo, none⟩) N ec, mb) ++ ts)) (by kernel_rfl) H2'.out.drew (fun hS0 => ?_)
    change wpAnyH _ _ _ _ _ (0 + 16) _ _ _
    refine wpAnyH_take_n 0 16 (by kernel_rfl) hS0 (fun _ _ _ _ _ h => h) ?_
    simp only [List.drop_zero, List.take_succ_cons, List.take_zero]
    iterate 16 (refine wpFirst_val (v := ?_) (by rfl) ?_ ?_; rotate_left 1; (focus ((intro w' hS'; obtain ⟨e0, e1, e2⟩ := HF.out w' hS'; go_simp); try with_reducible rfl)); simp only [Act.put, List.setIfInBounds_toArray, List.set_cons_zero, List.set_cons_succ])
    refine wpFirst_nil ?_
    refine wpAnyH_done (by kernel_rfl) ?_ _
    obtain ⟨ea, hea⟩ : ∃ ea, ea = some (⟨eb, eo, none⟩ : Addr) := ⟨_, rfl⟩
    rw [← hea] at H2 ⊢
    have hxt2 : decide ((ti : Int) < (x.tick : Int)) = false := by rw [decide_eq_false_iff_not]; omega
    have hxt3 : decide (ti < x.tick) = false := by rw [decide_eq_false_iff_not]; omega
    clear HF H2' hS0 hwr hxi hpos HX hea
  all_goals
    have H3 := Lib.hid H2.out.drew
    generalize w2.drew = w3 at *
    clear H2
    obtain ⟨B, hB⟩ : ∃ B, B = L.bal co := ⟨_, rfl⟩
    rw [← hB] at G8 G9
    have HBA := Lib.hid hB
    clear hB
    have HF := Lib.hid (show ∀ w' : World, Held F Z W (tBlk w.heap.size (.cells #[.int .i64 (ti : Int), .int .i64 (co : Int), .int .i64 (k : Int), .int .i64 kk, .int .i64 (n : Int)] 45) :: ledThs p L (.slice ea N ec, mb) ++ ts) w' → w'.cell? ⟨w.heap.size, 1, none⟩ = some (.int .i64 (co : Int)) ∧ w'.cell? ⟨p, 1, none⟩ = some (.map (some mb)) ∧ (Instr.lookup 72 (.map (some mb)) (.int .i64 (co : Int)) false).run Try.prog w' = .ok (balV B) w' from fun w' hw' => by
      obtain ⟨_, b1, _⟩ := ent_cells (hw'.blk 0 rfl)
      obtain ⟨c0, c1⟩ := led_cells (hw'.blk 1 rfl)
      have q := hw'.mapLook1 3 rfl Try.underlying72 (zv := .agg #[.int .i64 0, .int .i64 0, .int .i64 0, .int .i64 0, .int .i64 0]) (z0 := Bal.zero) (zBal w') rfl trivial (k := (co : Int)) (by simp [Lit.wf, IntKind.min, IntKind.max, IntKind.signed, IntKind.bits]; omega)
      rw [HBA.out]
      exact ⟨b1, c1, q⟩)
    have g7' : decide (10000 ≤ (N : Int)) = false := by rw [decide_eq_false_iff_not]; omega
    have g7'' : decide (10000 ≤ N) = false := by rw [decide_eq_false_iff_not]; omega
    go_upto_region 12 with fail
    refine wp_region_held_drew (S := Held F Z W (tBlk w.heap.size (.cells #[.int .i64 (ti : Int), .int .i64 (co : Int), .int .i64 (k : Int), .int .i64 kk, .int .i64 (n : Int)] 45) :: ledThs p L (.slice ea N ec, mb) ++ ts)) (by kernel_rfl) H3.out.drew (fun hS0 => ?_)
    change wpAnyH _ _ _ _ _ (2 + 7) _ _ _
    refine wpAnyH_take_n 0 7 (by kernel_rfl) hS0 (fun _ _ _ _ _ h => h) ?_
    simp only [List.drop_zero, List.take_succ_cons, List.take_zero]
    iterate 7 (refine wpFirst_val (v := ?_) (by rfl) ?_ ?_; rotate_left 1; (focus ((intro w' hS'; obtain ⟨e0, e1, e2⟩ := HF.out w' hS'; go_simp); try with_reducible rfl)); simp only [Act.put, List.setIfInBounds_toArray, List.set_cons_zero, List.set_cons_succ])
    refine wpFirst_nil ?_
    refine wpAnyH_one 7 (by kernel_rfl) rfl (fun K hK => ?_)
    go_simp
    refine hK.out _ _ (hS0.alloc _) ?_
    clear hK K
    refine wpAnyH_one 8 (by kernel_rfl) rfl (fun K hK => ?_)
    go_simp
    have H4 := Lib.hid (show Held F Z W (tBlk w3.heap.size (balO B) :: tBlk w.heap.size (.cells #[.int .i64 (ti : Int), .int .i64 (co : Int), .int .i64 (k : Int), .int .i64 kk, .int .i64 (n : Int)] 45) :: ledThs p L (.slice ea N ec, mb) ++ ts) (w3.alloc (balO B)).drew from (H3.out.new (balO B)).front.drew)
    refine hK.out _ _ H4.out.tail ?_
    clear hK K
    refine wpAnyH_done (by kernel_rfl) ?_ _
    clear hS0 HF
    generalize hw4 : (w3.alloc (balO B)).drew = w4 at *
    clear hw4 H3
    generalize w3.heap.size = bb at *
    have HK := Lib.hid (show kk = (k : Int) + 1 by rw [HKK.out]; omega)
    have hwr1 : IntKind.i64.wrap (B.get k - (n : Int)) = B.get k - (n : Int) := by rw [IntKind.wrap_i64]; have := G9.out k; omega
    have hwr2 : IntKind.i64.wrap (B.get (k + 1) + (n : Int)) = B.get (k + 1) + (n : Int) := by rw [IntKind.wrap_i64]; have := G9.out (k + 1); omega
    have hkn : ((k : Int) + 1).toNat = k + 1 := by omega
    have hk4 : (0 : Int) ≤ (k : Int) + 1 ∧ (k : Int) + 1 < 5 := by omega
    have HF := Lib.hid (show ∀ w' : World, Held F Z W (tBlk bb (balO B) :: tBlk w.heap.size (.cells #[.int .i64 (ti : Int), .int .i64 (co : Int), .int .i64 (k : Int), .int .i64 kk, .int .i64 (n : Int)] 45) :: ledThs p L (.slice ea N ec, mb) ++ ts) w' → w'.cell? ⟨w.heap.size, 2, none⟩ = some (.int .i64 (k : Int)) ∧ w'.cell? ⟨w.heap.size, 4, none⟩ = some (.int .i64 (n : Int)) ∧ w'.cell? ⟨bb, k, none⟩ = some (.int .i64 (B.get k)) from fun w' hw' => by
      obtain ⟨_, _, b2, _, b4⟩ := ent_cells (hw'.blk 1 rfl)
      exact ⟨b2, b4, bal_cell (hw'.blk 0 rfl) (by omega)⟩)
    by_cases hk0 : k = 0
    case' pos =>
      have hq1 : ((k : Int) != 0) = false := by rw [hk0]; rfl
      have hq2 : ((k : Int) == 0) = true := by rw [hk0]; rfl
      clear hk0
      go_upto_region 13 with fail
      refine wp_region_held_drew (S := Held F Z W (tBlk bb (balO B) :: tBlk w.heap.size (.cells #[.int .i64 (ti : Int), .int .i64 (co : Int), .int .i64 (k : Int), .int .i64 kk, .int .i64 (n : Int)] 45) :: ledThs p L (.slice ea N ec, mb) ++ ts)) (by kernel_rfl) H4.out.drew (fun hS0 => ?_)
      change wpAnyH _ _ _ _ _ (0 + 12) _ _ _
      refine wpAnyH_take_n 0 12 (by kernel_rfl) hS0 (fun _ _ _ _ _ h => h) ?_
      simp only [List.drop_zero, List.take_succ_cons, List.take_zero]
      iterate 4 (refine wpFirst_val (v := ?_) (by rfl) ?_ ?_; rotate_left 1; (focus ((intro w' hS'; obtain ⟨e0, e1, e2⟩ := HF.out w' hS'; go_simp); try with_reducible rfl)); simp only [Act.put, List.setIfInBounds_toArray, List.set_cons_zero, List.set_cons_succ])
      iterate 7 (refine wpFirst_un (by rfl) ?_; simp only [Act.put, List.setIfInBounds_toArray, List.set_cons_zero, List.set_cons_succ])
      (refine wpFirst_val (v := ?_) (by rfl) ?_ ?_; rotate_left 1; (focus ((intro w' hS'; go_simp); try with_reducible rfl)); simp only [Act.put, List.setIfInBounds_toArray, List.set_cons_zero, List.set_cons_succ])
      refine wpFirst_nil ?_
      refine wpAnyH_done (by kernel_rfl) ?_ _
      clear hq1 hq2 hS0
    case' neg =>
      have hq1 : ((k : Int) != 0) = true := by simp; omega
      have hq2 : decide (B.get k < (n : Int)) = false := by rw [decide_eq_false_iff_not]; have := G8.out hk0; omega
      clear hk0
      go_upto_region 13 with fail
      refine wp_region_held_drew (S := Held F Z W (tBlk bb (balO B) :: tBlk w.heap.size (.cells #[.int .i64 (ti : Int), .int .i64 (co : Int), .int .i64 (k : Int), .int .i64 kk, .int .i64 (n : Int)] 45) :: ledThs p L (.slice ea N ec, mb) ++ ts)) (by kernel_rfl) H4.out.drew (fun hS0 => ?_)
      change wpAnyH _ _ _ _ _ (0 + 12) _ _ _
      refine wpAnyH_take_n 0 12 (by kernel_rfl) hS0 (fun _ _ _ _ _ h => h) ?_
      simp only [List.drop_zero, List.take_succ_cons, List.take_zero]
      iterate 12 (refine wpFirst_val (v := ?_) (by rfl) ?_ ?_; rotate_left 1; (focus ((intro w' hS'; obtain ⟨e0, e1, e2⟩ := HF.out w' hS'; go_simp); try with_reducible rfl)); simp only [Act.put, List.setIfInBounds_toArray, List.set_cons_zero, List.set_cons_succ])
      refine wpFirst_nil ?_
      refine wpAnyH_done (by kernel_rfl) ?_ _
      clear hq1 hS0
    all_goals
      have H5 := Lib.hid H4.out.drew
      generalize w4.drew = w5 at *
      clear H4 HF
      have hbox := H5.out.blk 1 rfl
      obtain ⟨b0, b1, b2, b3, b4⟩ := ent_cells hbox
      rw [HK.out] at b3
      have hbal := H5.out.blk 0 rfl
      have d0 := bal_cell hbal (show k < 4 by omega)
      have d1 := bal_cell hbal (show k + 1 < 4 by omega)
      have hup := blk_free hbal
      clear hbox
      go_wp2_with fail
      refine wp_region_still_tail 8 (by kernel_rfl) (by kernel_rfl) ?_
      simp only [List.take_succ_cons, List.take_zero, List.drop_succ_cons, List.drop_zero]
      change wpStill _ _ (World.drew _) (fun a' => wpList _ _ _ _ a' (World.drew _)) _ _
      repeat still_step
      refine wpStill_nil ?_
      go_wp2_with fail
      refine wp_region_still_tail 8 (by kernel_rfl) (by kernel_rfl) ?_
      simp only [List.take_succ_cons, List.take_zero, List.drop_succ_cons, List.drop_zero]
      change wpStill _ _ (World.drew _) (fun a' => wpList _ _ _ _ a' (World.drew _)) _ _
      repeat still_step
      refine wpStill_nil ?_
      go_upto_region 17 with fail
      generalize hw6 : World.drew (World.drew _) = w6
      have H6 := Lib.hid (show Held F Z W (tBlk bb (balO (B.move k n)) :: tBlk w.heap.size (.cells #[.int .i64 (ti : Int), .int .i64 (co : Int), .int .i64 (k : Int), .int .i64 kk, .int .i64 (n : Int)] 45) :: ledThs p L (.slice ea N ec, mb) ++ ts) w6 by
        rw [← hw6]
        exact (H5.out.set 0 rfl (balO (B.move k n)) (((Fr.refl (fun k => k = bb) w5).setCell (p := ⟨bb, k, none⟩) (.inl rfl) _).setCell (p := ⟨bb, k + 1, none⟩) (.inl rfl) _) (bal_move hbal g2 n)).drew.drew)
      clear hw6 H5 d0 d1 hup hbal b0 b1 b2 b3 b4 hwr1 hwr2 hkn hk4
      have hbox := H6.out.blk 1 rfl
      obtain ⟨b0, b1, b2, b3, b4⟩ := ent_cells hbox
      obtain ⟨c0, c1⟩ := led_cells (H6.out.blk 2 rfl)
      obtain ⟨B2, hB2⟩ : ∃ B2, B2 = B.move k n := ⟨_, rfl⟩
      rw [← hB2] at H6
      have hbal := H6.out.blk 0 rfl
      have d0 := blk_cell (i := 0) hbal rfl; have d1 := blk_cell (i := 1) hbal rfl; have d2 := blk_cell (i := 2) hbal rfl; have d3 := blk_cell (i := 3) hbal rfl; have d4 := blk_cell (i := 4) hbal rfl
      have HB2 := Lib.hid hB2
      have qT : ∀ (w : World) (r : Option Nat), (binOp .eql 72 (.map r) (.map none)).run Try.prog w = .ok (.bool r.isNone) w := fun w r => run_eql_map_nil w _ _ _ r Try.underlying72
      clear hbox hbal hB2
      go_wp2_with fail
      refine wp_region_still_tail 7 (by kernel_rfl) (by kernel_rfl) ?_
      simp only [List.take_succ_cons, List.take_zero, List.drop_succ_cons, List.drop_zero]
      change wpStill _ _ (World.drew _) (fun a' => wpList _ _ _ _ a' (World.drew _)) _ _
      repeat still_step
      refine wpStill_nil ?_
      refine wpList_mset (M := mBal) rfl _ _ _ 72 rfl 84 Try.underlying72 H6.out.drew 4 rfl (by have := HN.out; omega) (co : Int) B2 trivial rfl rfl rfl (by simp [Lit.wf, IntKind.min, IntKind.max, IntKind.signed, IntKind.bits]; omega) ?_
      intro w7 h7 _
      have H7 := Lib.hid (show Held F Z W (tSq eEnt 45 (.slice ea N ec) L.es :: tBlk w.heap.size (.cells #[.int .i64 (ti : Int), .int .i64 (co : Int), .int .i64 (k : Int), .int .i64 kk, .int .i64 (n : Int)] 45) :: tBlk p (.cells #[.slice ea N ec, .map (some mb)] 74) :: tMap mBal mb (L.es.length + 1) (L.book ⟨ti, co, k, n⟩).m :: ts) w7 from by
        have e : (fun j => if j = (co : Int) then some B2 else L.m j) = (L.book ⟨ti, co, k, n⟩).m := by rw [HB2.out, HBA.out]; rfl
        rw [← e]
        have h8 : Held F Z W (tBlk bb (balO B2) :: tBlk w.heap.size (.cells #[.int .i64 (ti : Int), .int .i64 (co : Int), .int .i64 (k : Int), .int .i64 kk, .int .i64 (n : Int)] 45) :: tBlk p (.cells #[.slice ea N ec, .map (some mb)] 74) :: tSq eEnt 45 (.slice ea N ec) L.es :: tMap mBal mb (L.es.length + 1) (fun j => if j = (co : Int) then some B2 else L.m j) :: ts) w7 := h7
        exact Held.lift (A := [tBlk w.heap.size _, tBlk p _]) h8.tail)
      clear h7 H6 b0 b1 b2 b3 b4 c0 c1 d0 d1 d2 d3 d4 qT
      have HF := Lib.hid (show ∀ w' : World, Held F Z W (tBlk w.heap.size (.cells #[.int .i64 (ti : Int), .int .i64 (co : Int), .int .i64 (k : Int), .int .i64 kk, .int .i64 (n : Int)] 45) :: tBlk p (.cells #[.slice ea N ec, .map (some mb)] 74) :: tMap mBal mb (L.es.length + 1) (L.book ⟨ti, co, k, n⟩).m :: ts) w' → (w'.cell? ⟨w.heap.size, 0, none⟩ = some (.int .i64 (ti : Int)) ∧ w'.cell? ⟨w.heap.size, 1, none⟩ = some (.int .i64 (co : Int)) ∧ w'.cell? ⟨w.heap.size, 2, none⟩ = some (.int .i64 (k : Int)) ∧ w'.cell? ⟨w.heap.size, 3, none⟩ = some (.int .i64 kk) ∧ w'.cell? ⟨w.heap.size, 4, none⟩ = some (.int .i64 (n : Int))) ∧ w'.cell? ⟨p, 0, none⟩ = some (.slice ea N ec) from fun w' hw' =>
        ⟨ent_cells (hw'.blk 0 rfl), (led_cells (hw'.blk 1 rfl)).1⟩)
      go_wp2_with fail
      refine wp_region_lag 10 (S := Held F Z W (tBlk w.heap.size (.cells #[.int .i64 (ti : Int), .int .i64 (co : Int), .int .i64 (k : Int), .int .i64 kk, .int .i64 (n : Int)] 45) :: tBlk p (.cells #[.slice ea N ec, .map (some mb)] 74) :: tMap mBal mb (L.es.length + 1) (L.book ⟨ti, co, k, n⟩).m :: ts)) (by kernel_rfl) H7.out.tail.drew (fun hS0 => ?_)
      change wpAnyL _ _ _ _ _ _ (5 + 6) _ _ _
      refine wpAnyL_take_n 0 6 (by kernel_rfl) hS0 (fun _ _ _ _ _ h => h) ?_
      simp only [List.drop_zero, List.take_succ_cons, List.take_zero]
      iterate 6 (refine wpFirst_val (v := ?_) (by rfl) ?_ ?_; rotate_left 1; (focus ((intro w' hS'; obtain ⟨⟨e0, e1, e2, e3, e4⟩, e5⟩ := HF.out w' hS'; go_simp); try with_reducible rfl)); simp only [Act.put, List.setIfInBounds_toArray, List.set_cons_zero, List.set_cons_succ])
      refine wpFirst_nil ?_
      refine wpAnyL_one 6 (by kernel_rfl) rfl (fun K hK => ?_)
      go_simp
      refine hK.out _ _ (fun _ => hS0.alloc _) ?_
      clear hK K
      refine wpAnyL_one 7 (by kernel_rfl) rfl (fun K hK => ?_)
      refine step_appE (E := eEnt) slEnt (by decide) rfl _ _ rfl (H7.out.drew.alloc _) 0 rfl (by rw [← HN.out]; omega) rfl _ [⟨ti, co, k, n⟩] (by show 1 ≤ 100000; decide) (entC ⟨ti, co, k, n⟩) rfl (by rw [show entC ⟨ti, co, k, n⟩ = [.int .i64 (ti : Int), .int .i64 (co : Int), .int .i64 (k : Int), .int .i64 kk, .int .i64 (n : Int)] by rw [HKK.out]; rfl]; exact rd_lit _ _ 5 1 _ _ _ rfl rfl (by decide)) (by intro u hu; simp [entC] at hu; rcases hu with rfl | rfl | rfl | rfl | rfl <;> rfl) (fun Y _ => ⟨fun _ => False, fun _ f => f.elim, Els.single (E := eEnt) rfl⟩) ?_
      intro a' c' w8 h8
      have ebk : L.es ++ [⟨ti, co, k, n⟩] = (L.book ⟨ti, co, k, n⟩).es := rfl
      rw [ebk] at h8
      rw [ebk]
      have H8 := Lib.hid (show Held F Z W (tSq eEnt 45 (.slice a' (L.book ⟨ti, co, k, n⟩).es.length c') (L.book ⟨ti, co, k, n⟩).es :: tBlk w.heap.size (.cells #[.int .i64 (ti : Int), .int .i64 (co : Int), .int .i64 (k : Int), .int .i64 kk, .int .i64 (n : Int)] 45) :: tBlk p (.cells #[.slice ea N ec, .map (some mb)] 74) :: tMap mBal mb (L.es.length + 1) (L.book ⟨ti, co, k, n⟩).m :: ts) w8 from h8)
      clear h8 hS0 ebk H7 HF
      refine hK.out _ _ (fun _ => H8.out.tail) ?_
      clear hK K
      refine wpAnyL_one 8 (by kernel_rfl) rfl (fun K hK => ?_)
      go_simp
      refine hK.out _ _ (fun _ => H8.out.tail) ?_
      clear hK K
      refine wpAnyL_one 9 (by kernel_rfl) rfl (fun K hK => ?_)
      go_simp
      refine hK.out _ _ (fun _ => H8.out.tail) ?_
      clear hK K
      refine wpAnyL_one 10 (by kernel_rfl) rfl (fun K hK => ?_)
      obtain ⟨c0, c1⟩ := led_cells (H8.out.blk 2 rfl)
      have hup := blk_free (H8.out.blk 2 rfl)
      go_simp
      refine hK.out _ _ (fun h => absurd rfl h) ?_
      clear hK K
      refine wpAnyL_done (by kernel_rfl) ?_ _
      have H9 := Lib.hid (H8.out.set 2 rfl (.cells #[.slice a' (L.book ⟨ti, co, k, n⟩).es.length c', .map (some mb)] 74) ((Fr.refl (fun k => k = p) w8).setCell (p := ⟨p, 0, none⟩) (.inl rfl) (.slice a' (L.book ⟨ti, co, k, n⟩).es.length c')) (by have hr := H8.out.blk 2 rfl; (apply row_trans; focus (repeat (first | (with_reducible exact hr) | (with_reducible apply row_set) | (with_reducible apply row_drewN) | (with_reducible apply row_drew) | (with_reducible apply row_alloc) | (apply row_set_other (by first | omega | (simp <;> omega)))))); rfl))
      clear H8
      go_wp2_with fail
      go_ret
      refine ⟨rfl, Held.shut (f := ledThs p (L.book ⟨ti, co, k, n⟩)) (i := (.slice a' (L.book ⟨ti, co, k, n⟩).es.length c', mb)) ?_⟩
      have e : (L.book ⟨ti, co, k, n⟩).es.length = L.es.length + 1 := by show (L.es ++ [_]).length = _; rw [List.length_append]; rfl
      have h := H9.out
      rw [← e] at h
      exact (Held.lift (A := [tBlk p _, tSq eEnt 45 _ _]) (Held.lift (A := [tSq eEnt 45 _ _, tBlk w.heap.size _]) h)).tail
end
end Go.Proofs.Ytbibippdafnenaa
