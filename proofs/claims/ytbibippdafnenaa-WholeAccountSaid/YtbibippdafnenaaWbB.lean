/- A writer takes bytes. -/
import Derived.Test.YtbibippdafnenaaWbA
namespace Go.Proofs.Ytbibippdafnenaa
open Go.RowKit
set_option maxRecDepth 100000

section
variable {F Z : BS} {W w : World} {ts : List Th} {p : Nat} {x : Wr}
theorem wr_row_write (x : Wr) (d : List Byte) (v : Value) (m : Nat) (hm : x.takes d.length = m) (hd : m ≤ d.length) : wrRow (x.write d) v = .cells #[.int .i64 (x.win : Int), .int .i64 2, v, .int .i64 ((x.all.length : Int) + (m : Int)), .int .i64 (x.base : Int), .int .i64 (x.next : Int), .int .i64 (x.top : Int), .int .i64 (x.room : Int), .int .i64 (x.idle : Int), .bool x.closed, .bool x.ended, .bool x.marked, .bool x.done] 76 := by
  have e : ((x.write d).all.length : Int) = (x.all.length : Int) + (m : Int) := by
    show ((x.all ++ d.take (x.takes d.length)).length : Int) = _
    rw [hm, List.length_append, List.length_take]; omega
  unfold wrRow
  rw [e]
  rfl
set_option maxHeartbeats 16000000 in
theorem writeW_c (h : Held F Z W (tWr p x :: ts) w) (hx : x.Ok) {da : Option Addr} {n dc : Nat} {d : List Byte} (i : Nat) (hi : ts[i]? = some (tBy (.slice da n dc) d)) (hn : n = d.length) (hl : n ≤ 1000) :
    Calls Try.prog 10 #[.pointer (some ⟨p, 0, none⟩), .slice da n dc] w fun e w' => ∃ k : Int, (k = 0 ∨ k = 13) ∧ e = .returned (.tuple #[.int .i64 (x.takes d.length : Int), .int .i64 k]) ∧ Held F Z W (tWr p (x.write d) :: ts) w' := by
  obtain ⟨v, h1⟩ := Held.opens h
  obtain ⟨x1, x2, x3, x4, x5, x6, x7, x8⟩ := hx
  cases hc : x.closed
  case true =>
    have e0 : x.takes d.length = 0 := by unfold Wr.takes; rw [hc]; rfl
    have e1 : x.write d = x := by unfold Wr.write; rw [e0]; simp
    rw [e0, e1]
    obtain ⟨-, -, -, -, -, -, -, -, -, c9, -⟩ := wr_cells (h1.blk 0 rfl)
    rw [hc] at c9
    have H2 := Lib.hid h
    clear h h1 hc hi e0 e1
    go_enter Try.func10, Try.ntmps10
    go_wp2_with fail
    go_ret2
    exact ⟨13, .inr rfl, rfl, H2.out⟩
  case false =>
    obtain ⟨_, _, hsq⟩ := h1.get 1 rfl
    obtain ⟨ka, kc, e1, hle1, hle2, -⟩ := Sq.le (show Sq eU8 5 w _ _ v (x.all.drop x.base) from hsq)
    subst e1
    obtain ⟨m, hm⟩ : ∃ m, m = x.takes d.length := ⟨_, rfl⟩
    obtain ⟨T, hT⟩ : ∃ T, T = x.all.length := ⟨_, rfl⟩
    obtain ⟨kn, hkn⟩ : ∃ kn, kn = (x.all.drop x.base).length := ⟨_, rfl⟩
    have hm1 : m = min n (min (x.win - (T - x.base)) (1048576 - T)) := by rw [hm, hT, hn]; unfold Wr.takes; rw [hc]; rfl
    rw [← hT] at x2 x5 x8
    rw [← hkn] at hle1 h1
    have HR := Lib.hid (show ∀ v, wrRow (x.write d) v = .cells #[.int .i64 (x.win : Int), .int .i64 2, v, .int .i64 ((T : Int) + (m : Int)), .int .i64 (x.base : Int), .int .i64 (x.next : Int), .int .i64 (x.top : Int), .int .i64 (x.room : Int), .int .i64 (x.idle : Int), .bool x.closed, .bool x.ended, .bool x.marked, .bool x.done] 76 from fun v => by rw [hT]; exact wr_row_write x d v m hm.symm (by omega))
    have HA := Lib.hid (show x.all.drop x.base ++ d.take m = (x.write d).all.drop (x.write d).base by
      show _ = (x.all ++ d.take (x.takes d.length)).drop x.base
      rw [← hm, List.drop_append_of_le_length (by rw [← hT]; omega)])
    obtain ⟨_, _, hby⟩ := h1.get (i + 2) (by exact hi)
    have hmn : m ≤ n := by omega
    have HBT := Lib.hid (show ∀ w', Held F Z W (tBlk p (wrRow x (.slice ka kn kc)) :: ts) w' → By w' (.slice da m dc) (d.take m) from fun w' hw' => by
      obtain ⟨_, _, hby⟩ := hw'.get (i + 1) (by exact hi)
      exact (show ByZ w' _ (.slice da n dc) d from hby).1.take hmn)
    have hdc : n ≤ dc := by
      obtain ⟨_, a', c', e, q1, q2, _⟩ := (show ByZ w _ (.slice da n dc) d from hby).1
      obtain ⟨_, _, rfl⟩ : da = a' ∧ n = d.length ∧ dc = c' := by simpa using e
      omega
    have HF := Lib.hid (show ∀ w', Held F Z W (tBlk p (wrRow x (.slice ka kn kc)) :: ts) w' → w'.cell? ⟨p, 2, none⟩ = some (.slice ka kn kc) ∧ w'.cell? ⟨p, 2, none⟩ = some (.slice ka kn kc) ∧ w'.cell? ⟨p, 2, none⟩ = some (.slice ka kn kc) from fun w' hw' => by
      obtain ⟨-, -, c2, -⟩ := wr_cells (hw'.blk 0 rfl)
      exact ⟨c2, c2, c2⟩)
    have H1 := Lib.hid (Held.lift (A := [tBlk p (wrRow x (.slice ka kn kc))]) h1)
    obtain ⟨c0, -, c2, c3, c4, -, -, -, -, c9, -⟩ := wr_cells (h1.blk 0 rfl)
    rw [hc] at c9
    rw [← hT] at c3
    rw [← hm]
    have HM := Lib.hid hm
    have hdm : (d.take m).length = m := by rw [List.length_take]; omega
    have HDM := Lib.hid hdm
    have hkl : kn ≤ 1000 := by rw [hkn, List.length_drop]; omega
    have hmi : min (min (n : Int) ((x.win : Int) - ((T : Int) - (x.base : Int)))) (1048576 - (T : Int)) = (m : Int) := by omega
    have hw1 : IntKind.i64.wrap ((T : Int) - (x.base : Int)) = (T : Int) - (x.base : Int) := by rw [IntKind.wrap_i64]; omega
    have hw2 : IntKind.i64.wrap ((x.win : Int) - ((T : Int) - (x.base : Int))) = (x.win : Int) - ((T : Int) - (x.base : Int)) := by rw [IntKind.wrap_i64]; omega
    have hw3 : IntKind.i64.wrap (1048576 - (T : Int)) = 1048576 - (T : Int) := by rw [IntKind.wrap_i64]; omega
    have HKN := Lib.hid hkn
    have HT := Lib.hid hT
    clear h h1 hsq hm hT hc hby hi hkn hdm hm1 hn
    go_enter Try.func10, Try.ntmps10
    go_upto_region 5 with fail
    go_quiet (fail)
    generalize hw4 : World.drewN _ _ = w4
    have H4 := Lib.hid (show Held F Z W (tSq eU8 5 (.slice ka kn kc) (x.all.drop x.base) :: tBlk p (wrRow x (.slice ka kn kc)) :: ts) w4 by rw [← hw4]; exact H1.out.drewN _)
    clear hw4 H1 c0 c2 c3 c4 c9 hw1 hw2 hw3 hmi
    go_upto_region 6 with fail
    have hmc : (0 : Int) ≤ (m : Int) ∧ (m : Int) ≤ (dc : Int) := by omega
    refine wp_region_lag 11 (S := Held F Z W (tBlk p (wrRow x (.slice ka kn kc)) :: ts)) (by kernel_rfl) H4.out.tail.drew (fun hS0 => ?_)
    change wpAnyL _ _ _ _ _ _ (4 + 8) _ _ _
    refine wpAnyL_take_n 0 8 (by kernel_rfl) hS0 (fun _ _ _ _ _ h => h) ?_
    simp only [List.drop_zero, List.take_succ_cons, List.take_zero]
    iterate 8 (refine wpFirst_val (v := ?_) (by rfl) ?_ ?_; rotate_left 1; (focus ((intro w' hS'; obtain ⟨e0, e1, e2⟩ := HF.out w' hS'; go_simp); try with_reducible rfl)); simp only [Act.put, List.setIfInBounds_toArray, List.set_cons_zero, List.set_cons_succ])
    refine wpFirst_nil ?_
    refine wpAnyL_one 8 (by kernel_rfl) rfl (fun K hK => ?_)
    refine step_appE (E := eU8) slB (by decide) rfl _ _ rfl H4.out.drew 0 rfl (by rw [← HKN.out]; omega) rfl (.slice da m dc) (d.take m) (by rw [HDM.out]; omega) (cu (d.take m)) rfl (HBT.out _ hS0) cu_one (fun Y _ => ⟨fun _ => False, fun _ f => f.elim, els_cu _⟩) ?_
    intro a' c' w5 h5
    obtain ⟨y, hy⟩ : ∃ y, y = x.write d := ⟨_, rfl⟩
    rw [HA.out, ← hy] at h5
    rw [HA.out, ← hy]
    have HY := Lib.hid hy
    obtain ⟨kl, hkl2⟩ : ∃ kl, kl = (y.all.drop y.base).length := ⟨_, rfl⟩
    rw [← hkl2] at h5 ⊢
    have H5 := Lib.hid (show Held F Z W (tSq eU8 5 (.slice a' kl c') (y.all.drop y.base) :: tBlk p (wrRow x (.slice ka kn kc)) :: ts) w5 from h5)
    clear h5 hS0 H4 hy hkl2
    refine hK.out _ _ (fun _ => H5.out.tail) ?_
    clear hK K
    refine wpAnyL_one 9 (by kernel_rfl) rfl (fun K hK => ?_)
    go_simp
    refine hK.out _ _ (fun _ => H5.out.tail) ?_
    clear hK K
    refine wpAnyL_one 10 (by kernel_rfl) rfl (fun K hK => ?_)
    go_simp
    refine hK.out _ _ (fun _ => H5.out.tail) ?_
    clear hK K
    refine wpAnyL_one 11 (by kernel_rfl) rfl (fun K hK => ?_)
    obtain ⟨-, -, c2, -⟩ := wr_cells (H5.out.blk 1 rfl)
    have hup := blk_free (H5.out.blk 1 rfl)
    go_simp
    refine hK.out _ _ (fun h => absurd rfl h) ?_
    clear hK K
    refine wpAnyL_done (by kernel_rfl) ?_ _
    have H6 := Lib.hid (H5.out.set 1 rfl (wrRow x (.slice a' kl c')) ((Fr.refl (fun k => k = p) w5).setCell (p := ⟨p, 2, none⟩) (.inl rfl) (.slice a' kl c')) (by have hr := H5.out.blk 1 rfl; (apply row_trans; focus (repeat (first | (with_reducible exact hr) | (with_reducible apply row_set) | (with_reducible apply row_drewN) | (with_reducible apply row_drew) | (with_reducible apply row_alloc) | (apply row_set_other (by first | omega | (simp <;> omega)))))); rfl))
    clear H5 c2 hup
    generalize hw6 : World.setCell _ _ _ = w6
    have H6 := Lib.hid (show Held F Z W (tSq eU8 5 (.slice a' kl c') (y.all.drop y.base) :: tBlk p (wrRow x (.slice a' kl c')) :: ts) w6 by rw [← hw6]; exact H6.out)
    clear hw6
    obtain ⟨-, -, -, c3, -⟩ := wr_cells (H6.out.blk 1 rfl)
    have hup := blk_free (H6.out.blk 1 rfl)
    rw [← HT.out] at c3
    have H7 := Lib.hid (H6.out.set 1 rfl (wrRow y (.slice a' kl c')) ((Fr.refl (fun k => k = p) w6).setCell (p := ⟨p, 3, none⟩) (.inl rfl) (.int .i64 ((T : Int) + (m : Int)))) (by have hr := H6.out.blk 1 rfl; rw [HY.out, HR.out]; (apply row_trans; focus (repeat (first | (with_reducible exact hr) | (with_reducible apply row_set) | (with_reducible apply row_drewN) | (with_reducible apply row_drew) | (with_reducible apply row_alloc) | (apply row_set_other (by first | omega | (simp <;> omega)))))); rfl))
    clear H6
    go_wp2_with fail
    go_ret2
    refine ⟨0, .inl rfl, rfl, ?_⟩
    rw [← HY.out]
    exact Held.shut (f := wrThs p y) (i := .slice a' kl c') (Held.lift (A := [tSq eU8 5 _ _]) H7.out)
end
end Go.Proofs.Ytbibippdafnenaa
