/- A writer sends a segment. -/
import Derived.Test.YtbibippdafnenaaWbB
import Derived.Test.YtbibippdafnenaaRgo
namespace Go.Proofs.Ytbibippdafnenaa
open Go.RowKit
set_option maxRecDepth 100000

abbrev segO (o : Nat) (a : Option Addr) (n c : Nat) (l : Bool) : Obj := .cells #[.int .i64 (o : Int), .slice a n c, .bool l] 50
abbrev segZ : Obj := .cells #[.int .i64 0, .slice none 0 0, .bool false] 50
abbrev segV (o : Nat) (a : Option Addr) (n c : Nat) (l : Bool) : Value := .agg #[.int .i64 (o : Int), .slice a n c, .bool l]
theorem seg3 {w : World} {s : Nat} {a b c : Value} {T : TypeId} (h : w.heap[s]? = some (.cells #[a, b, c] T)) (x y z : Value) : (((w.setCell ⟨s, 0, none⟩ x).setCell ⟨s, 1, none⟩ y).setCell ⟨s, 2, none⟩ z).heap[s]? = some (.cells #[x, y, z] T) := by (apply row_trans; focus (with_reducible (repeat (first | exact h | apply row_set | apply row_drewN | apply row_drew)))); rfl
theorem step_allocS {ops : Array Oper} {o : Oper} {a : Act} {w : World} {K : Act → World → Prop} {Q : Exit → Act → World → Prop} {E : Prop} (hg : o.guard = none) (hop : o.op = Op.alloc 50)
    (hK : ∀ pb w', w'.heap[pb]? = some segZ → Below w.heap.size w w' → w.heap.size ≤ pb → (∀ {F Z : BS} {W : World} {ts : List Th}, Held F Z W ts w → Held F Z W (tBlk pb segZ :: ts) w') → K (a.put o.dst (.pointer (some ⟨pb, 0, none⟩))) w') :
    if Region.wanted o (yielded ops a.tmps) = true then Oper.wp Try.prog o a w K Q else E := by
  obtain ⟨d, op, ty, pos, af, g⟩ := o
  dsimp only at hg hop
  subst hg; subst hop
  rw [if_pos (by simp [Region.wanted])]
  have h := hK w.heap.size (w.alloc segZ) (heap_alloc_new w _) (below_alloc w _) (Nat.le_refl _) fun h => (h.new segZ).front
  clear hK
  go_simp
  exact h
theorem step_storeS {ops : Array Oper} {o : Oper} {a : Act} {w : World} {K : Act → World → Prop} {Q : Exit → Act → World → Prop} {E : Prop} (hg : o.guard = none) (hd : o.dst = none) (x y : Operand) (hop : o.op = Op.store 50 x y)
    (pb : Nat) (hx : a.eval x = .pointer (some ⟨pb, 0, none⟩)) (n : Int) (sa : Option Addr) (sl sc : Nat) (l : Bool) (hy : a.eval y = .agg #[.int .i64 n, .slice sa sl sc, .bool l]) {u0 u1 u2 : Value} (hrow : w.heap[pb]? = some (.cells #[u0, u1, u2] 50))
    (hK : ∀ w', w'.heap[pb]? = some (.cells #[.int .i64 n, .slice sa sl sc, .bool l] 50) → Fr (fun k => k = pb) w w' → K a w') :
    if Region.wanted o (yielded ops a.tmps) = true then Oper.wp Try.prog o a w K Q else E := by
  obtain ⟨d, op, ty, pos, af, g⟩ := o
  dsimp only at hg hop hd
  subst hg; subst hop; subst hd
  rw [if_pos (by simp [Region.wanted])]
  have hlt := lt_of_block hrow
  have h := hK _ (seg3 hrow (.int .i64 n) (.slice sa sl sc) (.bool l)) ((((Fr.refl (fun k => k = pb) w).setCell (p := ⟨pb, 0, none⟩) (.inl rfl) _).setCell (p := ⟨pb, 1, none⟩) (.inl rfl) _).setCell (p := ⟨pb, 2, none⟩) (.inl rfl) _)
  have b0 := blk_cell (i := 0) hrow rfl; have b1 := blk_cell (i := 1) hrow rfl; have b2 := blk_cell (i := 2) hrow rfl
  have bf := fun i => blk_free hrow i
  clear hK hrow
  unfold Oper.wp
  simp only [execOp, hx, hy]
  go_simp
  exact h
section
variable {F Z : BS} {W w : World} {ts : List Th} {p : Nat} {x : Wr}
set_option maxHeartbeats 16000000 in
theorem sendW_c (h : Held F Z W (tWr p x :: ts) w) (hx : x.Ok) (n : Nat) (hn : x.next + n ≤ x.all.length) (last : Bool) :
    Calls Try.prog 27 #[.pointer (some ⟨p, 0, none⟩), .int .i64 (n : Int), .bool last] w fun e w' => ∃ a c, e = .returned (segV x.next a (x.seg n last).data.length c last) ∧ Held F Z W (tWr p (x.sent n last) :: (ts ++ [tBy (.slice a (x.seg n last).data.length c) (x.seg n last).data])) w' := by
  obtain ⟨v, h1⟩ := Held.opens h
  obtain ⟨x1, x2, x3, x4, x5, x6, x7, x8⟩ := hx
  obtain ⟨_, _, hsq⟩ := h1.get 1 rfl
  obtain ⟨ka, kc, e1, hle1, hle2, hnil⟩ := Sq.le (show Sq eU8 5 w _ _ v (x.all.drop x.base) from hsq)
  subst e1
  obtain ⟨kn, hkn⟩ : ∃ kn, kn = (x.all.drop x.base).length := ⟨_, rfl⟩
  rw [← hkn] at hle1 h1 hnil
  obtain ⟨f, hf⟩ : ∃ f, f = x.next - x.base := ⟨_, rfl⟩
  obtain ⟨g, hg⟩ : ∃ g, g = f + n := ⟨_, rfl⟩
  have hgk : g ≤ kn := by rw [hkn, List.length_drop]; omega
  have hkn2 : kn ≤ 1000 := by rw [hkn, List.length_drop]; omega
  have hd : (x.seg n last).data = ((x.all.drop x.base).drop f).take n := by
    show (x.all.drop x.next).take n = _
    rw [List.drop_drop, hf, show x.base + (x.next - x.base) = x.next by omega]
  have hdl : (x.seg n last).data.length = n := by rw [hd, List.length_take, List.length_drop, ← hkn]; omega
  rw [hdl]
  obtain ⟨dt, hdt⟩ : ∃ dt, dt = (x.seg n last).data := ⟨_, rfl⟩
  rw [← hdt] at hd hdl ⊢
  have HBY := Lib.hid (show ∀ w', Held F Z W (wrThs p x (.slice ka kn kc) ++ ts) w' → By w' (.slice (subA ka kc f) n (kc - f)) dt from fun w' hw' => by
    obtain ⟨_, _, hq⟩ := hw'.get 1 rfl
    rw [hd]
    exact by_sub (sq_by8 (show Sq eU8 5 w' _ _ (.slice ka kn kc) (x.all.drop x.base) from hq)) (by omega))
  have H1 := Lib.hid (h1.new (segZ)).front
  obtain ⟨nx, hnx⟩ : ∃ nx, nx = x.next := ⟨_, rfl⟩
  obtain ⟨bs, hbs⟩ : ∃ bs, bs = x.base := ⟨_, rfl⟩
  have HNX := Lib.hid hnx; have HBS := Lib.hid hbs
  have HF := Lib.hid (show ∀ w', Held F Z W (tBlk w.heap.size (segZ) :: (wrThs p x (.slice ka kn kc) ++ ts)) w' → w'.cell? ⟨p, 5, none⟩ = some (.int .i64 (nx : Int)) ∧ w'.cell? ⟨p, 2, none⟩ = some (.slice ka kn kc) ∧ w'.cell? ⟨p, 4, none⟩ = some (.int .i64 (bs : Int)) from fun w' hw' => by
    obtain ⟨-, -, c2, -, c4, c5, -⟩ := wr_cells (hw'.blk 1 rfl)
    rw [hnx, hbs]
    exact ⟨c5, c2, c4⟩)
  obtain ⟨-, -, c2, -, c4, c5, -⟩ := wr_cells (H1.out.blk 1 rfl)
  rw [← hnx] at c5 hf x3 x4 hn ⊢
  rw [← hbs] at c4 hf x3
  have hw1 : IntKind.i64.wrap ((nx : Int) - (bs : Int)) = (f : Int) := by rw [IntKind.wrap_i64]; omega
  have hw2 : IntKind.i64.wrap ((f : Int) + (n : Int)) = (g : Int) := by rw [IntKind.wrap_i64]; omega
  have HD := Lib.hid hdl
  have HDT := Lib.hid hdt
  have hfg : (0 : Int) ≤ (f : Int) ∧ (f : Int) ≤ (g : Int) ∧ (g : Int) ≤ (kc : Int) := by omega
  have hgf : g - f = n := by omega
  have HGF := Lib.hid hgf
  obtain ⟨wb, hwb⟩ : ∃ wb, wb = w.alloc (segZ) := ⟨_, rfl⟩
  rw [← hwb] at H1 c2 c4 c5
  clear h h1 hsq hkn hd hdl hdt hnx hbs hgf hnil hf hg
  go_enter Try.func27, Try.ntmps27
  go_upto_region 1 with fail
  rw [← hwb]
  clear hwb
  go_quiet (fail)
  generalize hw4 : World.drewN _ _ = w4
  have H4 := Lib.hid (show Held F Z W (tBlk w.heap.size (segZ) :: (wrThs p x (.slice ka kn kc) ++ ts)) w4 by rw [← hw4]; exact H1.out.drewN _)
  clear hw4 H1 c2 c4 c5 hw1
  go_upto_region 2 with fail
  refine wp_region_held_drew (S := Held F Z W (tBlk w.heap.size (segZ) :: (wrThs p x (.slice ka kn kc) ++ ts))) (by kernel_rfl) H4.out.drew (fun hS0 => ?_)
  change wpAnyH _ _ _ _ _ (5 + 13) _ _ _
  refine wpAnyH_take_n 0 13 (by kernel_rfl) hS0 (fun _ _ _ _ _ h => h) ?_
  simp only [List.drop_zero, List.take_succ_cons, List.take_zero]
  iterate 12 (refine wpFirst_val (v := ?_) (by rfl) ?_ ?_; rotate_left 1; (focus ((intro w' hS'; obtain ⟨e0, e1, e2⟩ := HF.out w' hS'; go_simp); try with_reducible rfl)); simp only [Act.put, List.setIfInBounds_toArray, List.set_cons_zero, List.set_cons_succ])
  refine wpFirst_val (v := .slice (subA ka kc f) n (kc - f)) (by rfl) (fun w' _ => ?_) ?_
  · go_simp
    exact ⟨rfl, HGF.out⟩
  simp only [Act.put, List.setIfInBounds_toArray, List.set_cons_zero, List.set_cons_succ]
  refine wpFirst_nil ?_
  change wpAnyH _ _ _ _ _ (4 + 1) _ _ _
  refine wpAnyH_take_n 14 1 (by kernel_rfl) hS0 (fun _ _ _ _ _ h => h) ?_
  simp only [List.drop_succ_cons, List.drop_zero, List.take_succ_cons, List.take_zero]
  (refine wpFirst_val (v := ?_) (by rfl) ?_ ?_; rotate_left 1; (focus ((intro w' hS'; go_simp); try with_reducible rfl)); simp only [Act.put, List.setIfInBounds_toArray, List.set_cons_zero, List.set_cons_succ])
  refine wpFirst_nil ?_
  refine anyH2 13 16 (by kernel_rfl) ?pa ?pb
  case' pa =>
    refine pickH 13 rfl (fun K hK => ?_)
    refine step_call (f := ?_) (args := ?_) (by rfl) ?_ ?_
    rotate_left 2
    focus (go_simp; first | (with_reducible rfl) | (refine ⟨?_, ?_⟩ <;> with_reducible rfl))
    refine (cloneB_c hS0 (HBY.out _ hS0.tail) (by rw [HD.out]; omega)).mono ?_
    rintro e w5 ⟨a', c', rfl, h5⟩
    refine ⟨_, rfl, ?_⟩
    simp only [Act.put, List.setIfInBounds_toArray, List.set_cons_zero, List.set_cons_succ]
    have H5 := Lib.hid (show Held F Z W (tBy (.slice a' n c') dt :: tBlk w.heap.size segZ :: (wrThs p x (.slice ka kn kc) ++ ts)) w5 from h5.front)
    refine hK.out _ _ H5.out.tail ?_
    clear hK K h5 hS0 H4
    change wpAnyH _ _ _ _ _ (2 + 1) _ _ _
    refine wpAnyH_take_n 15 1 (by kernel_rfl) H5.out.tail (fun _ _ _ _ _ h => h) ?_
    simp only [List.drop_succ_cons, List.drop_zero, List.take_succ_cons, List.take_zero]
    (refine wpFirst_val (v := ?_) (by rfl) ?_ ?_; rotate_left 1; (focus ((intro w' hS'; go_simp); try with_reducible rfl)); simp only [Act.put, List.setIfInBounds_toArray, List.set_cons_zero, List.set_cons_succ])
    refine wpFirst_nil ?_
    refine anyH1 16 (by kernel_rfl) ?_
    refine pickH 16 rfl (fun K hK => ?_)
    refine step_allocS rfl rfl ?_
    intro sb w6 hsb hb6 _ hh6
    have H6 := Lib.hid (hh6 H5.out)
    simp only [Act.put, List.setIfInBounds_toArray, List.set_cons_zero, List.set_cons_succ]
    refine hK.out _ _ (H5.out.tail.own hb6) ?_
    clear hK K hh6
    refine anyH1 17 (by kernel_rfl) ?_
    refine pickH 17 rfl (fun K hK => ?_)
    refine step_storeS rfl rfl _ _ rfl sb rfl (nx : Int) a' n c' last rfl hsb ?_
    intro w7 hr7 hf7
    have H7 := Lib.hid (show Held F Z W (tBlk sb (segO nx a' n c' last) :: tBy (.slice a' n c') dt :: tBlk w.heap.size segZ :: (wrThs p x (.slice ka kn kc) ++ ts)) w7 from H6.out.set 0 rfl _ hf7 hr7)
    refine hK.out _ _ H7.out.tail.tail ?_
    clear hK K hr7 hf7 H6 H5 hsb hb6
    refine wpAnyH_done (by kernel_rfl) ?_ _
  case' pb =>
    refine pickH 16 rfl (fun K hK => ?_)
    refine step_allocS rfl rfl ?_
    intro sb w4' hsb hb6 _ hh6
    have H5' := Lib.hid (show Held F Z W (tBlk sb segZ :: tBlk w.heap.size segZ :: (wrThs p x (.slice ka kn kc) ++ ts)) w4' from hh6 hS0)
    simp only [Act.put, List.setIfInBounds_toArray, List.set_cons_zero, List.set_cons_succ]
    refine hK.out _ _ H5'.out.tail ?_
    clear hK K hh6 hS0 H4 hsb hb6
    refine anyH1 13 (by kernel_rfl) ?_
    refine pickH 13 rfl (fun K hK => ?_)
    refine step_call (f := ?_) (args := ?_) (by rfl) ?_ ?_
    rotate_left 2
    focus (go_simp; first | (with_reducible rfl) | (refine ⟨?_, ?_⟩ <;> with_reducible rfl))
    refine (cloneB_c H5'.out (HBY.out _ H5'.out.tail.tail) (by rw [HD.out]; omega)).mono ?_
    rintro e w5 ⟨a', c', rfl, h5⟩
    refine ⟨_, rfl, ?_⟩
    simp only [Act.put, List.setIfInBounds_toArray, List.set_cons_zero, List.set_cons_succ]
    have H5 := Lib.hid (show Held F Z W (tBy (.slice a' n c') dt :: tBlk sb segZ :: tBlk w.heap.size segZ :: (wrThs p x (.slice ka kn kc) ++ ts)) w5 from h5.front)
    refine hK.out _ _ H5.out.tail.tail ?_
    clear hK K h5 H5'
    change wpAnyH _ _ _ _ _ (1 + 1) _ _ _
    refine wpAnyH_take_n 15 1 (by kernel_rfl) H5.out.tail.tail (fun _ _ _ _ _ h => h) ?_
    simp only [List.drop_succ_cons, List.drop_zero, List.take_succ_cons, List.take_zero]
    (refine wpFirst_val (v := ?_) (by rfl) ?_ ?_; rotate_left 1; (focus ((intro w' hS'; go_simp); try with_reducible rfl)); simp only [Act.put, List.setIfInBounds_toArray, List.set_cons_zero, List.set_cons_succ])
    refine wpFirst_nil ?_
    refine anyH1 17 (by kernel_rfl) ?_
    refine pickH 17 rfl (fun K hK => ?_)
    refine step_storeS rfl rfl _ _ rfl sb rfl (nx : Int) a' n c' last rfl (H5.out.blk 1 rfl) ?_
    intro w7 hr7 hf7
    have H7 := Lib.hid (show Held F Z W (tBlk sb (segO nx a' n c' last) :: tBy (.slice a' n c') dt :: tBlk w.heap.size segZ :: (wrThs p x (.slice ka kn kc) ++ ts)) w7 from Held.lift (A := [tBy _ _]) (H5.out.set 1 rfl _ hf7 hr7))
    refine hK.out _ _ H7.out.tail.tail ?_
    clear hK K hr7 hf7 H5
    refine wpAnyH_done (by kernel_rfl) ?_ _
  all_goals
    obtain ⟨-, -, -, -, -, c5, -⟩ := wr_cells (H7.out.blk 3 rfl)
    have hup := blk_free (H7.out.blk 3 rfl)
    have hlt := lt_of_block (H7.out.blk 3 rfl)
    rw [← HNX.out] at c5
    go_upto_region 4 with fail
    have H8 := Lib.hid (H7.out.set 3 rfl (wrRow { x with next := nx + n } (.slice ka kn kc)) ((Fr.refl (fun k => k = p) w7).setCell (p := ⟨p, 5, none⟩) (.inl rfl) (.int .i64 ((nx : Int) + (n : Int)))) (by have hr := H7.out.blk 3 rfl; rw [show wrRow { x with next := nx + n } (.slice ka kn kc) = .cells #[.int .i64 (x.win : Int), .int .i64 2, .slice ka kn kc, .int .i64 (x.all.length : Int), .int .i64 (x.base : Int), .int .i64 ((nx : Int) + (n : Int)), .int .i64 (x.top : Int), .int .i64 (x.room : Int), .int .i64 (x.idle : Int), .bool x.closed, .bool x.ended, .bool x.marked, .bool x.done] 76 by simp]; (apply row_trans; focus (repeat (first | (with_reducible exact hr) | (with_reducible apply row_set) | (with_reducible apply row_drewN) | (with_reducible apply row_drew) | (with_reducible apply row_alloc) | (apply row_set_other (by first | omega | (simp <;> omega)))))); rfl))
    clear H7 c5 hup
    generalize hw8 : World.setCell _ _ _ = w8
    have H8 := Lib.hid (show Held F Z W (tBlk sb (segO nx a' n c' last) :: tBy (.slice a' n c') dt :: tBlk w.heap.size segZ :: (wrThs p { x with next := nx + n } (.slice ka kn kc) ++ ts)) w8 by rw [← hw8]; exact H8.out)
    clear hw8
    obtain ⟨-, -, -, -, -, c5, c6, -⟩ := wr_cells (H8.out.blk 3 rfl)
    have hup := blk_free (H8.out.blk 3 rfl)
    obtain ⟨tp, htp⟩ : ∃ tp, tp = max x.top (nx + n) := ⟨_, rfl⟩
    have hmx : max (x.top : Int) ((nx : Int) + (n : Int)) = (tp : Int) := by omega
    have c5' : w8.cell? ⟨p, 5, none⟩ = some (.int .i64 ((nx : Int) + (n : Int))) := by rw [c5]; simp
    have c6' : w8.cell? ⟨p, 6, none⟩ = some (.int .i64 (x.top : Int)) := c6
    have HTP := Lib.hid htp
    clear c5 c6 htp
    refine wp_region_still_tail 10 (by kernel_rfl) (by kernel_rfl) ?_
    simp only [List.take_succ_cons, List.take_zero, List.drop_succ_cons, List.drop_zero]
    change wpStill _ _ (World.drew _) (fun a' => wpList _ _ _ _ a' (World.drew _)) _ _
    repeat still_step
    refine wpStill_nil ?_
    go_upto_region 5 with fail
    generalize hw9 : World.drew (World.setCell _ _ _) = w9
    have H9 := Lib.hid (show Held F Z W (tBlk sb (segO nx a' n c' last) :: tBy (.slice a' n c') dt :: tBlk w.heap.size segZ :: (wrThs p { x with next := nx + n, top := tp } (.slice ka kn kc) ++ ts)) w9 by
      rw [← hw9]
      exact (H8.out.set 3 rfl (wrRow { x with next := nx + n, top := tp } (.slice ka kn kc)) ((Fr.refl (fun k => k = p) w8).setCell (p := ⟨p, 6, none⟩) (.inl rfl) (.int .i64 (tp : Int))) (by have hr := H8.out.blk 3 rfl; (apply row_trans; focus (repeat (first | (with_reducible exact hr) | (with_reducible apply row_set) | (with_reducible apply row_drewN) | (with_reducible apply row_drew) | (with_reducible apply row_alloc) | (apply row_set_other (by first | omega | (simp <;> omega)))))); rfl)).drew)
    clear hw9 H8 c5' c6' hup hmx
    have hup := blk_free (H9.out.blk 3 rfl)
    obtain ⟨-, -, -, -, -, -, -, -, c8, -, c10, c11, -⟩ := wr_cells (H9.out.blk 3 rfl)
    have hlt9 := lt_of_block (H9.out.blk 3 rfl)
    go_upto_region 9 with fail
    focus
      rename_i hb _ _
      have H10 := Lib.hid (H9.out.set 3 rfl (wrRow (x.sent n last) (.slice ka kn kc)) ((((Fr.refl (fun k => k = p) w9).setCell (p := ⟨p, 8, none⟩) (.inl rfl) (.int .i64 0)).setCell (p := ⟨p, 10, none⟩) (.inl rfl) (.bool true)).setCell (p := ⟨p, 11, none⟩) (.inl rfl) (.bool true)) (by have hr := H9.out.blk 3 rfl; rw [show wrRow (x.sent n last) (.slice ka kn kc) = .cells #[.int .i64 (x.win : Int), .int .i64 2, .slice ka kn kc, .int .i64 (x.all.length : Int), .int .i64 (x.base : Int), .int .i64 ((nx + n : Nat) : Int), .int .i64 (tp : Int), .int .i64 (x.room : Int), .int .i64 0, .bool x.closed, .bool true, .bool true, .bool x.done] 76 by rw [HNX.out, HTP.out, HNX.out, hb]; simp [Wr.sent]]; (apply row_trans; focus (repeat (first | (with_reducible exact hr) | (with_reducible apply row_set) | (with_reducible apply row_drewN) | (with_reducible apply row_drew) | (with_reducible apply row_alloc) | (apply row_set_other (by first | omega | (simp <;> omega)))))); rfl))
      clear hb
    rotate_left
    focus
      rename_i hb _ _
      have H10 := Lib.hid (H9.out.set 3 rfl (wrRow (x.sent n last) (.slice ka kn kc)) ((Fr.refl (fun k => k = p) w9).setCell (p := ⟨p, 8, none⟩) (.inl rfl) (.int .i64 0)) (by have hr := H9.out.blk 3 rfl; rw [show wrRow (x.sent n last) (.slice ka kn kc) = .cells #[.int .i64 (x.win : Int), .int .i64 2, .slice ka kn kc, .int .i64 (x.all.length : Int), .int .i64 (x.base : Int), .int .i64 ((nx + n : Nat) : Int), .int .i64 (tp : Int), .int .i64 (x.room : Int), .int .i64 0, .bool x.closed, .bool x.ended, .bool x.marked, .bool x.done] 76 by rw [HNX.out, HTP.out, HNX.out, hb]; simp [Wr.sent]]; (apply row_trans; focus (repeat (first | (with_reducible exact hr) | (with_reducible apply row_set) | (with_reducible apply row_drewN) | (with_reducible apply row_drew) | (with_reducible apply row_alloc) | (apply row_set_other (by first | omega | (simp <;> omega)))))); rfl))
      clear hb
    all_goals
      clear c8 c10 c11 hup H9
      generalize hw10 : World.setCell _ _ _ = w10
      have H10 := Lib.hid (show Held F Z W (tBlk sb (segO nx a' n c' last) :: tBy (.slice a' n c') dt :: tBlk w.heap.size segZ :: (wrThs p (x.sent n last) (.slice ka kn kc) ++ ts)) w10 by rw [← hw10]; exact H10.out)
      clear hw10
      have hsg := H10.out.blk 0 rfl
      have s0 : w10.cell? ⟨sb, 0, none⟩ = some (.int .i64 (nx : Int)) := blk_cell (i := 0) hsg rfl
      have s1 : w10.cell? ⟨sb, 1, none⟩ = some (.slice a' n c') := blk_cell (i := 1) hsg rfl
      have s2 : w10.cell? ⟨sb, 2, none⟩ = some (.bool last) := blk_cell (i := 2) hsg rfl
      have hrb := H10.out.blk 2 rfl
      have r0 : w10.cell? ⟨w.heap.size, 0, none⟩ = some (.int .i64 0) := blk_cell (i := 0) hrb rfl
      have r1 : w10.cell? ⟨w.heap.size, 1, none⟩ = some (.slice none 0 0) := blk_cell (i := 1) hrb rfl
      have r2 : w10.cell? ⟨w.heap.size, 2, none⟩ = some (.bool false) := blk_cell (i := 2) hrb rfl
      have rf := fun i => blk_free hrb i
      have hrl := lt_of_block hrb
      have H11 := Lib.hid (H10.out.set 2 rfl (segO nx a' n c' last) ((((Fr.refl (fun k => k = w.heap.size) w10).setCell (p := ⟨w.heap.size, 0, none⟩) (.inl rfl) _).setCell (p := ⟨w.heap.size, 1, none⟩) (.inl rfl) _).setCell (p := ⟨w.heap.size, 2, none⟩) (.inl rfl) _) (seg3 hrb (.int .i64 (nx : Int)) (.slice a' n c') (.bool last)))
      clear hsg hrb
      go_wp2_with fail
      have hg := H11.out.blk 2 rfl
      have g0 := blk_cell (i := 0) (u := .int .i64 (nx : Int)) hg rfl; have g1 := blk_cell (i := 1) (u := .slice a' n c') hg rfl; have g2 := blk_cell (i := 2) (u := .bool last) hg rfl
      refine bodyPost_ret (v := segV nx a' n c' last) (by simp [results, Try.results27, go_sem, g0, g1, g2]) rfl ⟨a', c', rfl, ?_⟩
      refine Held.shut (f := wrThs p _) (i := .slice ka kn kc) ?_
      have hh := H11.out.tail
      exact Held.rear (Held.lift (A := [tBy _ _]) hh).tail
end
end Go.Proofs.Ytbibippdafnenaa
