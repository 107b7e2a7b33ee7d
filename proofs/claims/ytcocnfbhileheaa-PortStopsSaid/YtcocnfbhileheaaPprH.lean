/- Two connected ports in memory: connect. -/
import Derived.Test.YtcocnfbhileheaaPprG
namespace Go.Proofs.Ytcocnfbhileheaa
open Go.RowKit

theorem slBs : SlT Try.prog 48 31 (.slice none 0 0) (eSq eU8 5).size 24 := ⟨Try.underlying48, info_parts (by kernel_rfl), rfl, by decide⟩
/-- a slice made in a region that draws its order -/
theorem step_mkH {α : Type} {E : El α} {P : Program} {t e : TypeId} {z : Value} {bytes : Nat} (S : SlT P t e z E.size bytes) {u : Value} (hzz : z.cells = (List.replicate E.size u).toArray) {a0 : α} (he : ∀ w Z, E.rd w (fun _ => False) Z (List.replicate E.size u) a0)
    {w : World} {ops : Array Oper} {o : Oper} {a : Act} {K : Act → World → Prop} {Q : Exit → Act → World → Prop} {E0 : Prop}
    (hg : o.guard = none) (l c : Operand) (hop : o.op = Op.makeSlice t l c) (n : Nat) (hl : a.eval l = .int .i64 (n : Int)) (hc : a.eval c = .int .i64 (n : Int)) (b2 : bytes * n ≤ 281474976710656) (b3 : n ≤ maxLen)
    (hK : ∀ w', Below w.heap.size w w' → Sq E e w' (fun k => w.heap.size ≤ k) (fun _ => False) (.slice (some ⟨w.heap.size, 0, none⟩) n n) (List.replicate n a0) → K (a.put o.dst (.slice (some ⟨w.heap.size, 0, none⟩) n n)) w') :
    if Region.wanted o (yielded ops a.tmps) = true then Oper.wp P o a w K Q else E0 := by
  obtain ⟨i, hi, hz, hsz, hby⟩ := S.info
  obtain ⟨w', hrun, hown, hgr⟩ := run_make_full (P := P) w w.heap.size t e i z E.size S.under hi hz hsz .i64 .i64 n (by rw [hby]; exact b2) b3 (Nat.le_refl _)
  rw [if_pos (by simp [Region.wanted, hg])]
  unfold Oper.wp
  simp [execOp, hop, hl, hc, hrun, Result.andThen]
  rw [hzz, toList_madeCells_rep u E.size (n * E.size) S.pos] at hown
  refine hK w' ((Below.refl w.heap.size w).grown hgr (Nat.le_refl _) (fun k e => by cases e)) ?_
  have hsl : Sl w' (fun k => w.heap.size ≤ k) e E.size (.slice (some ⟨w.heap.size, 0, none⟩) n n) n (List.replicate (n * E.size) u) := Sl.of_own hown fun _ h => h
  refine ⟨fun k => w.heap.size ≤ k ∧ k < w'.heap.size, fun _ => False, List.replicate (n * E.size) u, fun k hk => hk.elim (·.1) False.elim, fun _ _ f => f, fun k hk => hk.2, ?_, ?_⟩
  · rw [List.length_replicate]; exact hsl.bound
  · have := Els.zero (E := E) (Z := fun _ => False) (he w' _) n
    rwa [List.flatten_replicate_replicate] at this
section
variable {F Z : BS} {W w : World} {ts : List Th}
abbrev conRow (u v ol or' gl gr : Value) : Obj := .cells #[u, v, .slice none 0 0, .slice none 0 0, ol, or', gl, gr] 51
theorem Held.newCfg {w : World} (h : Held F Z W ts w) (inc q1 q2 q3 q4 : Nat) (h1 : 1 ≤ inc) (h2 : inc ≤ 1000) (b1 : q1 < 4) (b2 : q2 < 4) (b3 : q3 < 8) (b4 : q4 < 4) :
    Calls Try.prog 13 #[.agg #[.int .i64 (inc : Int), .slice (some ⟨w.heap.size, 0, none⟩) 2 2, .int .i64 (1 + (q3 : Int)), .int .i64 (3 + (q4 : Int)), .int .i64 12]] (w.alloc (.cells #[.int .i64 (1 + (q1 : Int)), .int .i64 (1 + (q2 : Int))] 3)) fun e w' => ∃ p, e = .returned (.tuple #[.pointer (some ⟨p, 0, none⟩), .int .i64 0]) ∧ Held F Z W (tPort p (newPrt inc [1 + q1, 1 + q2] (1 + q3) (3 + q4) 12) :: ts) w' := by
  have e1 : (1 + (q1 : Int)) = ((1 + q1 : Nat) : Int) := by omega
  have e2 : (1 + (q2 : Int)) = ((1 + q2 : Nat) : Int) := by omega
  have e3 : (1 + (q3 : Int)) = ((1 + q3 : Nat) : Int) := by omega
  have e4 : (3 + (q4 : Int)) = ((3 + q4 : Nat) : Int) := by omega
  rw [e1, e2, e3, e4]
  refine (pnew_any (inc := inc) (wi := 1 + q3) (ti := 3 + q4) (de := 12) (rooms := [1 + q1, 1 + q2]) (rb := w.heap.size) (ro := 0) (rc := 2) _ ⟨by simp, by simp, fun y hy => ?_, by omega, by omega, by omega, by omega, by omega, by omega, by omega, by omega⟩ (by simp) (by decide) (two_rooms (heap_alloc_new w _))).mono ?_
  · simp only [List.map_cons, List.map_nil, List.mem_cons, List.not_mem_nil, or_false] at hy
    omega
  · rintro e w2 ⟨p, rfl, hm⟩
    exact ⟨p, rfl, ((h.alloc _).made hm).front⟩
set_option maxRecDepth 100000 in
set_option maxHeartbeats 8000000 in
theorem connect_c (room window : Nat) (hr : room < 256) (hw : window < 256) (h : Held F Z W ts w) :
    Calls Try.prog 19 #[.int .u8 (room : Int), .int .u8 (window : Int)] w fun e w' => ∃ x, e = .returned (.pointer (some ⟨x, 0, none⟩)) ∧ Held F Z W (tPair x (newPr room window) :: ts) w' := by
  have H0 := Lib.hid ((h.new (conRow (.pointer none) (.pointer none) (.slice none 0 0) (.slice none 0 0) (.slice none 0 0) (.slice none 0 0))).front)
  obtain ⟨x, hx⟩ : ∃ x, x = w.heap.size := ⟨_, rfl⟩
  rw [← hx] at H0
  obtain ⟨q1, e1⟩ : ∃ q, q = room % 4 := ⟨_, rfl⟩
  obtain ⟨q2, e2⟩ : ∃ q, q = room / 4 % 4 := ⟨_, rfl⟩
  obtain ⟨q3, e3⟩ : ∃ q, q = window % 8 := ⟨_, rfl⟩
  obtain ⟨q4, e4⟩ : ∃ q, q = window / 8 % 4 := ⟨_, rfl⟩
  have i1 : (room : Int) % 4 = (q1 : Int) := by omega
  have i2 : (room : Int) / 4 % 4 = (q2 : Int) := by omega
  have i3 : (window : Int) % 8 = (q3 : Int) := by omega
  have i4 : (window : Int) / 8 % 4 = (q4 : Int) := by omega
  have b1 : q1 < 4 := by omega
  have b2 : q2 < 4 := by omega
  have b3 : q3 < 8 := by omega
  have b4 : q4 < 4 := by omega
  have HNP := Lib.hid (show newPr room window = ⟨⟨newPrt 10 [1 + q1, 1 + q2] (1 + q3) (3 + q4) 12, [], [[], []], [[], []]⟩, ⟨newPrt 20 [1 + q1, 1 + q2] (1 + q3) (3 + q4) 12, [], [[], []], [[], []]⟩⟩ by rw [e1, e2, e3, e4]; rfl)
  clear e1 e2 e3 e4 h
  go_enter Try.func19, Try.ntmps19
  go_wp2_with fail
  rw [← hx]
  clear hx
  go_loopw [11] (fun i wr =>
      (i = .int .i64 0 ∧ Hid (Held F Z W (tBlk x (conRow (.pointer none) (.pointer none) (.slice none 0 0) (.slice none 0 0) (.slice none 0 0) (.slice none 0 0)) :: ts) wr)) ∨
      (i = .int .i64 1 ∧ ∃ pl, Hid (Held F Z W (tBlk x (conRow (.pointer (some ⟨pl, 0, none⟩)) (.pointer none) (.slice none 0 0) (.slice none 0 0) (.slice none 0 0) (.slice none 0 0)) :: tPort pl (newPrt 10 [1 + q1, 1 + q2] (1 + q3) (3 + q4) 12) :: ts) wr)) ∨
      (i = .int .i64 2 ∧ ∃ pl pr, Hid (Held F Z W (tBlk x (conRow (.pointer (some ⟨pl, 0, none⟩)) (.pointer (some ⟨pr, 0, none⟩)) (.slice none 0 0) (.slice none 0 0) (.slice none 0 0) (.slice none 0 0)) :: tPort pl (newPrt 10 [1 + q1, 1 + q2] (1 + q3) (3 + q4) 12) :: tPort pr (newPrt 20 [1 + q1, 1 + q2] (1 + q3) (3 + q4) 12) :: ts) wr)))
    (fun i _ => 2 - (intOf i).toNat)
  case atStart => exact .inl ⟨rfl, H0⟩
  case round =>
    clear H0
    rcases hrel with ⟨rfl, HK⟩ | ⟨rfl, pl, HK⟩ | ⟨rfl, pl, pr, HK⟩
    · go_wp2_with fail
      refine (HK.out.newCfg 10 q1 q2 q3 q4 (by decide) (by decide) b1 b2 b3 b4).mono ?_
      rintro e w2 ⟨p, rfl, h⟩
      have h2 := h.pickL (us := [tPort p (newPrt 10 [1 + q1, 1 + q2] (1 + q3) (3 + q4) 12), tBlk x (conRow (.pointer none) (.pointer none) (.slice none 0 0) (.slice none 0 0) (.slice none 0 0) (.slice none 0 0))]) (vs := [tBlk x (conRow (.pointer none) (.pointer none) (.slice none 0 0) (.slice none 0 0) (.slice none 0 0) (.slice none 0 0)), tPort p (newPrt 10 [1 + q1, 1 + q2] (1 + q3) (3 + q4) 12)]) [1, 0] (by decide) rfl
      have hrow := h2.blk 0 rfl
      have cx := blk_cell (i := 0) hrow rfl
      have cf := fun i => blk_free hrow i
      have H3 := Lib.hid (h2.set 0 rfl (conRow (.pointer (some ⟨p, 0, none⟩)) (.pointer none) (.slice none 0 0) (.slice none 0 0) (.slice none 0 0) (.slice none 0 0)) (w' := w2.setCell ⟨x, 0, none⟩ (.pointer (some ⟨p, 0, none⟩))) (by (repeat (first | (with_reducible exact Fr.refl _ _) | exact Or.inl rfl | (with_reducible refine Fr.setCell ?_ ?_ _) | (with_reducible refine Fr.drewN ?_ _) | (with_reducible refine Fr.drew ?_)))) (by (apply row_trans; focus (repeat (first | (with_reducible exact hrow) | (with_reducible apply row_set) | (with_reducible apply row_drewN) | (with_reducible apply row_drew)))); rfl))
      clear h h2 hrow HK
      go_wp2_with fail
      go_roundw
      case rel => exact .inr (.inl ⟨by go_num, p, H3⟩)
      case measure => simp [intOf]
    · go_wp2_with fail
      refine (HK.out.newCfg 20 q1 q2 q3 q4 (by decide) (by decide) b1 b2 b3 b4).mono ?_
      rintro e w2 ⟨p, rfl, h⟩
      have h2 := h.pickL (us := [tPort p (newPrt 20 [1 + q1, 1 + q2] (1 + q3) (3 + q4) 12), tBlk x (conRow (.pointer (some ⟨pl, 0, none⟩)) (.pointer none) (.slice none 0 0) (.slice none 0 0) (.slice none 0 0) (.slice none 0 0)), tPort pl (newPrt 10 [1 + q1, 1 + q2] (1 + q3) (3 + q4) 12)]) (vs := [tBlk x (conRow (.pointer (some ⟨pl, 0, none⟩)) (.pointer none) (.slice none 0 0) (.slice none 0 0) (.slice none 0 0) (.slice none 0 0)), tPort pl (newPrt 10 [1 + q1, 1 + q2] (1 + q3) (3 + q4) 12), tPort p (newPrt 20 [1 + q1, 1 + q2] (1 + q3) (3 + q4) 12)]) [1, 2, 0] (by decide) rfl
      have hrow := h2.blk 0 rfl
      have cx := blk_cell (i := 1) hrow rfl
      have cf := fun i => blk_free hrow i
      have H3 := Lib.hid (h2.set 0 rfl (conRow (.pointer (some ⟨pl, 0, none⟩)) (.pointer (some ⟨p, 0, none⟩)) (.slice none 0 0) (.slice none 0 0) (.slice none 0 0) (.slice none 0 0)) (w' := w2.setCell ⟨x, 1, none⟩ (.pointer (some ⟨p, 0, none⟩))) (by (repeat (first | (with_reducible exact Fr.refl _ _) | exact Or.inl rfl | (with_reducible refine Fr.setCell ?_ ?_ _) | (with_reducible refine Fr.drewN ?_ _) | (with_reducible refine Fr.drew ?_)))) (by (apply row_trans; focus (repeat (first | (with_reducible exact hrow) | (with_reducible apply row_set) | (with_reducible apply row_drewN) | (with_reducible apply row_drew)))); rfl))
      clear h h2 hrow HK
      go_wp2_with fail
      go_roundw
      case rel => exact .inr (.inr ⟨by go_num, pl, p, H3⟩)
      case measure => simp [intOf]
    · go_wp2_with fail
      refine wp_region_held_drew (S := fun _ => True) (by kernel_rfl) trivial (fun _ => ?_)
      change wpAnyH _ _ _ _ _ (6 + 1) _ _ _
      refine wpAnyH_take_n 0 1 (by kernel_rfl) trivial (fun _ _ _ _ _ h => h) ?_
      simp only [List.drop_zero, List.take_succ_cons, List.take_zero]
      (refine wpFirst_val (v := ?_) (by rfl) ?_ ?_; rotate_left 1; (focus ((intro w' hS'; go_simp); try with_reducible rfl)); simp only [Act.put, List.setIfInBounds_toArray, List.set_cons_zero, List.set_cons_succ])
      refine wpFirst_nil ?_
      refine wpAnyH_two 1 2 (by kernel_rfl) rfl rfl (fun K hK => ?_) (fun K hK => ?_)
      focus
        refine step_mkH (E := eSq eU8 5) slBs (u := .slice none 0 0) rfl (a0 := ([] : Bytes)) (fun _ _ => ⟨_, rfl, Sq.nil _ _ _ _ _⟩) rfl _ _ rfl 2 rfl rfl (by decide) (by decide) ?_
        intro w3 hb3 hs3
        have h3 := (HK.out.drew.add hb3 (T := tBB _ [[], []]) hs3).front
        obtain ⟨g1, hb3'⟩ : ∃ b3, b3 = wr.drew.heap.size := ⟨_, rfl⟩
        rw [← hb3'] at h3 ⊢
        clear hb3 hs3 hb3'
        refine hK.out _ _ trivial ?_
        clear hK K
        refine wpAnyH_one 2 (by kernel_rfl) rfl (fun K hK => ?_)
        refine step_mkH (E := eSq eU8 5) slBs (u := .slice none 0 0) rfl (a0 := ([] : Bytes)) (fun _ _ => ⟨_, rfl, Sq.nil _ _ _ _ _⟩) rfl _ _ rfl 2 rfl rfl (by decide) (by decide) ?_
        intro w4 hb4 hs4
        have h4 := (h3.add hb4 (T := tBB _ [[], []]) hs4).front
        obtain ⟨g2, hb4'⟩ : ∃ b4, b4 = w3.heap.size := ⟨_, rfl⟩
        rw [← hb4'] at h4 ⊢
        clear hb4 hs4 hb4' h3
        refine hK.out _ _ trivial ?_
        clear hK K
        simp only [Act.put, List.setIfInBounds_toArray, List.set_cons_zero, List.set_cons_succ]
        have h5 := h4.pickL (us := [tBB (.slice (some ⟨g2, 0, none⟩) 2 2) [[], []], tBB (.slice (some ⟨g1, 0, none⟩) 2 2) [[], []], tBlk x (conRow (.pointer (some ⟨pl, 0, none⟩)) (.pointer (some ⟨pr, 0, none⟩)) (.slice none 0 0) (.slice none 0 0) (.slice none 0 0) (.slice none 0 0)), tPort pl (newPrt 10 [1 + q1, 1 + q2] (1 + q3) (3 + q4) 12), tPort pr (newPrt 20 [1 + q1, 1 + q2] (1 + q3) (3 + q4) 12)]) (vs := [tBlk x (conRow (.pointer (some ⟨pl, 0, none⟩)) (.pointer (some ⟨pr, 0, none⟩)) (.slice none 0 0) (.slice none 0 0) (.slice none 0 0) (.slice none 0 0)), tPort pl (newPrt 10 [1 + q1, 1 + q2] (1 + q3) (3 + q4) 12), tPort pr (newPrt 20 [1 + q1, 1 + q2] (1 + q3) (3 + q4) 12), tBB (.slice (some ⟨g1, 0, none⟩) 2 2) [[], []], tBB (.slice (some ⟨g2, 0, none⟩) 2 2) [[], []]]) [2, 3, 4, 1, 0] (by decide) rfl
        clear h4
      rotate_left
      focus
        refine step_mkH (E := eSq eU8 5) slBs (u := .slice none 0 0) rfl (a0 := ([] : Bytes)) (fun _ _ => ⟨_, rfl, Sq.nil _ _ _ _ _⟩) rfl _ _ rfl 2 rfl rfl (by decide) (by decide) ?_
        intro w3 hb3 hs3
        have h3 := (HK.out.drew.add hb3 (T := tBB _ [[], []]) hs3).front
        obtain ⟨g2, hb3'⟩ : ∃ b3, b3 = wr.drew.heap.size := ⟨_, rfl⟩
        rw [← hb3'] at h3 ⊢
        clear hb3 hs3 hb3'
        refine hK.out _ _ trivial ?_
        clear hK K
        refine wpAnyH_one 1 (by kernel_rfl) rfl (fun K hK => ?_)
        refine step_mkH (E := eSq eU8 5) slBs (u := .slice none 0 0) rfl (a0 := ([] : Bytes)) (fun _ _ => ⟨_, rfl, Sq.nil _ _ _ _ _⟩) rfl _ _ rfl 2 rfl rfl (by decide) (by decide) ?_
        intro w4 hb4 hs4
        have h4 := (h3.add hb4 (T := tBB _ [[], []]) hs4).front
        obtain ⟨g1, hb4'⟩ : ∃ b4, b4 = w3.heap.size := ⟨_, rfl⟩
        rw [← hb4'] at h4 ⊢
        clear hb4 hs4 hb4' h3
        refine hK.out _ _ trivial ?_
        clear hK K
        simp only [Act.put, List.setIfInBounds_toArray, List.set_cons_zero, List.set_cons_succ]
        have h5 := h4.pickL (us := [tBB (.slice (some ⟨g1, 0, none⟩) 2 2) [[], []], tBB (.slice (some ⟨g2, 0, none⟩) 2 2) [[], []], tBlk x (conRow (.pointer (some ⟨pl, 0, none⟩)) (.pointer (some ⟨pr, 0, none⟩)) (.slice none 0 0) (.slice none 0 0) (.slice none 0 0) (.slice none 0 0)), tPort pl (newPrt 10 [1 + q1, 1 + q2] (1 + q3) (3 + q4) 12), tPort pr (newPrt 20 [1 + q1, 1 + q2] (1 + q3) (3 + q4) 12)]) (vs := [tBlk x (conRow (.pointer (some ⟨pl, 0, none⟩)) (.pointer (some ⟨pr, 0, none⟩)) (.slice none 0 0) (.slice none 0 0) (.slice none 0 0) (.slice none 0 0)), tPort pl (newPrt 10 [1 + q1, 1 + q2] (1 + q3) (3 + q4) 12), tPort pr (newPrt 20 [1 + q1, 1 + q2] (1 + q3) (3 + q4) 12), tBB (.slice (some ⟨g1, 0, none⟩) 2 2) [[], []], tBB (.slice (some ⟨g2, 0, none⟩) 2 2) [[], []]]) [2, 3, 4, 0, 1] (by decide) rfl
        clear h4
      all_goals
        change wpAnyH _ _ _ _ _ (1 + 3) _ _ _
        refine wpAnyH_take_n 3 3 (by kernel_rfl) trivial (fun _ _ _ _ _ h => h) ?_
        simp only [List.drop_succ_cons, List.drop_zero, List.take_succ_cons, List.take_zero]
        refine wpFirst_val (v := .agg #[.slice (some ⟨g1, 0, none⟩) 2 2, .slice (some ⟨g2, 0, none⟩) 2 2]) (by rfl) (fun w' _ => by kernel_rfl) ?_
        simp only [Act.put, List.setIfInBounds_toArray, List.set_cons_zero, List.set_cons_succ]
        iterate 2 (refine wpFirst_val (v := ?_) (by rfl) ?_ ?_; rotate_left 1; (focus ((intro w' hS'; go_simp); try with_reducible rfl)); simp only [Act.put, List.setIfInBounds_toArray, List.set_cons_zero, List.set_cons_succ])
        refine wpFirst_nil ?_
        refine wpAnyH_one 6 (by kernel_rfl) rfl (fun K hK => ?_)
        have hrow := h5.blk 0 rfl
        have d0 := blk_cell (i := 4) hrow rfl
        have d1 := blk_cell (i := 5) hrow rfl
        have cf := fun i => blk_free hrow i
        have h6 := h5.set 0 rfl (conRow (.pointer (some ⟨pl, 0, none⟩)) (.pointer (some ⟨pr, 0, none⟩)) (.slice (some ⟨g1, 0, none⟩) 2 2) (.slice (some ⟨g2, 0, none⟩) 2 2) (.slice none 0 0) (.slice none 0 0)) (w' := (w4.setCell ⟨x, 4, none⟩ (.slice (some ⟨g1, 0, none⟩) 2 2)).setCell ⟨x, 5, none⟩ (.slice (some ⟨g2, 0, none⟩) 2 2)) (by (repeat (first | (with_reducible exact Fr.refl _ _) | exact Or.inl rfl | (with_reducible refine Fr.setCell ?_ ?_ _) | (with_reducible refine Fr.drewN ?_ _) | (with_reducible refine Fr.drew ?_)))) (by (apply row_trans; focus (repeat (first | (with_reducible exact hrow) | (with_reducible apply row_set) | (with_reducible apply row_drewN) | (with_reducible apply row_drew)))); rfl)
        have HM := Lib.hid h6
        clear h5 h6 hrow
        go_simp
        refine hK.out _ _ trivial ?_
        clear hK K d0 d1 cf
        refine wpAnyH_done (by kernel_rfl) ?_ _
        obtain ⟨wm, hwm⟩ : ∃ wm, wm = (w4.setCell ⟨x, 4, none⟩ (.slice (some ⟨g1, 0, none⟩) 2 2)).setCell ⟨x, 5, none⟩ (.slice (some ⟨g2, 0, none⟩) 2 2) := ⟨_, rfl⟩
        rw [← hwm] at HM ⊢
        clear hwm HK
        go_wp2_with fail
        refine wp_region_held_drew (S := fun _ => True) (by kernel_rfl) trivial (fun _ => ?_)
        change wpAnyH _ _ _ _ _ (6 + 1) _ _ _
        refine wpAnyH_take_n 0 1 (by kernel_rfl) trivial (fun _ _ _ _ _ h => h) ?_
        simp only [List.drop_zero, List.take_succ_cons, List.take_zero]
        (refine wpFirst_val (v := ?_) (by rfl) ?_ ?_; rotate_left 1; (focus ((intro w' hS'; go_simp); try with_reducible rfl)); simp only [Act.put, List.setIfInBounds_toArray, List.set_cons_zero, List.set_cons_succ])
        refine wpFirst_nil ?_
        refine wpAnyH_two 1 2 (by kernel_rfl) rfl rfl (fun K hK => ?_) (fun K hK => ?_)
        focus
          refine step_mkH (E := eSq eU8 5) slBs (u := .slice none 0 0) rfl (a0 := ([] : Bytes)) (fun _ _ => ⟨_, rfl, Sq.nil _ _ _ _ _⟩) rfl _ _ rfl 2 rfl rfl (by decide) (by decide) ?_
          intro w3 hb3 hs3
          have h3 := (HM.out.drew.add hb3 (T := tBB _ [[], []]) hs3).front
          obtain ⟨g3, hb3'⟩ : ∃ b3, b3 = wm.drew.heap.size := ⟨_, rfl⟩
          rw [← hb3'] at h3 ⊢
          clear hb3 hs3 hb3'
          refine hK.out _ _ trivial ?_
          clear hK K
          refine wpAnyH_one 2 (by kernel_rfl) rfl (fun K hK => ?_)
          refine step_mkH (E := eSq eU8 5) slBs (u := .slice none 0 0) rfl (a0 := ([] : Bytes)) (fun _ _ => ⟨_, rfl, Sq.nil _ _ _ _ _⟩) rfl _ _ rfl 2 rfl rfl (by decide) (by decide) ?_
          intro w4 hb4 hs4
          have h4 := (h3.add hb4 (T := tBB _ [[], []]) hs4).front
          obtain ⟨g4, hb4'⟩ : ∃ b4, b4 = w3.heap.size := ⟨_, rfl⟩
          rw [← hb4'] at h4 ⊢
          clear hb4 hs4 hb4' h3
          refine hK.out _ _ trivial ?_
          clear hK K
          simp only [Act.put, List.setIfInBounds_toArray, List.set_cons_zero, List.set_cons_succ]
          have h5 := h4.pickL (us := [tBB (.slice (some ⟨g4, 0, none⟩) 2 2) [[], []], tBB (.slice (some ⟨g3, 0, none⟩) 2 2) [[], []], tBlk x (conRow (.pointer (some ⟨pl, 0, none⟩)) (.pointer (some ⟨pr, 0, none⟩)) (.slice (some ⟨g1, 0, none⟩) 2 2) (.slice (some ⟨g2, 0, none⟩) 2 2) (.slice none 0 0) (.slice none 0 0)), tPort pl (newPrt 10 [1 + q1, 1 + q2] (1 + q3) (3 + q4) 12), tPort pr (newPrt 20 [1 + q1, 1 + q2] (1 + q3) (3 + q4) 12), tBB (.slice (some ⟨g1, 0, none⟩) 2 2) [[], []], tBB (.slice (some ⟨g2, 0, none⟩) 2 2) [[], []]]) (vs := [tBlk x (conRow (.pointer (some ⟨pl, 0, none⟩)) (.pointer (some ⟨pr, 0, none⟩)) (.slice (some ⟨g1, 0, none⟩) 2 2) (.slice (some ⟨g2, 0, none⟩) 2 2) (.slice none 0 0) (.slice none 0 0)), tPort pl (newPrt 10 [1 + q1, 1 + q2] (1 + q3) (3 + q4) 12), tPort pr (newPrt 20 [1 + q1, 1 + q2] (1 + q3) (3 + q4) 12), tBB (.slice (some ⟨g1, 0, none⟩) 2 2) [[], []], tBB (.slice (some ⟨g2, 0, none⟩) 2 2) [[], []], tBB (.slice (some ⟨g3, 0, none⟩) 2 2) [[], []], tBB (.slice (some ⟨g4, 0, none⟩) 2 2) [[], []]]) [2, 3, 4, 5, 6, 1, 0] (by decide) rfl
          clear h4
        rotate_left
        focus
          refine step_mkH (E := eSq eU8 5) slBs (u := .slice none 0 0) rfl (a0 := ([] : Bytes)) (fun _ _ => ⟨_, rfl, Sq.nil _ _ _ _ _⟩) rfl _ _ rfl 2 rfl rfl (by decide) (by decide) ?_
          intro w3 hb3 hs3
          have h3 := (HM.out.drew.add hb3 (T := tBB _ [[], []]) hs3).front
          obtain ⟨g4, hb3'⟩ : ∃ b3, b3 = wm.drew.heap.size := ⟨_, rfl⟩
          rw [← hb3'] at h3 ⊢
          clear hb3 hs3 hb3'
          refine hK.out _ _ trivial ?_
          clear hK K
          refine wpAnyH_one 1 (by kernel_rfl) rfl (fun K hK => ?_)
          refine step_mkH (E := eSq eU8 5) slBs (u := .slice none 0 0) rfl (a0 := ([] : Bytes)) (fun _ _ => ⟨_, rfl, Sq.nil _ _ _ _ _⟩) rfl _ _ rfl 2 rfl rfl (by decide) (by decide) ?_
          intro w4 hb4 hs4
          have h4 := (h3.add hb4 (T := tBB _ [[], []]) hs4).front
          obtain ⟨g3, hb4'⟩ : ∃ b4, b4 = w3.heap.size := ⟨_, rfl⟩
          rw [← hb4'] at h4 ⊢
          clear hb4 hs4 hb4' h3
          refine hK.out _ _ trivial ?_
          clear hK K
          simp only [Act.put, List.setIfInBounds_toArray, List.set_cons_zero, List.set_cons_succ]
          have h5 := h4.pickL (us := [tBB (.slice (some ⟨g3, 0, none⟩) 2 2) [[], []], tBB (.slice (some ⟨g4, 0, none⟩) 2 2) [[], []], tBlk x (conRow (.pointer (some ⟨pl, 0, none⟩)) (.pointer (some ⟨pr, 0, none⟩)) (.slice (some ⟨g1, 0, none⟩) 2 2) (.slice (some ⟨g2, 0, none⟩) 2 2) (.slice none 0 0) (.slice none 0 0)), tPort pl (newPrt 10 [1 + q1, 1 + q2] (1 + q3) (3 + q4) 12), tPort pr (newPrt 20 [1 + q1, 1 + q2] (1 + q3) (3 + q4) 12), tBB (.slice (some ⟨g1, 0, none⟩) 2 2) [[], []], tBB (.slice (some ⟨g2, 0, none⟩) 2 2) [[], []]]) (vs := [tBlk x (conRow (.pointer (some ⟨pl, 0, none⟩)) (.pointer (some ⟨pr, 0, none⟩)) (.slice (some ⟨g1, 0, none⟩) 2 2) (.slice (some ⟨g2, 0, none⟩) 2 2) (.slice none 0 0) (.slice none 0 0)), tPort pl (newPrt 10 [1 + q1, 1 + q2] (1 + q3) (3 + q4) 12), tPort pr (newPrt 20 [1 + q1, 1 + q2] (1 + q3) (3 + q4) 12), tBB (.slice (some ⟨g1, 0, none⟩) 2 2) [[], []], tBB (.slice (some ⟨g2, 0, none⟩) 2 2) [[], []], tBB (.slice (some ⟨g3, 0, none⟩) 2 2) [[], []], tBB (.slice (some ⟨g4, 0, none⟩) 2 2) [[], []]]) [2, 3, 4, 5, 6, 0, 1] (by decide) rfl
          clear h4
        all_goals
          change wpAnyH _ _ _ _ _ (1 + 3) _ _ _
          refine wpAnyH_take_n 3 3 (by kernel_rfl) trivial (fun _ _ _ _ _ h => h) ?_
          simp only [List.drop_succ_cons, List.drop_zero, List.take_succ_cons, List.take_zero]
          refine wpFirst_val (v := .agg #[.slice (some ⟨g3, 0, none⟩) 2 2, .slice (some ⟨g4, 0, none⟩) 2 2]) (by rfl) (fun w' _ => by kernel_rfl) ?_
          simp only [Act.put, List.setIfInBounds_toArray, List.set_cons_zero, List.set_cons_succ]
          iterate 2 (refine wpFirst_val (v := ?_) (by rfl) ?_ ?_; rotate_left 1; (focus ((intro w' hS'; go_simp); try with_reducible rfl)); simp only [Act.put, List.setIfInBounds_toArray, List.set_cons_zero, List.set_cons_succ])
          refine wpFirst_nil ?_
          refine wpAnyH_one 6 (by kernel_rfl) rfl (fun K hK => ?_)
          have hrow := h5.blk 0 rfl
          have d0 := blk_cell (i := 6) hrow rfl
          have d1 := blk_cell (i := 7) hrow rfl
          have cf := fun i => blk_free hrow i
          have h6 := h5.set 0 rfl (conRow (.pointer (some ⟨pl, 0, none⟩)) (.pointer (some ⟨pr, 0, none⟩)) (.slice (some ⟨g1, 0, none⟩) 2 2) (.slice (some ⟨g2, 0, none⟩) 2 2) (.slice (some ⟨g3, 0, none⟩) 2 2) (.slice (some ⟨g4, 0, none⟩) 2 2)) (w' := (w4.setCell ⟨x, 6, none⟩ (.slice (some ⟨g3, 0, none⟩) 2 2)).setCell ⟨x, 7, none⟩ (.slice (some ⟨g4, 0, none⟩) 2 2)) (by (repeat (first | (with_reducible exact Fr.refl _ _) | exact Or.inl rfl | (with_reducible refine Fr.setCell ?_ ?_ _) | (with_reducible refine Fr.drewN ?_ _) | (with_reducible refine Fr.drew ?_)))) (by (apply row_trans; focus (repeat (first | (with_reducible exact hrow) | (with_reducible apply row_set) | (with_reducible apply row_drewN) | (with_reducible apply row_drew)))); rfl)
          have HM := Lib.hid h6
          clear h5 h6 hrow
          go_simp
          refine hK.out _ _ trivial ?_
          clear hK K d0 d1 cf
          refine wpAnyH_done (by kernel_rfl) ?_ _
          go_wp2_with fail
          go_ret
          refine ⟨x, rfl, ?_⟩
          rw [HNP.out]
          have h8 := (HM.out.adds0 (E := ePt) (T := 33)).freeze 0 rfl ePt_rd
          have h9 := (h8.adds0 (E := ePt) (T := 33)).freeze 0 rfl ePt_rd
          exact Held.pair_shut (v := ⟨pl, pr, .slice none 0 0, .slice none 0 0, .slice (some ⟨g1, 0, none⟩) 2 2, .slice (some ⟨g2, 0, none⟩) 2 2, .slice (some ⟨g3, 0, none⟩) 2 2, .slice (some ⟨g4, 0, none⟩) 2 2⟩) (h9.pickL (us := [tRd ePt (.slice none 0 0) [], tRd ePt (.slice none 0 0) [], tBlk x (conRow (.pointer (some ⟨pl, 0, none⟩)) (.pointer (some ⟨pr, 0, none⟩)) (.slice (some ⟨g1, 0, none⟩) 2 2) (.slice (some ⟨g2, 0, none⟩) 2 2) (.slice (some ⟨g3, 0, none⟩) 2 2) (.slice (some ⟨g4, 0, none⟩) 2 2)), tPort pl (newPrt 10 [1 + q1, 1 + q2] (1 + q3) (3 + q4) 12), tPort pr (newPrt 20 [1 + q1, 1 + q2] (1 + q3) (3 + q4) 12), tBB (.slice (some ⟨g1, 0, none⟩) 2 2) [[], []], tBB (.slice (some ⟨g2, 0, none⟩) 2 2) [[], []], tBB (.slice (some ⟨g3, 0, none⟩) 2 2) [[], []], tBB (.slice (some ⟨g4, 0, none⟩) 2 2) [[], []]]) (vs := [tBlk x (conRow (.pointer (some ⟨pl, 0, none⟩)) (.pointer (some ⟨pr, 0, none⟩)) (.slice (some ⟨g1, 0, none⟩) 2 2) (.slice (some ⟨g2, 0, none⟩) 2 2) (.slice (some ⟨g3, 0, none⟩) 2 2) (.slice (some ⟨g4, 0, none⟩) 2 2)), tPort pl (newPrt 10 [1 + q1, 1 + q2] (1 + q3) (3 + q4) 12), tPort pr (newPrt 20 [1 + q1, 1 + q2] (1 + q3) (3 + q4) 12), tRd ePt (.slice none 0 0) [], tRd ePt (.slice none 0 0) [], tBB (.slice (some ⟨g1, 0, none⟩) 2 2) [[], []], tBB (.slice (some ⟨g2, 0, none⟩) 2 2) [[], []], tBB (.slice (some ⟨g3, 0, none⟩) 2 2) [[], []], tBB (.slice (some ⟨g4, 0, none⟩) 2 2) [[], []]]) [2, 3, 4, 0, 1, 5, 6, 7, 8] (by decide) rfl)
end
end Go.Proofs.Ytcocnfbhileheaa
