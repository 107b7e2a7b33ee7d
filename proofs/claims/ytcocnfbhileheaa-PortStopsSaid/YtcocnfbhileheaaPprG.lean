/- Two connected ports in memory: tick, the first loop. -/
import Derived.Test.YtcocnfbhileheaaMgH
namespace Go.Proofs.Ytcocnfbhileheaa
open Go.RowKit

theorem sift_take (lose dbl : Nat) : ∀ (l : List Pt) (k0 j : Nat) (y : Pt), l[j]? = some y → sift lose dbl k0 (l.take (j + 1)) = sift lose dbl k0 (l.take j) ++ (if lose >>> ((k0 + j) % 16) % 2 = 0 then (if dbl >>> ((k0 + j) % 16) % 2 = 1 then [y, y] else [y]) else [])
  | [], _, j, y, h => by simp at h
  | z :: l, k0, 0, y, h => by
    obtain rfl : z = y := by simpa using h
    simp [sift]
  | z :: l, k0, j + 1, y, h => by
    have := sift_take lose dbl l (k0 + 1) j y (by simpa using h)
    rw [List.take_succ_cons, List.take_succ_cons]
    unfold sift
    rw [this, List.append_assoc, show k0 + 1 + j = k0 + (j + 1) by omega]
theorem bit_eq (a n : Nat) : ((a : Int) / 2 ^ n).tmod 2 = ((a >>> n % 2 : Nat) : Int) := by
  rw [Nat.shiftRight_eq_div_pow, show ((2 : Int) ^ n) = ((2 ^ n : Nat) : Int) by simp, ← Int.natCast_ediv]
  rfl
theorem bit_yes (a n : Nat) (h : a >>> n % 2 = 0) : (((a : Int) / 2 ^ n).tmod 2 == 0) = true := by rw [bit_eq, h]; rfl
theorem bit_no (a n : Nat) (h : ¬ a >>> n % 2 = 0) : (((a : Int) / 2 ^ n).tmod 2 == 0) = false := by
  rw [bit_eq, beq_eq_false_iff_ne]; omega
theorem bit_yes1 (a n : Nat) (h : a >>> n % 2 = 1) : (((a : Int) / 2 ^ n).tmod 2 == 1) = true := by rw [bit_eq, h]; rfl
theorem bit_no1 (a n : Nat) (h : ¬ a >>> n % 2 = 1) : (((a : Int) / 2 ^ n).tmod 2 == 1) = false := by
  rw [bit_eq, beq_eq_false_iff_ne]; omega
abbrev sentRow (u v : Value) : Obj := .cells #[u, v] 47
section
variable {F Z : BS} {W w : World} {ts : List Th} {x N : Nat} {P : Pr}
/-- what one of the things says of the pool, as a thing of its own -/
theorem Held.also {T T' : Th} (h : Held F Z W ts w) (i : Nat) (hi : ts[i]? = some T) (k : ∀ G Y, T.on w G Y → T'.on w (fun _ => False) Y) : Held F Z W (ts ++ [T']) w := by
  obtain ⟨L, h1, h2, h3⟩ := h
  refine ⟨L, h1, h2, fun j T'' hj => ?_⟩
  by_cases hjl : j < ts.length
  · rw [List.getElem?_append_left hjl] at hj; exact h3 j T'' hj
  · rw [List.getElem?_append_right (Nat.le_of_not_lt hjl)] at hj
    obtain rfl : T' = T'' := by
      have : j - ts.length = 0 := by have := lt_of_get hj; simp at this; omega
      rw [this] at hj; simpa using hj
    exact T'.mono (k _ _ (h3 i T hi)) (fun _ f => f.elim) fun _ h => h
set_option maxRecDepth 100000 in
set_option maxHeartbeats 16000000 in
theorem pairTick_c (hok : P.Ok N) (hN : N ≤ 100000000) (lose dbl : Nat) (_ : lose < 65536) (_ : dbl < 65536) (h : Held F Z W (tPair x P :: ts) w) :
    Calls Try.prog 21 #[.pointer (some ⟨x, 0, none⟩), .int .u16 (lose : Int), .int .u16 (dbl : Int)] w fun e w' => e = .returned (.tuple #[]) ∧ Held F Z W (tPair x (P.tick lose dbl) :: ts) w' := by
  obtain ⟨⟨pl, pr, fl, fr, ol, or', gl, gr⟩, h0⟩ := h.pair'
  have h1 := (h0.new (sentRow (.slice none 0 0) (.slice none 0 0))).front
  have HPK := Lib.hid hok
  obtain ⟨_, _, hfl⟩ := h0.get 3 rfl
  obtain ⟨_, _, hfr⟩ := h0.get 4 rfl
  obtain ⟨fla, flc, rfl, _, _⟩ := RdS.shape (show RdS ePt w _ fl P.l.fly from hfl)
  obtain ⟨fra, frc, rfl, _, _⟩ := RdS.shape (show RdS ePt w _ fr P.r.fly from hfr)
  obtain ⟨sb, hsb⟩ : ∃ sb, sb = w.heap.size := ⟨_, rfl⟩
  have HSB := Lib.hid hsb
  rw [← hsb] at h1
  have H1 := Lib.hid h1
  obtain ⟨ql, hql⟩ : ∃ ql, ql = (P.l.prt.tick P.r.fly) := ⟨_, rfl⟩
  obtain ⟨qr, hqr⟩ : ∃ qr, qr = (P.r.prt.tick P.l.fly) := ⟨_, rfl⟩
  have HQL := Lib.hid hql
  have HQR := Lib.hid hqr
  clear h h0 h1 hok hfl hfr hql hqr
  go_enter Try.func21, Try.ntmps21
  go_wp2_with fail
  rw [← hsb]
  clear hsb
  go_loopw [12] (fun i wr =>
      (i = .int .i64 0 ∧ Hid (Held F Z W ([tBlk sb (sentRow (.slice none 0 0) (.slice none 0 0)), tBlk x (pairRow ⟨pl, pr, .slice fla P.l.fly.length flc, .slice fra P.r.fly.length frc, ol, or', gl, gr⟩), tPort pl P.l.prt, tPort pr P.r.prt, tRd ePt (.slice fla P.l.fly.length flc) P.l.fly, tRd ePt (.slice fra P.r.fly.length frc) P.r.fly, tBB ol P.l.off, tBB or' P.r.off, tBB gl P.l.got, tBB gr P.r.got] ++ ts) wr)) ∨
      (i = .int .i64 1 ∧ ∃ ua uc, Hid (Held F Z W ([tBlk sb (sentRow (.slice ua ql.1.length uc) (.slice none 0 0)), tRd ePt (.slice ua ql.1.length uc) ql.1, tBlk x (pairRow ⟨pl, pr, .slice fla P.l.fly.length flc, .slice fra P.r.fly.length frc, ol, or', gl, gr⟩), tPort pl ql.2, tPort pr P.r.prt, tRd ePt (.slice fla P.l.fly.length flc) P.l.fly, tRd ePt (.slice fra P.r.fly.length frc) P.r.fly, tBB ol P.l.off, tBB or' P.r.off, tBB gl P.l.got, tBB gr P.r.got] ++ ts) wr)) ∨
      (i = .int .i64 2 ∧ ∃ ua uc va vc, Hid (Held F Z W ([tBlk sb (sentRow (.slice ua ql.1.length uc) (.slice va qr.1.length vc)), tRd ePt (.slice ua ql.1.length uc) ql.1, tRd ePt (.slice va qr.1.length vc) qr.1, tBlk x (pairRow ⟨pl, pr, .slice fla P.l.fly.length flc, .slice fra P.r.fly.length frc, ol, or', gl, gr⟩), tPort pl ql.2, tPort pr qr.2, tRd ePt (.slice fla P.l.fly.length flc) P.l.fly, tRd ePt (.slice fra P.r.fly.length frc) P.r.fly, tBB ol P.l.off, tBB or' P.r.off, tBB gl P.l.got, tBB gr P.r.got] ++ ts) wr)))
    (fun i _ => 2 - (intOf i).toNat)
  case atStart => exact .inl ⟨rfl, H1⟩
  case round =>
    clear H1
    rcases hrel with ⟨rfl, HK⟩ | ⟨rfl, ua, uc, HK⟩ | ⟨rfl, ua, uc, va, vc, HK⟩
    · --a
      have hrow := HK.out.blk 1 rfl
      obtain ⟨c0, c1, c2, c3, _⟩ := pair_cells hrow
      dsimp only at c0 c1 c2 c3
      clear hrow
      go_wp2_with fail
      have hw1 : IntKind.i64.wrap 1 = 1 := by decide
      have hw0 : IntKind.i64.wrap 0 = 0 := by decide
      refine wp_region_held_drew (S := fun w' => w'.cell? ⟨x, 0, none⟩ = some (.pointer (some ⟨pl, 0, none⟩)) ∧ w'.cell? ⟨x, 3, none⟩ = some (.slice fra P.r.fly.length frc)) (by kernel_rfl) ⟨c0, c3⟩ (fun hS0 => ?_)
      change wpAnyH _ _ _ _ _ (3 + 14) _ _ _
      refine wpAnyH_take_n 0 14 (by kernel_rfl) hS0 (fun _ _ _ _ _ h => h) ?_
      simp only [List.drop_zero, List.take_succ_cons, List.take_zero]
      iterate 14 (refine wpFirst_val (v := ?_) (by rfl) ?_ ?_; rotate_left 1; (focus ((intro w' hS'; have h0 := hS'.1; have h1 := hS'.2; go_simp); try with_reducible rfl)); simp only [Act.put, List.setIfInBounds_toArray, List.set_cons_zero, List.set_cons_succ])
      refine wpFirst_nil ?_
      refine wpAnyH_one 14 (by kernel_rfl) rfl (fun K hK => ?_)
      have hpk := HK.out.drew.pickL (us := [tBlk sb (sentRow (.slice none 0 0) (.slice none 0 0)), tBlk x (pairRow ⟨pl, pr, .slice fla P.l.fly.length flc, .slice fra P.r.fly.length frc, ol, or', gl, gr⟩), tPort pl P.l.prt, tPort pr P.r.prt, tRd ePt (.slice fla P.l.fly.length flc) P.l.fly, tRd ePt (.slice fra P.r.fly.length frc) P.r.fly, tBB ol P.l.off, tBB or' P.r.off, tBB gl P.l.got, tBB gr P.r.got]) (vs := [tPort pl P.l.prt, tBlk sb (sentRow (.slice none 0 0) (.slice none 0 0)), tBlk x (pairRow ⟨pl, pr, .slice fla P.l.fly.length flc, .slice fra P.r.fly.length frc, ol, or', gl, gr⟩), tPort pr P.r.prt, tRd ePt (.slice fla P.l.fly.length flc) P.l.fly, tRd ePt (.slice fra P.r.fly.length frc) P.r.fly, tBB ol P.l.off, tBB or' P.r.off, tBB gl P.l.got, tBB gr P.r.got]) [2, 0, 1, 3, 4, 5, 6, 7, 8, 9] (by decide) rfl
      have hmi := HPK.out.l.min
      refine step_call (f := 15) (args := #[.pointer (some ⟨pl, 0, none⟩), .slice fra P.r.fly.length frc]) (by rfl) (by first | rfl | go_simp) ((tick_c P.r.fly (.slice fra P.r.fly.length frc) HPK.out.l.ok hmi (by have := HPK.out.r.fl; omega) (fun y hy => Nat.le_trans (HPK.out.r.f1 y hy).1 (by decide)) hpk 4 rfl).mono ?_)
      rintro e w2 ⟨ua, uc, rfl, h⟩
      rw [← HQL.out] at h ⊢
      refine ⟨_, rfl, ?_⟩
      simp only [Act.put, List.setIfInBounds_toArray, List.set_cons_zero, List.set_cons_succ]
      have h3 := (h.freeze 0 rfl ePt_rd).pickL (us := [tRd ePt (.slice ua ql.1.length uc) ql.1, tPort pl ql.2, tBlk sb (sentRow (.slice none 0 0) (.slice none 0 0)), tBlk x (pairRow ⟨pl, pr, .slice fla P.l.fly.length flc, .slice fra P.r.fly.length frc, ol, or', gl, gr⟩), tPort pr P.r.prt, tRd ePt (.slice fla P.l.fly.length flc) P.l.fly, tRd ePt (.slice fra P.r.fly.length frc) P.r.fly, tBB ol P.l.off, tBB or' P.r.off, tBB gl P.l.got, tBB gr P.r.got]) (vs := [tBlk sb (sentRow (.slice none 0 0) (.slice none 0 0)), tRd ePt (.slice ua ql.1.length uc) ql.1, tBlk x (pairRow ⟨pl, pr, .slice fla P.l.fly.length flc, .slice fra P.r.fly.length frc, ol, or', gl, gr⟩), tPort pl ql.2, tPort pr P.r.prt, tRd ePt (.slice fla P.l.fly.length flc) P.l.fly, tRd ePt (.slice fra P.r.fly.length frc) P.r.fly, tBB ol P.l.off, tBB or' P.r.off, tBB gl P.l.got, tBB gr P.r.got]) [2, 0, 3, 1, 4, 5, 6, 7, 8, 9, 10] (by decide) rfl
      clear h hpk
      obtain ⟨e0, e1, e2, e3, _⟩ := pair_cells (h3.blk 2 rfl)
      dsimp only at e0 e1 e2 e3
      have hsr := h3.blk 0 rfl
      have g0 := blk_cell (i := 0) hsr rfl
      have gf := fun i => blk_free hsr i
      have hne := h3.apart 0 2 (by decide) rfl rfl (fun _ _ h => h.2) (fun _ _ h => h.2)
      have h4 := h3.set 0 rfl (sentRow (.slice ua ql.1.length uc) (.slice none 0 0)) (w' := w2.setCell ⟨sb, 0, none⟩ (.slice ua ql.1.length uc)) (by (repeat (first | (with_reducible exact Fr.refl _ _) | exact Or.inl rfl | (with_reducible refine Fr.setCell ?_ ?_ _) | (with_reducible refine Fr.drewN ?_ _) | (with_reducible refine Fr.drew ?_)))) (by (apply row_trans; focus (repeat (first | (with_reducible exact hsr) | (with_reducible apply row_set) | (with_reducible apply row_drewN) | (with_reducible apply row_drew)))); rfl)
      have H4 := Lib.hid h4
      refine hK.out _ _ ⟨e0, e3⟩ ?_
      clear hK K h3 h4 hsr
      refine wpAnyH_one 15 (by kernel_rfl) rfl (fun K hK => ?_)
      go_simp
      refine hK.out _ _ ⟨e0, e3⟩ ?_
      clear hK K
      refine wpAnyH_one 16 (by kernel_rfl) rfl (fun K hK => ?_)
      go_simp
      refine hK.out _ _ ⟨cell_ne (Ne.symm hne) e0, cell_ne (Ne.symm hne) e3⟩ ?_
      clear hK K
      refine wpAnyH_done (by kernel_rfl) ?_ _
      go_wp2_with fail
      go_roundw
      case rel => exact .inr (.inl ⟨by go_num, ua, uc, H4⟩)
      case measure => simp [intOf]
    · --b
      have hrow := HK.out.blk 2 rfl
      obtain ⟨c0, c1, c2, c3, _⟩ := pair_cells hrow
      dsimp only at c0 c1 c2 c3
      clear hrow
      go_wp2_with fail
      have hw1 : IntKind.i64.wrap 1 = 1 := by decide
      have hw0 : IntKind.i64.wrap 0 = 0 := by decide
      refine wp_region_held_drew (S := fun w' => w'.cell? ⟨x, 1, none⟩ = some (.pointer (some ⟨pr, 0, none⟩)) ∧ w'.cell? ⟨x, 2, none⟩ = some (.slice fla P.l.fly.length flc)) (by kernel_rfl) ⟨c1, c2⟩ (fun hS0 => ?_)
      change wpAnyH _ _ _ _ _ (3 + 14) _ _ _
      refine wpAnyH_take_n 0 14 (by kernel_rfl) hS0 (fun _ _ _ _ _ h => h) ?_
      simp only [List.drop_zero, List.take_succ_cons, List.take_zero]
      iterate 14 (refine wpFirst_val (v := ?_) (by rfl) ?_ ?_; rotate_left 1; (focus ((intro w' hS'; have h0 := hS'.1; have h1 := hS'.2; go_simp); try with_reducible rfl)); simp only [Act.put, List.setIfInBounds_toArray, List.set_cons_zero, List.set_cons_succ])
      refine wpFirst_nil ?_
      refine wpAnyH_one 14 (by kernel_rfl) rfl (fun K hK => ?_)
      have hpk := HK.out.drew.pickL (us := [tBlk sb (sentRow (.slice ua ql.1.length uc) (.slice none 0 0)), tRd ePt (.slice ua ql.1.length uc) ql.1, tBlk x (pairRow ⟨pl, pr, .slice fla P.l.fly.length flc, .slice fra P.r.fly.length frc, ol, or', gl, gr⟩), tPort pl ql.2, tPort pr P.r.prt, tRd ePt (.slice fla P.l.fly.length flc) P.l.fly, tRd ePt (.slice fra P.r.fly.length frc) P.r.fly, tBB ol P.l.off, tBB or' P.r.off, tBB gl P.l.got, tBB gr P.r.got]) (vs := [tPort pr P.r.prt, tBlk sb (sentRow (.slice ua ql.1.length uc) (.slice none 0 0)), tRd ePt (.slice ua ql.1.length uc) ql.1, tBlk x (pairRow ⟨pl, pr, .slice fla P.l.fly.length flc, .slice fra P.r.fly.length frc, ol, or', gl, gr⟩), tPort pl ql.2, tRd ePt (.slice fla P.l.fly.length flc) P.l.fly, tRd ePt (.slice fra P.r.fly.length frc) P.r.fly, tBB ol P.l.off, tBB or' P.r.off, tBB gl P.l.got, tBB gr P.r.got]) [4, 0, 1, 2, 3, 5, 6, 7, 8, 9, 10] (by decide) rfl
      have hmi := HPK.out.r.min
      refine step_call (f := 15) (args := #[.pointer (some ⟨pr, 0, none⟩), .slice fla P.l.fly.length flc]) (by rfl) (by first | rfl | go_simp) ((tick_c P.l.fly (.slice fla P.l.fly.length flc) HPK.out.r.ok hmi (by have := HPK.out.l.fl; omega) (fun y hy => Nat.le_trans (HPK.out.l.f1 y hy).1 (by decide)) hpk 4 rfl).mono ?_)
      rintro e w2 ⟨va, vc, rfl, h⟩
      rw [← HQR.out] at h ⊢
      refine ⟨_, rfl, ?_⟩
      simp only [Act.put, List.setIfInBounds_toArray, List.set_cons_zero, List.set_cons_succ]
      have h3 := (h.freeze 0 rfl ePt_rd).pickL (us := [tRd ePt (.slice va qr.1.length vc) qr.1, tPort pr qr.2, tBlk sb (sentRow (.slice ua ql.1.length uc) (.slice none 0 0)), tRd ePt (.slice ua ql.1.length uc) ql.1, tBlk x (pairRow ⟨pl, pr, .slice fla P.l.fly.length flc, .slice fra P.r.fly.length frc, ol, or', gl, gr⟩), tPort pl ql.2, tRd ePt (.slice fla P.l.fly.length flc) P.l.fly, tRd ePt (.slice fra P.r.fly.length frc) P.r.fly, tBB ol P.l.off, tBB or' P.r.off, tBB gl P.l.got, tBB gr P.r.got]) (vs := [tBlk sb (sentRow (.slice ua ql.1.length uc) (.slice none 0 0)), tRd ePt (.slice ua ql.1.length uc) ql.1, tRd ePt (.slice va qr.1.length vc) qr.1, tBlk x (pairRow ⟨pl, pr, .slice fla P.l.fly.length flc, .slice fra P.r.fly.length frc, ol, or', gl, gr⟩), tPort pl ql.2, tPort pr qr.2, tRd ePt (.slice fla P.l.fly.length flc) P.l.fly, tRd ePt (.slice fra P.r.fly.length frc) P.r.fly, tBB ol P.l.off, tBB or' P.r.off, tBB gl P.l.got, tBB gr P.r.got]) [2, 3, 0, 4, 5, 1, 6, 7, 8, 9, 10, 11] (by decide) rfl
      clear h hpk
      obtain ⟨e0, e1, e2, e3, _⟩ := pair_cells (h3.blk 3 rfl)
      dsimp only at e0 e1 e2 e3
      have hsr := h3.blk 0 rfl
      have g0 := blk_cell (i := 1) hsr rfl
      have gf := fun i => blk_free hsr i
      have hne := h3.apart 0 3 (by decide) rfl rfl (fun _ _ h => h.2) (fun _ _ h => h.2)
      have h4 := h3.set 0 rfl (sentRow (.slice ua ql.1.length uc) (.slice va qr.1.length vc)) (w' := w2.setCell ⟨sb, 1, none⟩ (.slice va qr.1.length vc)) (by (repeat (first | (with_reducible exact Fr.refl _ _) | exact Or.inl rfl | (with_reducible refine Fr.setCell ?_ ?_ _) | (with_reducible refine Fr.drewN ?_ _) | (with_reducible refine Fr.drew ?_)))) (by (apply row_trans; focus (repeat (first | (with_reducible exact hsr) | (with_reducible apply row_set) | (with_reducible apply row_drewN) | (with_reducible apply row_drew)))); rfl)
      have H4 := Lib.hid h4
      refine hK.out _ _ ⟨e1, e2⟩ ?_
      clear hK K h3 h4 hsr
      refine wpAnyH_one 15 (by kernel_rfl) rfl (fun K hK => ?_)
      go_simp
      refine hK.out _ _ ⟨e1, e2⟩ ?_
      clear hK K
      refine wpAnyH_one 16 (by kernel_rfl) rfl (fun K hK => ?_)
      go_simp
      refine hK.out _ _ ⟨cell_ne (Ne.symm hne) e1, cell_ne (Ne.symm hne) e2⟩ ?_
      clear hK K
      refine wpAnyH_done (by kernel_rfl) ?_ _
      go_wp2_with fail
      go_roundw
      case rel => exact .inr (.inr ⟨by go_num, ua, uc, va, vc, H4⟩)
      case measure => simp [intOf]
    · --c
      have HQS := Lib.hid (show ql.1.length ≤ 5 ∧ qr.1.length ≤ 5 by
        have t1 := (Prt.tick_sent HPK.out.l.ok HPK.out.l.one HPK.out.r.f1).2.2
        have t2 := (Prt.tick_sent HPK.out.r.ok HPK.out.r.one HPK.out.l.f1).2.2
        rw [HPK.out.l.two, ← HQL.out] at t1
        rw [HPK.out.r.two, ← HQR.out] at t2
        exact ⟨t1, t2⟩)
      go_wp2_with fail
      go_loopw [32, 8] (fun i k wr =>
          (i = .int .i64 0 ∧ k = .int .i64 0 ∧ Hid (Held F Z W ([tBlk sb (sentRow (.slice ua ql.1.length uc) (.slice va qr.1.length vc)), tRd ePt (.slice ua ql.1.length uc) ql.1, tRd ePt (.slice va qr.1.length vc) qr.1, tBlk x (pairRow ⟨pl, pr, .slice fla P.l.fly.length flc, .slice fra P.r.fly.length frc, ol, or', gl, gr⟩), tPort pl ql.2, tPort pr qr.2, tRd ePt (.slice fla P.l.fly.length flc) P.l.fly, tRd ePt (.slice fra P.r.fly.length frc) P.r.fly, tBB ol P.l.off, tBB or' P.r.off, tBB gl P.l.got, tBB gr P.r.got] ++ ts) wr)) ∨
          (i = .int .i64 1 ∧ k = .int .i64 (ql.1.length : Int) ∧ ∃ (gsl : List Pt) (la : Option Addr) (lc : Nat), Hid (gsl = sift lose dbl 0 ql.1) ∧ Hid (Held F Z W ([tBlk sb (sentRow (.slice ua ql.1.length uc) (.slice va qr.1.length vc)), tRd ePt (.slice ua ql.1.length uc) ql.1, tRd ePt (.slice va qr.1.length vc) qr.1, tBlk x (pairRow ⟨pl, pr, .slice la gsl.length lc, .slice fra P.r.fly.length frc, ol, or', gl, gr⟩), tPort pl ql.2, tPort pr qr.2, tRd ePt (.slice la gsl.length lc) gsl, tRd ePt (.slice fra P.r.fly.length frc) P.r.fly, tBB ol P.l.off, tBB or' P.r.off, tBB gl P.l.got, tBB gr P.r.got] ++ ts) wr)) ∨
          (i = .int .i64 2 ∧ ∃ (gsl gsr : List Pt) (la : Option Addr) (lc : Nat) (ra : Option Addr) (rc : Nat), Hid (gsl = sift lose dbl 0 ql.1) ∧ Hid (gsr = sift lose dbl ql.1.length qr.1) ∧ Hid (Held F Z W ([tBlk sb (sentRow (.slice ua ql.1.length uc) (.slice va qr.1.length vc)), tRd ePt (.slice ua ql.1.length uc) ql.1, tRd ePt (.slice va qr.1.length vc) qr.1, tBlk x (pairRow ⟨pl, pr, .slice la gsl.length lc, .slice ra gsr.length rc, ol, or', gl, gr⟩), tPort pl ql.2, tPort pr qr.2, tRd ePt (.slice la gsl.length lc) gsl, tRd ePt (.slice ra gsr.length rc) gsr, tBB ol P.l.off, tBB or' P.r.off, tBB gl P.l.got, tBB gr P.r.got] ++ ts) wr)))
        (fun i _ _ => 2 - (intOf i).toNat)
      case atStart => exact .inl ⟨rfl, rfl, HK⟩
      case round =>
        clear HK
        rcases hrel with ⟨rfl, rfl, HK⟩ | ⟨rfl, rfl, gsl, la, lc, HGL, HK⟩ | ⟨rfl, gsl, gsr, la, lc, ra, rc, HGL, HGR, HK⟩
        rotate_left 2
        · go_wp2_with fail
          go_end0
          refine ⟨rfl, ?_⟩
          have h9 := HK.out.pickL (us := [tBlk sb (sentRow (.slice ua ql.1.length uc) (.slice va qr.1.length vc)), tRd ePt (.slice ua ql.1.length uc) ql.1, tRd ePt (.slice va qr.1.length vc) qr.1, tBlk x (pairRow ⟨pl, pr, .slice la gsl.length lc, .slice ra gsr.length rc, ol, or', gl, gr⟩), tPort pl ql.2, tPort pr qr.2, tRd ePt (.slice la gsl.length lc) gsl, tRd ePt (.slice ra gsr.length rc) gsr, tBB ol P.l.off, tBB or' P.r.off, tBB gl P.l.got, tBB gr P.r.got]) (vs := [tBlk x (pairRow ⟨pl, pr, .slice la gsl.length lc, .slice ra gsr.length rc, ol, or', gl, gr⟩), tPort pl ql.2, tPort pr qr.2, tRd ePt (.slice la gsl.length lc) gsl, tRd ePt (.slice ra gsr.length rc) gsr, tBB ol P.l.off, tBB or' P.r.off, tBB gl P.l.got, tBB gr P.r.got]) [3, 4, 5, 6, 7, 8, 9, 10, 11] (by decide) rfl
          have he : P.tick lose dbl = ⟨⟨ql.2, gsl, P.l.off, P.l.got⟩, ⟨qr.2, gsr, P.r.off, P.r.got⟩⟩ := by rw [HGL.out, HGR.out, HQL.out, HQR.out]; rfl
          rw [he]
          exact Held.pair_shut (P := ⟨⟨ql.2, gsl, P.l.off, P.l.got⟩, ⟨qr.2, gsr, P.r.off, P.r.got⟩⟩) (v := ⟨pl, pr, .slice la gsl.length lc, .slice ra gsr.length rc, ol, or', gl, gr⟩) h9
        · --d
          have hrow := HK.out.blk 3 rfl
          have cf := fun i => blk_free hrow i
          have cx := blk_cell (i := 2) hrow rfl
          have hsr := HK.out.blk 0 rfl
          have d0 := blk_cell (i := 0) hsr rfl
          have hne := HK.out.apart 0 3 (by decide) rfl rfl (fun _ _ h => h.2) (fun _ _ h => h.2)
          have h3 := ((HK.out.set 3 rfl (pairRow ⟨pl, pr, .slice none 0 0, .slice fra P.r.fly.length frc, ol, or', gl, gr⟩) (w' := wr.setCell ⟨x, 2, none⟩ (.slice none 0 0)) (by (repeat (first | (with_reducible exact Fr.refl _ _) | exact Or.inl rfl | (with_reducible refine Fr.setCell ?_ ?_ _) | (with_reducible refine Fr.drewN ?_ _) | (with_reducible refine Fr.drew ?_)))) (by (apply row_trans; focus (repeat (first | (with_reducible exact hrow) | (with_reducible apply row_set) | (with_reducible apply row_drewN) | (with_reducible apply row_drew)))); rfl)).pickL (us := [tBlk sb (sentRow (.slice ua ql.1.length uc) (.slice va qr.1.length vc)), tRd ePt (.slice ua ql.1.length uc) ql.1, tRd ePt (.slice va qr.1.length vc) qr.1, tBlk x (pairRow ⟨pl, pr, .slice none 0 0, .slice fra P.r.fly.length frc, ol, or', gl, gr⟩), tPort pl ql.2, tPort pr qr.2, tRd ePt (.slice fla P.l.fly.length flc) P.l.fly, tRd ePt (.slice fra P.r.fly.length frc) P.r.fly, tBB ol P.l.off, tBB or' P.r.off, tBB gl P.l.got, tBB gr P.r.got]) (vs := [tBlk sb (sentRow (.slice ua ql.1.length uc) (.slice va qr.1.length vc)), tRd ePt (.slice ua ql.1.length uc) ql.1, tRd ePt (.slice va qr.1.length vc) qr.1, tBlk x (pairRow ⟨pl, pr, .slice none 0 0, .slice fra P.r.fly.length frc, ol, or', gl, gr⟩), tPort pl ql.2, tPort pr qr.2, tRd ePt (.slice fra P.r.fly.length frc) P.r.fly, tBB ol P.l.off, tBB or' P.r.off, tBB gl P.l.got, tBB gr P.r.got]) [0, 1, 2, 3, 4, 5, 7, 8, 9, 10, 11] (by decide) rfl).adds0 (E := ePt) (T := 33)
          have H3 := Lib.hid h3
          clear h3 hrow hsr HK
          go_wp2_with fail
          obtain ⟨w3, hw3⟩ : ∃ w3, w3 = wr.setCell ⟨x, 2, none⟩ (.slice none 0 0) := ⟨_, rfl⟩
          rw [← hw3] at H3 ⊢
          clear hw3 cf cx
          go_loopw [44, 8] (fun j k wr => ∃ (m : Nat) (fs : List Pt) (fa : Option Addr) (fc : Nat), m ≤ ql.1.length ∧ j = .int .i64 (m : Int) ∧ k = .int .i64 ((0 + m : Nat) : Int) ∧ Hid (fs = sift lose dbl 0 (ql.1.take m)) ∧ fs.length ≤ 2 * m ∧ Hid (Held F Z W (tSq ePt 33 (.slice fa fs.length fc) fs :: [tBlk sb (sentRow (.slice ua ql.1.length uc) (.slice va qr.1.length vc)), tRd ePt (.slice ua ql.1.length uc) ql.1, tRd ePt (.slice va qr.1.length vc) qr.1, tBlk x (pairRow ⟨pl, pr, .slice fa fs.length fc, .slice fra P.r.fly.length frc, ol, or', gl, gr⟩), tPort pl ql.2, tPort pr qr.2, tRd ePt (.slice fra P.r.fly.length frc) P.r.fly, tBB ol P.l.off, tBB or' P.r.off, tBB gl P.l.got, tBB gr P.r.got] ++ ts) wr)) (fun j _ _ => ql.1.length - (intOf j).toNat)
          case atStart => exact ⟨0, [], none, 0, Nat.zero_le _, rfl, by simp, Lib.hid rfl, Nat.le_refl _, H3⟩
          case round =>
            clear H3
            obtain ⟨m, fs, fa, fc, hm, rfl, rfl, HFS, hfl2, HK⟩ := hrel
            by_cases hlt : m < ql.1.length
            · obtain ⟨y, hy⟩ : ∃ y, ql.1[m]? = some y := ⟨_, List.getElem?_eq_getElem hlt⟩
              have HTK := Lib.hid (sift_take lose dbl ql.1 0 m y hy)
              obtain ⟨_, _, hrd⟩ := HK.out.get 2 rfl
              obtain ⟨b, off, pa, pc, e1, hby, k0, k1, k2, k3, k4⟩ := pt_at (show RdS ePt wr _ (.slice ua ql.1.length uc) ql.1 from hrd) hy
              subst e1
              obtain ⟨kk, hkk⟩ : ∃ kk, kk = 0 + m := ⟨_, rfl⟩
              have hq5 : ql.1.length ≤ 5 := HQS.out.1
              have hkb : kk ≤ 10 := by have := HQS.out; omega
              have HKK := Lib.hid hkk
              rw [← hkk] at HTK ⊢
              obtain ⟨vb, hvb⟩ : ∃ vb, vb = wr.heap.size := ⟨_, rfl⟩
              have HV := Lib.hid ((((HK.out.also 2 (T := tRd ePt (.slice (some ⟨b, off, none⟩) ql.1.length uc) ql.1) (T' := tBy (.slice pa y.pay.length pc) y.pay) rfl fun G Y hr => by
                obtain ⟨b', off', pa', pc', e', hby', _, _, _, _, k4'⟩ := pt_at (show RdS ePt wr Y (.slice (some ⟨b, off, none⟩) ql.1.length uc) ql.1 from hr) hy
                obtain ⟨rfl, rfl⟩ : b = b' ∧ off = off' := by simpa using e'
                rw [k4] at k4'
                obtain ⟨rfl, rfl⟩ : pa = pa' ∧ pc = pc' := by simpa using k4'
                exact hby').front).new (ptCells y (.slice pa y.pay.length pc))).front)
              rw [← hvb] at HV
              have HVB := Lib.hid hvb
              have hfl3 : fs.length ≤ 1000000 := by have := HQS.out; omega
              have HY := Lib.hid hy
              clear hrd hby hkk hy hvb
              by_cases hb1 : lose >>> (kk % 16) % 2 = 0
              · rw [if_pos hb1] at HTK
                have hq1 := bit_yes lose (kk % 16) hb1
                clear hb1
                go_wp2_with fail
                rw [← HVB.out]
                obtain ⟨w4, hw4⟩ : ∃ w4, w4 = wr.alloc (ptCells y (.slice pa y.pay.length pc)) := ⟨_, rfl⟩
                rw [← hw4] at HV ⊢
                clear hw4
                have hrv := HV.out.blk 0 rfl
                have hrx := HV.out.blk 6 rfl
                have hcx := blk_cell (i := 2) hrx rfl
                clear hrx
                refine wp_region_held_drew (S := fun w' => w'.heap[vb]? = some (ptCells y (.slice pa y.pay.length pc))) (by kernel_rfl) hrv (fun hS0 => ?_)
                change wpAnyH _ _ _ _ _ (8 + 7) _ _ _
                refine wpAnyH_take_n 0 7 (by kernel_rfl) hS0 (fun _ _ _ _ _ h => h) ?_
                simp only [List.drop_zero, List.take_succ_cons, List.take_zero]
                iterate 7 (refine wpFirst_val (v := ?_) (by rfl) ?_ ?_; rotate_left 1; (focus ((intro w' hS'; go_simp); try with_reducible rfl)); simp only [Act.put, List.setIfInBounds_toArray, List.set_cons_zero, List.set_cons_succ])
                refine wpFirst_nil ?_
                change wpAnyH _ _ _ _ _ (7 + 1) _ _ _
                refine wpAnyH_take_n 8 1 (by kernel_rfl) hS0 (fun _ _ _ _ _ h => h) ?_
                simp only [List.drop_succ_cons, List.drop_zero, List.take_succ_cons, List.take_zero]
                (refine wpFirst_val (v := ?_) (by rfl) ?_ ?_; rotate_left 1; (focus ((intro w' hS'; obtain ⟨q0, q1, q2, q3, q4⟩ := pt_cells hS'; go_simp); try with_reducible rfl)); simp only [Act.put, List.setIfInBounds_toArray, List.set_cons_zero, List.set_cons_succ])
                refine wpFirst_nil ?_
                change wpAnyH _ _ _ _ _ (5 + 2) _ _ _
                refine wpAnyH_take_n 11 2 (by kernel_rfl) hS0 (fun _ _ _ _ _ h => h) ?_
                simp only [List.drop_succ_cons, List.drop_zero, List.take_succ_cons, List.take_zero]
                iterate 2 (refine wpFirst_val (v := ?_) (by rfl) ?_ ?_; rotate_left 1; (focus ((intro w' hS'; go_simp); try with_reducible rfl)); simp only [Act.put, List.setIfInBounds_toArray, List.set_cons_zero, List.set_cons_succ])
                refine wpFirst_nil ?_
                have hcd : w4.drew.cell? ⟨x, 2, none⟩ = some (.slice fa fs.length fc) := hcx
                have HVD := Lib.hid (HV.out.drew)
                clear HV hcx hrv
                obtain ⟨wd, hwd⟩ : ∃ wd, wd = w4.drew := ⟨_, rfl⟩
                rw [← hwd] at hcd HVD hS0 ⊢
                clear hwd
                have hca : (wd.alloc (ptCells y (.slice pa y.pay.length pc))).cell? ⟨x, 2, none⟩ = some (.slice fa fs.length fc) := alloc_cell _ _ hcd
                have hSa : (wd.alloc (ptCells y (.slice pa y.pay.length pc))).heap[vb]? = some (ptCells y (.slice pa y.pay.length pc)) := (Below.heap_alloc _ _ _ (lt_of_block hS0)).trans hS0
                refine wpAnyH_two 7 9 (by kernel_rfl) rfl rfl (fun K hK => ?_) (fun K hK => ?_)
                focus
                  go_simp
                  refine hK.out _ _ hS0 ?_
                  clear hK K
                  refine wpAnyH_one 9 (by kernel_rfl) rfl (fun K hK => ?_)
                  go_simp
                  refine hK.out _ _ hSa ?_
                  clear hK K
                rotate_left
                focus
                  go_simp
                  refine hK.out _ _ hSa ?_
                  clear hK K
                  refine wpAnyH_one 7 (by kernel_rfl) rfl (fun K hK => ?_)
                  go_simp
                  refine hK.out _ _ hSa ?_
                  clear hK K
                all_goals
                  refine wpAnyH_one 10 (by kernel_rfl) rfl (fun K hK => ?_)
                  refine step_app_pt (xs := fs) (x := y) (pa := pa) (pn := y.pay.length) (pc := pc) rfl _ _ rfl HVD.out 2 rfl ?_ (below_alloc wd _) (by omega) rfl wd.heap.size rfl (heap_alloc_new wd _) ?_
                  focus
                    exact fun Y hoth => (hoth 1 (tBy (.slice pa y.pay.length pc) y.pay) (by decide) rfl).choose_spec.2
                  intro xa xc w5 h5
                  simp only [Act.put, List.setIfInBounds_toArray, List.set_cons_zero, List.set_cons_succ]
                  have hr5 := h5.blk 0 rfl
                  have hx5 := h5.blk 6 rfl
                  have cf5 := fun i => blk_free hx5 i
                  have cx5 := blk_cell (i := 2) hx5 rfl
                  have hne5 := h5.apart 0 6 (by decide) rfl rfl (fun _ _ h => h.2) (fun _ _ h => h.2)
                  have h6 := h5.set 6 rfl (pairRow ⟨pl, pr, .slice xa (fs ++ [y]).length xc, .slice fra P.r.fly.length frc, ol, or', gl, gr⟩) (w' := w5.setCell ⟨x, 2, none⟩ (.slice xa (fs ++ [y]).length xc)) (by (repeat (first | (with_reducible exact Fr.refl _ _) | exact Or.inl rfl | (with_reducible refine Fr.setCell ?_ ?_ _) | (with_reducible refine Fr.drewN ?_ _) | (with_reducible refine Fr.drew ?_)))) (by (apply row_trans; focus (repeat (first | (with_reducible exact hx5) | (with_reducible apply row_set) | (with_reducible apply row_drewN) | (with_reducible apply row_drew)))); rfl)
                  have hlen : (fs ++ [y]).length = fs.length + 1 := by simp
                  rw [hlen] at h6
                  have H6 := Lib.hid h6
                  clear h5 h6 hx5 HVD hSa hca hcd hS0
                  refine hK.out _ _ hr5 ?_
                  clear hK K
                  refine wpAnyH_one 13 (by kernel_rfl) rfl (fun K hK => ?_)
                  go_simp
                  refine hK.out _ _ hr5 ?_
                  clear hK K
                  refine wpAnyH_one 14 (by kernel_rfl) rfl (fun K hK => ?_)
                  go_simp
                  refine hK.out _ _ ((heap_setCell_other w5 ⟨x, _, none⟩ vb _ hne5).trans hr5) ?_
                  clear hK K hr5 cf5 cx5
                  refine wpAnyH_done (by kernel_rfl) ?_ _
                  obtain ⟨w6, hw6⟩ : ∃ w6, w6 = w5.setCell ⟨x, 2, none⟩ (.slice xa (fs.length + 1) xc) := ⟨_, rfl⟩
                  rw [← hw6] at H6 ⊢
                  clear hw6
                  obtain ⟨gs, hgs⟩ : ∃ zs, zs = fs ++ [y] := ⟨_, rfl⟩
                  have hgl : fs.length + 1 = gs.length := by rw [hgs]; simp
                  have HGS := Lib.hid hgs
                  rw [hgl, ← hgs] at H6
                  rw [hgl]
                  have hfl_gs : gs.length ≤ 2 * m + 1 := by omega
                  clear hgl hlen hgs
                  by_cases hb2 : dbl >>> (kk % 16) % 2 = 1
                  · rw [if_pos hb2] at HTK
                    have hq2 := bit_yes1 dbl (kk % 16) hb2
                    clear hb2
                    go_wp2_with fail
                    obtain ⟨w4, hw4⟩ : ∃ w4, w4 = w6 := ⟨_, rfl⟩
                    rw [← hw4] at H6 ⊢
                    clear hw4
                    have hrv := H6.out.blk 0 rfl
                    have hrx := H6.out.blk 6 rfl
                    have hcx := blk_cell (i := 2) hrx rfl
                    clear hrx
                    refine wp_region_held_drew (S := fun w' => w'.heap[vb]? = some (ptCells y (.slice pa y.pay.length pc))) (by kernel_rfl) hrv (fun hS0 => ?_)
                    change wpAnyH _ _ _ _ _ (8 + 7) _ _ _
                    refine wpAnyH_take_n 0 7 (by kernel_rfl) hS0 (fun _ _ _ _ _ h => h) ?_
                    simp only [List.drop_zero, List.take_succ_cons, List.take_zero]
                    iterate 7 (refine wpFirst_val (v := ?_) (by rfl) ?_ ?_; rotate_left 1; (focus ((intro w' hS'; go_simp); try with_reducible rfl)); simp only [Act.put, List.setIfInBounds_toArray, List.set_cons_zero, List.set_cons_succ])
                    refine wpFirst_nil ?_
                    change wpAnyH _ _ _ _ _ (7 + 1) _ _ _
                    refine wpAnyH_take_n 8 1 (by kernel_rfl) hS0 (fun _ _ _ _ _ h => h) ?_
                    simp only [List.drop_succ_cons, List.drop_zero, List.take_succ_cons, List.take_zero]
                    (refine wpFirst_val (v := ?_) (by rfl) ?_ ?_; rotate_left 1; (focus ((intro w' hS'; obtain ⟨q0, q1, q2, q3, q4⟩ := pt_cells hS'; go_simp); try with_reducible rfl)); simp only [Act.put, List.setIfInBounds_toArray, List.set_cons_zero, List.set_cons_succ])
                    refine wpFirst_nil ?_
                    change wpAnyH _ _ _ _ _ (5 + 2) _ _ _
                    refine wpAnyH_take_n 11 2 (by kernel_rfl) hS0 (fun _ _ _ _ _ h => h) ?_
                    simp only [List.drop_succ_cons, List.drop_zero, List.take_succ_cons, List.take_zero]
                    iterate 2 (refine wpFirst_val (v := ?_) (by rfl) ?_ ?_; rotate_left 1; (focus ((intro w' hS'; go_simp); try with_reducible rfl)); simp only [Act.put, List.setIfInBounds_toArray, List.set_cons_zero, List.set_cons_succ])
                    refine wpFirst_nil ?_
                    have hcd : w4.drew.cell? ⟨x, 2, none⟩ = some (.slice xa gs.length xc) := hcx
                    have HVD := Lib.hid (H6.out.drew)
                    clear H6 hcx hrv
                    obtain ⟨wd, hwd⟩ : ∃ wd, wd = w4.drew := ⟨_, rfl⟩
                    rw [← hwd] at hcd HVD hS0 ⊢
                    clear hwd
                    have hca : (wd.alloc (ptCells y (.slice pa y.pay.length pc))).cell? ⟨x, 2, none⟩ = some (.slice xa gs.length xc) := alloc_cell _ _ hcd
                    have hSa : (wd.alloc (ptCells y (.slice pa y.pay.length pc))).heap[vb]? = some (ptCells y (.slice pa y.pay.length pc)) := (Below.heap_alloc _ _ _ (lt_of_block hS0)).trans hS0
                    refine wpAnyH_two 7 9 (by kernel_rfl) rfl rfl (fun K hK => ?_) (fun K hK => ?_)
                    focus
                      go_simp
                      refine hK.out _ _ hS0 ?_
                      clear hK K
                      refine wpAnyH_one 9 (by kernel_rfl) rfl (fun K hK => ?_)
                      go_simp
                      refine hK.out _ _ hSa ?_
                      clear hK K
                    rotate_left
                    focus
                      go_simp
                      refine hK.out _ _ hSa ?_
                      clear hK K
                      refine wpAnyH_one 7 (by kernel_rfl) rfl (fun K hK => ?_)
                      go_simp
                      refine hK.out _ _ hSa ?_
                      clear hK K
                    all_goals
                      refine wpAnyH_one 10 (by kernel_rfl) rfl (fun K hK => ?_)
                      refine step_app_pt (xs := gs) (x := y) (pa := pa) (pn := y.pay.length) (pc := pc) rfl _ _ rfl HVD.out 2 rfl ?_ (below_alloc wd _) (by omega) rfl wd.heap.size rfl (heap_alloc_new wd _) ?_
                      focus
                        exact fun Y hoth => (hoth 1 (tBy (.slice pa y.pay.length pc) y.pay) (by decide) rfl).choose_spec.2
                      intro xa xc w5 h5
                      simp only [Act.put, List.setIfInBounds_toArray, List.set_cons_zero, List.set_cons_succ]
                      have hr5 := h5.blk 0 rfl
                      have hx5 := h5.blk 6 rfl
                      have cf5 := fun i => blk_free hx5 i
                      have cx5 := blk_cell (i := 2) hx5 rfl
                      have hne5 := h5.apart 0 6 (by decide) rfl rfl (fun _ _ h => h.2) (fun _ _ h => h.2)
                      have h6 := h5.set 6 rfl (pairRow ⟨pl, pr, .slice xa (gs ++ [y]).length xc, .slice fra P.r.fly.length frc, ol, or', gl, gr⟩) (w' := w5.setCell ⟨x, 2, none⟩ (.slice xa (gs ++ [y]).length xc)) (by (repeat (first | (with_reducible exact Fr.refl _ _) | exact Or.inl rfl | (with_reducible refine Fr.setCell ?_ ?_ _) | (with_reducible refine Fr.drewN ?_ _) | (with_reducible refine Fr.drew ?_)))) (by (apply row_trans; focus (repeat (first | (with_reducible exact hx5) | (with_reducible apply row_set) | (with_reducible apply row_drewN) | (with_reducible apply row_drew)))); rfl)
                      have hlen : (gs ++ [y]).length = gs.length + 1 := by simp
                      rw [hlen] at h6
                      have H6 := Lib.hid h6
                      clear h5 h6 hx5 HVD hSa hca hcd hS0
                      refine hK.out _ _ hr5 ?_
                      clear hK K
                      refine wpAnyH_one 13 (by kernel_rfl) rfl (fun K hK => ?_)
                      go_simp
                      refine hK.out _ _ hr5 ?_
                      clear hK K
                      refine wpAnyH_one 14 (by kernel_rfl) rfl (fun K hK => ?_)
                      go_simp
                      refine hK.out _ _ ((heap_setCell_other w5 ⟨x, _, none⟩ vb _ hne5).trans hr5) ?_
                      clear hK K hr5 cf5 cx5
                      refine wpAnyH_done (by kernel_rfl) ?_ _
                      obtain ⟨w6, hw6⟩ : ∃ w6, w6 = w5.setCell ⟨x, 2, none⟩ (.slice xa (gs.length + 1) xc) := ⟨_, rfl⟩
                      rw [← hw6] at H6 ⊢
                      clear hw6
                      obtain ⟨hs, hgs⟩ : ∃ zs, zs = gs ++ [y] := ⟨_, rfl⟩
                      have hgl : gs.length + 1 = hs.length := by rw [hgs]; simp
                      have HHS := Lib.hid hgs
                      rw [hgl, ← hgs] at H6
                      rw [hgl]
                      have hfl_hs : hs.length ≤ 2 * m + 2 := by omega
                      clear hgl hlen hgs
                      go_wp2_with fail
                      go_roundw
                      case rel => exact ⟨m + 1, hs, xa, xc, by omega, by go_num, by rw [show 0 + (m + 1) = kk + 1 by rw [HKK.out]; omega]; go_num, Lib.hid (by rw [HTK.out, HHS.out, HGS.out, HFS.out, List.append_assoc]; rfl), by omega, Lib.hid H6.out.tail.tail⟩
                      case measure => simp [intOf]; omega
                  · rw [if_neg hb2] at HTK
                    have hq2 := bit_no1 dbl (kk % 16) hb2
                    clear hb2
                    go_wp2_with fail
                    go_roundw
                    case rel => exact ⟨m + 1, gs, xa, xc, by omega, by go_num, by rw [show 0 + (m + 1) = kk + 1 by rw [HKK.out]; omega]; go_num, Lib.hid (by rw [HTK.out, HGS.out, HFS.out]), by omega, Lib.hid H6.out.tail.tail⟩
                    case measure => simp [intOf]; omega
              · rw [if_neg hb1, List.append_nil] at HTK
                have hq1 := bit_no lose (kk % 16) hb1
                clear hb1
                go_wp2_with fail
                go_roundw
                case rel => exact ⟨m + 1, fs, fa, fc, by omega, by go_num, by rw [show 0 + (m + 1) = kk + 1 by rw [HKK.out]; omega]; go_num, Lib.hid (by rw [HTK.out]; exact HFS.out), by omega, Lib.hid HV.out.tail.tail⟩
                case measure => simp [intOf]; omega
            · obtain rfl : ql.1.length = m := by omega
              have hq5 : ql.1.length ≤ 5 := HQS.out.1
              have HFE := Lib.hid (show fs = sift lose dbl 0 ql.1 by rw [HFS.out, List.take_length])
              have h7 := (HK.out.freeze 0 rfl ePt_rd).pickL (us := [tRd ePt (.slice fa fs.length fc) fs, tBlk sb (sentRow (.slice ua ql.1.length uc) (.slice va qr.1.length vc)), tRd ePt (.slice ua ql.1.length uc) ql.1, tRd ePt (.slice va qr.1.length vc) qr.1, tBlk x (pairRow ⟨pl, pr, .slice fa fs.length fc, .slice fra P.r.fly.length frc, ol, or', gl, gr⟩), tPort pl ql.2, tPort pr qr.2, tRd ePt (.slice fra P.r.fly.length frc) P.r.fly, tBB ol P.l.off, tBB or' P.r.off, tBB gl P.l.got, tBB gr P.r.got]) (vs := [tBlk sb (sentRow (.slice ua ql.1.length uc) (.slice va qr.1.length vc)), tRd ePt (.slice ua ql.1.length uc) ql.1, tRd ePt (.slice va qr.1.length vc) qr.1, tBlk x (pairRow ⟨pl, pr, .slice fa fs.length fc, .slice fra P.r.fly.length frc, ol, or', gl, gr⟩), tPort pl ql.2, tPort pr qr.2, tRd ePt (.slice fa fs.length fc) fs, tRd ePt (.slice fra P.r.fly.length frc) P.r.fly, tBB ol P.l.off, tBB or' P.r.off, tBB gl P.l.got, tBB gr P.r.got]) [1, 2, 3, 4, 5, 6, 0, 7, 8, 9, 10, 11] (by decide) rfl
              have H7 := Lib.hid h7
              clear h7 HK
              go_wp2_with fail
              go_roundw
              case rel => exact .inr (.inl ⟨by go_num, by simp, fs, fa, fc, HFE, H7⟩)
              case measure => simp [intOf]
        · --e
          have hrow := HK.out.blk 3 rfl
          have cf := fun i => blk_free hrow i
          have cx := blk_cell (i := 3) hrow rfl
          have hsr := HK.out.blk 0 rfl
          have d1 := blk_cell (i := 1) hsr rfl
          have hne := HK.out.apart 0 3 (by decide) rfl rfl (fun _ _ h => h.2) (fun _ _ h => h.2)
          have h3 := ((HK.out.set 3 rfl (pairRow ⟨pl, pr, .slice la gsl.length lc, .slice none 0 0, ol, or', gl, gr⟩) (w' := wr.setCell ⟨x, 3, none⟩ (.slice none 0 0)) (by (repeat (first | (with_reducible exact Fr.refl _ _) | exact Or.inl rfl | (with_reducible refine Fr.setCell ?_ ?_ _) | (with_reducible refine Fr.drewN ?_ _) | (with_reducible refine Fr.drew ?_)))) (by (apply row_trans; focus (repeat (first | (with_reducible exact hrow) | (with_reducible apply row_set) | (with_reducible apply row_drewN) | (with_reducible apply row_drew)))); rfl)).pickL (us := [tBlk sb (sentRow (.slice ua ql.1.length uc) (.slice va qr.1.length vc)), tRd ePt (.slice ua ql.1.length uc) ql.1, tRd ePt (.slice va qr.1.length vc) qr.1, tBlk x (pairRow ⟨pl, pr, .slice la gsl.length lc, .slice none 0 0, ol, or', gl, gr⟩), tPort pl ql.2, tPort pr qr.2, tRd ePt (.slice la gsl.length lc) gsl, tRd ePt (.slice fra P.r.fly.length frc) P.r.fly, tBB ol P.l.off, tBB or' P.r.off, tBB gl P.l.got, tBB gr P.r.got]) (vs := [tBlk sb (sentRow (.slice ua ql.1.length uc) (.slice va qr.1.length vc)), tRd ePt (.slice ua ql.1.length uc) ql.1, tRd ePt (.slice va qr.1.length vc) qr.1, tBlk x (pairRow ⟨pl, pr, .slice la gsl.length lc, .slice none 0 0, ol, or', gl, gr⟩), tPort pl ql.2, tPort pr qr.2, tRd ePt (.slice la gsl.length lc) gsl, tBB ol P.l.off, tBB or' P.r.off, tBB gl P.l.got, tBB gr P.r.got]) [0, 1, 2, 3, 4, 5, 6, 8, 9, 10, 11] (by decide) rfl).adds0 (E := ePt) (T := 33)
          have H3 := Lib.hid h3
          clear h3 hrow hsr HK
          go_wp2_with fail
          obtain ⟨w3, hw3⟩ : ∃ w3, w3 = wr.setCell ⟨x, 3, none⟩ (.slice none 0 0) := ⟨_, rfl⟩
          rw [← hw3] at H3 ⊢
          clear hw3 cf cx
          go_loopw [44, 8] (fun j k wr => ∃ (m : Nat) (fs : List Pt) (fa : Option Addr) (fc : Nat), m ≤ qr.1.length ∧ j = .int .i64 (m : Int) ∧ k = .int .i64 ((ql.1.length + m : Nat) : Int) ∧ Hid (fs = sift lose dbl ql.1.length (qr.1.take m)) ∧ fs.length ≤ 2 * m ∧ Hid (Held F Z W (tSq ePt 33 (.slice fa fs.length fc) fs :: [tBlk sb (sentRow (.slice ua ql.1.length uc) (.slice va qr.1.length vc)), tRd ePt (.slice ua ql.1.length uc) ql.1, tRd ePt (.slice va qr.1.length vc) qr.1, tBlk x (pairRow ⟨pl, pr, .slice la gsl.length lc, .slice fa fs.length fc, ol, or', gl, gr⟩), tPort pl ql.2, tPort pr qr.2, tRd ePt (.slice la gsl.length lc) gsl, tBB ol P.l.off, tBB or' P.r.off, tBB gl P.l.got, tBB gr P.r.got] ++ ts) wr)) (fun j _ _ => qr.1.length - (intOf j).toNat)
          case atStart => exact ⟨0, [], none, 0, Nat.zero_le _, rfl, by simp, Lib.hid rfl, Nat.le_refl _, H3⟩
          case round =>
            clear H3
            obtain ⟨m, fs, fa, fc, hm, rfl, rfl, HFS, hfl2, HK⟩ := hrel
            by_cases hlt : m < qr.1.length
            · obtain ⟨y, hy⟩ : ∃ y, qr.1[m]? = some y := ⟨_, List.getElem?_eq_getElem hlt⟩
              have HTK := Lib.hid (sift_take lose dbl qr.1 ql.1.length m y hy)
              obtain ⟨_, _, hrd⟩ := HK.out.get 3 rfl
              obtain ⟨b, off, pa, pc, e1, hby, k0, k1, k2, k3, k4⟩ := pt_at (show RdS ePt wr _ (.slice va qr.1.length vc) qr.1 from hrd) hy
              subst e1
              obtain ⟨kk, hkk⟩ : ∃ kk, kk = ql.1.length + m := ⟨_, rfl⟩
              have hq5 : qr.1.length ≤ 5 := HQS.out.2
              have hkb : kk ≤ 10 := by have := HQS.out; omega
              have HKK := Lib.hid hkk
              rw [← hkk] at HTK ⊢
              obtain ⟨vb, hvb⟩ : ∃ vb, vb = wr.heap.size := ⟨_, rfl⟩
              have HV := Lib.hid ((((HK.out.also 3 (T := tRd ePt (.slice (some ⟨b, off, none⟩) qr.1.length vc) qr.1) (T' := tBy (.slice pa y.pay.length pc) y.pay) rfl fun G Y hr => by
                obtain ⟨b', off', pa', pc', e', hby', _, _, _, _, k4'⟩ := pt_at (show RdS ePt wr Y (.slice (some ⟨b, off, none⟩) qr.1.length vc) qr.1 from hr) hy
                obtain ⟨rfl, rfl⟩ : b = b' ∧ off = off' := by simpa using e'
                rw [k4] at k4'
                obtain ⟨rfl, rfl⟩ : pa = pa' ∧ pc = pc' := by simpa using k4'
                exact hby').front).new (ptCells y (.slice pa y.pay.length pc))).front)
              rw [← hvb] at HV
              have HVB := Lib.hid hvb
              have hfl3 : fs.length ≤ 1000000 := by have := HQS.out; omega
              have HY := Lib.hid hy
              clear hrd hby hkk hy hvb
              by_cases hb1 : lose >>> (kk % 16) % 2 = 0
              · rw [if_pos hb1] at HTK
                have hq1 := bit_yes lose (kk % 16) hb1
                clear hb1
                go_wp2_with fail
                rw [← HVB.out]
                obtain ⟨w4, hw4⟩ : ∃ w4, w4 = wr.alloc (ptCells y (.slice pa y.pay.length pc)) := ⟨_, rfl⟩
                rw [← hw4] at HV ⊢
                clear hw4
                have hrv := HV.out.blk 0 rfl
                have hrx := HV.out.blk 6 rfl
                have hcx := blk_cell (i := 3) hrx rfl
                clear hrx
                refine wp_region_held_drew (S := fun w' => w'.heap[vb]? = some (ptCells y (.slice pa y.pay.length pc))) (by kernel_rfl) hrv (fun hS0 => ?_)
                change wpAnyH _ _ _ _ _ (8 + 7) _ _ _
                refine wpAnyH_take_n 0 7 (by kernel_rfl) hS0 (fun _ _ _ _ _ h => h) ?_
                simp only [List.drop_zero, List.take_succ_cons, List.take_zero]
                iterate 7 (refine wpFirst_val (v := ?_) (by rfl) ?_ ?_; rotate_left 1; (focus ((intro w' hS'; go_simp); try with_reducible rfl)); simp only [Act.put, List.setIfInBounds_toArray, List.set_cons_zero, List.set_cons_succ])
                refine wpFirst_nil ?_
                change wpAnyH _ _ _ _ _ (7 + 1) _ _ _
                refine wpAnyH_take_n 8 1 (by kernel_rfl) hS0 (fun _ _ _ _ _ h => h) ?_
                simp only [List.drop_succ_cons, List.drop_zero, List.take_succ_cons, List.take_zero]
                (refine wpFirst_val (v := ?_) (by rfl) ?_ ?_; rotate_left 1; (focus ((intro w' hS'; obtain ⟨q0, q1, q2, q3, q4⟩ := pt_cells hS'; go_simp); try with_reducible rfl)); simp only [Act.put, List.setIfInBounds_toArray, List.set_cons_zero, List.set_cons_succ])
                refine wpFirst_nil ?_
                change wpAnyH _ _ _ _ _ (5 + 2) _ _ _
                refine wpAnyH_take_n 11 2 (by kernel_rfl) hS0 (fun _ _ _ _ _ h => h) ?_
                simp only [List.drop_succ_cons, List.drop_zero, List.take_succ_cons, List.take_zero]
                iterate 2 (refine wpFirst_val (v := ?_) (by rfl) ?_ ?_; rotate_left 1; (focus ((intro w' hS'; go_simp); try with_reducible rfl)); simp only [Act.put, List.setIfInBounds_toArray, List.set_cons_zero, List.set_cons_succ])
                refine wpFirst_nil ?_
                have hcd : w4.drew.cell? ⟨x, 3, none⟩ = some (.slice fa fs.length fc) := hcx
                have HVD := Lib.hid (HV.out.drew)
                clear HV hcx hrv
                obtain ⟨wd, hwd⟩ : ∃ wd, wd = w4.drew := ⟨_, rfl⟩
                rw [← hwd] at hcd HVD hS0 ⊢
                clear hwd
                have hca : (wd.alloc (ptCells y (.slice pa y.pay.length pc))).cell? ⟨x, 3, none⟩ = some (.slice fa fs.length fc) := alloc_cell _ _ hcd
                have hSa : (wd.alloc (ptCells y (.slice pa y.pay.length pc))).heap[vb]? = some (ptCells y (.slice pa y.pay.length pc)) := (Below.heap_alloc _ _ _ (lt_of_block hS0)).trans hS0
                refine wpAnyH_two 7 9 (by kernel_rfl) rfl rfl (fun K hK => ?_) (fun K hK => ?_)
                focus
                  go_simp
                  refine hK.out _ _ hS0 ?_
                  clear hK K
                  refine wpAnyH_one 9 (by kernel_rfl) rfl (fun K hK => ?_)
                  go_simp
                  refine hK.out _ _ hSa ?_
                  clear hK K
                rotate_left
                focus
                  go_simp
                  refine hK.out _ _ hSa ?_
                  clear hK K
                  refine wpAnyH_one 7 (by kernel_rfl) rfl (fun K hK => ?_)
                  go_simp
                  refine hK.out _ _ hSa ?_
                  clear hK K
                all_goals
                  refine wpAnyH_one 10 (by kernel_rfl) rfl (fun K hK => ?_)
                  refine step_app_pt (xs := fs) (x := y) (pa := pa) (pn := y.pay.length) (pc := pc) rfl _ _ rfl HVD.out 2 rfl ?_ (below_alloc wd _) (by omega) rfl wd.heap.size rfl (heap_alloc_new wd _) ?_
                  focus
                    exact fun Y hoth => (hoth 1 (tBy (.slice pa y.pay.length pc) y.pay) (by decide) rfl).choose_spec.2
                  intro xa xc w5 h5
                  simp only [Act.put, List.setIfInBounds_toArray, List.set_cons_zero, List.set_cons_succ]
                  have hr5 := h5.blk 0 rfl
                  have hx5 := h5.blk 6 rfl
                  have cf5 := fun i => blk_free hx5 i
                  have cx5 := blk_cell (i := 3) hx5 rfl
                  have hne5 := h5.apart 0 6 (by decide) rfl rfl (fun _ _ h => h.2) (fun _ _ h => h.2)
                  have h6 := h5.set 6 rfl (pairRow ⟨pl, pr, .slice la gsl.length lc, .slice xa (fs ++ [y]).length xc, ol, or', gl, gr⟩) (w' := w5.setCell ⟨x, 3, none⟩ (.slice xa (fs ++ [y]).length xc)) (by (repeat (first | (with_reducible exact Fr.refl _ _) | exact Or.inl rfl | (with_reducible refine Fr.setCell ?_ ?_ _) | (with_reducible refine Fr.drewN ?_ _) | (with_reducible refine Fr.drew ?_)))) (by (apply row_trans; focus (repeat (first | (with_reducible exact hx5) | (with_reducible apply row_set) | (with_reducible apply row_drewN) | (with_reducible apply row_drew)))); rfl)
                  have hlen : (fs ++ [y]).length = fs.length + 1 := by simp
                  rw [hlen] at h6
                  have H6 := Lib.hid h6
                  clear h5 h6 hx5 HVD hSa hca hcd hS0
                  refine hK.out _ _ hr5 ?_
                  clear hK K
                  refine wpAnyH_one 13 (by kernel_rfl) rfl (fun K hK => ?_)
                  go_simp
                  refine hK.out _ _ hr5 ?_
                  clear hK K
                  refine wpAnyH_one 14 (by kernel_rfl) rfl (fun K hK => ?_)
                  go_simp
                  refine hK.out _ _ ((heap_setCell_other w5 ⟨x, _, none⟩ vb _ hne5).trans hr5) ?_
                  clear hK K hr5 cf5 cx5
                  refine wpAnyH_done (by kernel_rfl) ?_ _
                  obtain ⟨w6, hw6⟩ : ∃ w6, w6 = w5.setCell ⟨x, 3, none⟩ (.slice xa (fs.length + 1) xc) := ⟨_, rfl⟩
                  rw [← hw6] at H6 ⊢
                  clear hw6
                  obtain ⟨gs, hgs⟩ : ∃ zs, zs = fs ++ [y] := ⟨_, rfl⟩
                  have hgl : fs.length + 1 = gs.length := by rw [hgs]; simp
                  have HGS := Lib.hid hgs
                  rw [hgl, ← hgs] at H6
                  rw [hgl]
                  have hfl_gs : gs.length ≤ 2 * m + 1 := by omega
                  clear hgl hlen hgs
                  by_cases hb2 : dbl >>> (kk % 16) % 2 = 1
                  · rw [if_pos hb2] at HTK
                    have hq2 := bit_yes1 dbl (kk % 16) hb2
                    clear hb2
                    go_wp2_with fail
                    obtain ⟨w4, hw4⟩ : ∃ w4, w4 = w6 := ⟨_, rfl⟩
                    rw [← hw4] at H6 ⊢
                    clear hw4
                    have hrv := H6.out.blk 0 rfl
                    have hrx := H6.out.blk 6 rfl
                    have hcx := blk_cell (i := 3) hrx rfl
                    clear hrx
                    refine wp_region_held_drew (S := fun w' => w'.heap[vb]? = some (ptCells y (.slice pa y.pay.length pc))) (by kernel_rfl) hrv (fun hS0 => ?_)
                    change wpAnyH _ _ _ _ _ (8 + 7) _ _ _
                    refine wpAnyH_take_n 0 7 (by kernel_rfl) hS0 (fun _ _ _ _ _ h => h) ?_
                    simp only [List.drop_zero, List.take_succ_cons, List.take_zero]
                    iterate 7 (refine wpFirst_val (v := ?_) (by rfl) ?_ ?_; rotate_left 1; (focus ((intro w' hS'; go_simp); try with_reducible rfl)); simp only [Act.put, List.setIfInBounds_toArray, List.set_cons_zero, List.set_cons_succ])
                    refine wpFirst_nil ?_
                    change wpAnyH _ _ _ _ _ (7 + 1) _ _ _
                    refine wpAnyH_take_n 8 1 (by kernel_rfl) hS0 (fun _ _ _ _ _ h => h) ?_
                    simp only [List.drop_succ_cons, List.drop_zero, List.take_succ_cons, List.take_zero]
                    (refine wpFirst_val (v := ?_) (by rfl) ?_ ?_; rotate_left 1; (focus ((intro w' hS'; obtain ⟨q0, q1, q2, q3, q4⟩ := pt_cells hS'; go_simp); try with_reducible rfl)); simp only [Act.put, List.setIfInBounds_toArray, List.set_cons_zero, List.set_cons_succ])
                    refine wpFirst_nil ?_
                    change wpAnyH _ _ _ _ _ (5 + 2) _ _ _
                    refine wpAnyH_take_n 11 2 (by kernel_rfl) hS0 (fun _ _ _ _ _ h => h) ?_
                    simp only [List.drop_succ_cons, List.drop_zero, List.take_succ_cons, List.take_zero]
                    iterate 2 (refine wpFirst_val (v := ?_) (by rfl) ?_ ?_; rotate_left 1; (focus ((intro w' hS'; go_simp); try with_reducible rfl)); simp only [Act.put, List.setIfInBounds_toArray, List.set_cons_zero, List.set_cons_succ])
                    refine wpFirst_nil ?_
                    have hcd : w4.drew.cell? ⟨x, 3, none⟩ = some (.slice xa gs.length xc) := hcx
                    have HVD := Lib.hid (H6.out.drew)
                    clear H6 hcx hrv
                    obtain ⟨wd, hwd⟩ : ∃ wd, wd = w4.drew := ⟨_, rfl⟩
                    rw [← hwd] at hcd HVD hS0 ⊢
                    clear hwd
                    have hca : (wd.alloc (ptCells y (.slice pa y.pay.length pc))).cell? ⟨x, 3, none⟩ = some (.slice xa gs.length xc) := alloc_cell _ _ hcd
                    have hSa : (wd.alloc (ptCells y (.slice pa y.pay.length pc))).heap[vb]? = some (ptCells y (.slice pa y.pay.length pc)) := (Below.heap_alloc _ _ _ (lt_of_block hS0)).trans hS0
                    refine wpAnyH_two 7 9 (by kernel_rfl) rfl rfl (fun K hK => ?_) (fun K hK => ?_)
                    focus
                      go_simp
                      refine hK.out _ _ hS0 ?_
                      clear hK K
                      refine wpAnyH_one 9 (by kernel_rfl) rfl (fun K hK => ?_)
                      go_simp
                      refine hK.out _ _ hSa ?_
                      clear hK K
                    rotate_left
                    focus
                      go_simp
                      refine hK.out _ _ hSa ?_
                      clear hK K
                      refine wpAnyH_one 7 (by kernel_rfl) rfl (fun K hK => ?_)
                      go_simp
                      refine hK.out _ _ hSa ?_
                      clear hK K
                    all_goals
                      refine wpAnyH_one 10 (by kernel_rfl) rfl (fun K hK => ?_)
                      refine step_app_pt (xs := gs) (x := y) (pa := pa) (pn := y.pay.length) (pc := pc) rfl _ _ rfl HVD.out 2 rfl ?_ (below_alloc wd _) (by omega) rfl wd.heap.size rfl (heap_alloc_new wd _) ?_
                      focus
                        exact fun Y hoth => (hoth 1 (tBy (.slice pa y.pay.length pc) y.pay) (by decide) rfl).choose_spec.2
                      intro xa xc w5 h5
                      simp only [Act.put, List.setIfInBounds_toArray, List.set_cons_zero, List.set_cons_succ]
                      have hr5 := h5.blk 0 rfl
                      have hx5 := h5.blk 6 rfl
                      have cf5 := fun i => blk_free hx5 i
                      have cx5 := blk_cell (i := 3) hx5 rfl
                      have hne5 := h5.apart 0 6 (by decide) rfl rfl (fun _ _ h => h.2) (fun _ _ h => h.2)
                      have h6 := h5.set 6 rfl (pairRow ⟨pl, pr, .slice la gsl.length lc, .slice xa (gs ++ [y]).length xc, ol, or', gl, gr⟩) (w' := w5.setCell ⟨x, 3, none⟩ (.slice xa (gs ++ [y]).length xc)) (by (repeat (first | (with_reducible exact Fr.refl _ _) | exact Or.inl rfl | (with_reducible refine Fr.setCell ?_ ?_ _) | (with_reducible refine Fr.drewN ?_ _) | (with_reducible refine Fr.drew ?_)))) (by (apply row_trans; focus (repeat (first | (with_reducible exact hx5) | (with_reducible apply row_set) | (with_reducible apply row_drewN) | (with_reducible apply row_drew)))); rfl)
                      have hlen : (gs ++ [y]).length = gs.length + 1 := by simp
                      rw [hlen] at h6
                      have H6 := Lib.hid h6
                      clear h5 h6 hx5 HVD hSa hca hcd hS0
                      refine hK.out _ _ hr5 ?_
                      clear hK K
                      refine wpAnyH_one 13 (by kernel_rfl) rfl (fun K hK => ?_)
                      go_simp
                      refine hK.out _ _ hr5 ?_
                      clear hK K
                      refine wpAnyH_one 14 (by kernel_rfl) rfl (fun K hK => ?_)
                      go_simp
                      refine hK.out _ _ ((heap_setCell_other w5 ⟨x, _, none⟩ vb _ hne5).trans hr5) ?_
                      clear hK K hr5 cf5 cx5
                      refine wpAnyH_done (by kernel_rfl) ?_ _
                      obtain ⟨w6, hw6⟩ : ∃ w6, w6 = w5.setCell ⟨x, 3, none⟩ (.slice xa (gs.length + 1) xc) := ⟨_, rfl⟩
                      rw [← hw6] at H6 ⊢
                      clear hw6
                      obtain ⟨hs, hgs⟩ : ∃ zs, zs = gs ++ [y] := ⟨_, rfl⟩
                      have hgl : gs.length + 1 = hs.length := by rw [hgs]; simp
                      have HHS := Lib.hid hgs
                      rw [hgl, ← hgs] at H6
                      rw [hgl]
                      have hfl_hs : hs.length ≤ 2 * m + 2 := by omega
                      clear hgl hlen hgs
                      go_wp2_with fail
                      go_roundw
                      case rel => exact ⟨m + 1, hs, xa, xc, by omega, by go_num, by rw [show ql.1.length + (m + 1) = kk + 1 by rw [HKK.out]; omega]; go_num, Lib.hid (by rw [HTK.out, HHS.out, HGS.out, HFS.out, List.append_assoc]; rfl), by omega, Lib.hid H6.out.tail.tail⟩
                      case measure => simp [intOf]; omega
                  · rw [if_neg hb2] at HTK
                    have hq2 := bit_no1 dbl (kk % 16) hb2
                    clear hb2
                    go_wp2_with fail
                    go_roundw
                    case rel => exact ⟨m + 1, gs, xa, xc, by omega, by go_num, by rw [show ql.1.length + (m + 1) = kk + 1 by rw [HKK.out]; omega]; go_num, Lib.hid (by rw [HTK.out, HGS.out, HFS.out]), by omega, Lib.hid H6.out.tail.tail⟩
                    case measure => simp [intOf]; omega
              · rw [if_neg hb1, List.append_nil] at HTK
                have hq1 := bit_no lose (kk % 16) hb1
                clear hb1
                go_wp2_with fail
                go_roundw
                case rel => exact ⟨m + 1, fs, fa, fc, by omega, by go_num, by rw [show ql.1.length + (m + 1) = kk + 1 by rw [HKK.out]; omega]; go_num, Lib.hid (by rw [HTK.out]; exact HFS.out), by omega, Lib.hid HV.out.tail.tail⟩
                case measure => simp [intOf]; omega
            · obtain rfl : qr.1.length = m := by omega
              have hq5 : qr.1.length ≤ 5 := HQS.out.2
              have HFE := Lib.hid (show fs = sift lose dbl ql.1.length qr.1 by rw [HFS.out, List.take_length])
              have h7 := (HK.out.freeze 0 rfl ePt_rd).pickL (us := [tRd ePt (.slice fa fs.length fc) fs, tBlk sb (sentRow (.slice ua ql.1.length uc) (.slice va qr.1.length vc)), tRd ePt (.slice ua ql.1.length uc) ql.1, tRd ePt (.slice va qr.1.length vc) qr.1, tBlk x (pairRow ⟨pl, pr, .slice la gsl.length lc, .slice fa fs.length fc, ol, or', gl, gr⟩), tPort pl ql.2, tPort pr qr.2, tRd ePt (.slice la gsl.length lc) gsl, tBB ol P.l.off, tBB or' P.r.off, tBB gl P.l.got, tBB gr P.r.got]) (vs := [tBlk sb (sentRow (.slice ua ql.1.length uc) (.slice va qr.1.length vc)), tRd ePt (.slice ua ql.1.length uc) ql.1, tRd ePt (.slice va qr.1.length vc) qr.1, tBlk x (pairRow ⟨pl, pr, .slice la gsl.length lc, .slice fa fs.length fc, ol, or', gl, gr⟩), tPort pl ql.2, tPort pr qr.2, tRd ePt (.slice la gsl.length lc) gsl, tRd ePt (.slice fa fs.length fc) fs, tBB ol P.l.off, tBB or' P.r.off, tBB gl P.l.got, tBB gr P.r.got]) [1, 2, 3, 4, 5, 6, 7, 0, 8, 9, 10, 11] (by decide) rfl
              have H7 := Lib.hid h7
              clear h7 HK
              go_wp2_with fail
              go_roundw
              case rel => exact .inr (.inr ⟨by go_num, gsl, fs, la, lc, fa, fc, HGL, HFE, H7⟩)
              case measure => simp [intOf]
end
end Go.Proofs.Ytcocnfbhileheaa
