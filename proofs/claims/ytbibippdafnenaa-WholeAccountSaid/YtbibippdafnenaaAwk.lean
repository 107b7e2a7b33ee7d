/- The lowest layer's example: one half and one third is five sixths. -/
import Derived.Test.YtbibippdafnenaaMgB
import Derived.Deep.CutBlock
import Derived.Deep.CutRange
import Derived.Deep.DeepCutAuto
import Derived.Deep.QuietTactic
import Derived.Deep.RegionLaw
import Derived.StillTailTactics
import Derived.Lib.MinMax
import Derived.IntWalk
import Derived.Laws.Externs
namespace Go.Proofs.Ytbibippdafnenaa
open Go.RowKit
set_option maxRecDepth 100000

@[go_sem] theorem and_u64_1 : bits BinOp.and IntKind.u64 1 4294967295 = 1 := by decide +kernel
@[go_sem] theorem and_u64_2 : bits BinOp.and IntKind.u64 2 4294967295 = 2 := by decide +kernel
@[go_sem] theorem and_u64_3 : bits BinOp.and IntKind.u64 3 4294967295 = 3 := by decide +kernel
@[go_sem] theorem and_u64_0 : bits BinOp.and IntKind.u64 0 4294967295 = 0 := by decide +kernel
set_option maxHeartbeats 4000000 in
theorem mul64_c (x y : Int) (h : (x = 1 ∧ y = 3) ∨ (x = 1 ∧ y = 2) ∨ (x = 2 ∧ y = 3)) (w : World) : Calls Try.prog 42 #[.int .u64 x, .int .u64 y] w fun e w' => e = .returned (.tuple #[.int .u64 0, .int .u64 (x * y)]) ∧ w = w' := by
  rcases h with ⟨rfl, rfl⟩ | ⟨rfl, rfl⟩ | ⟨rfl, rfl⟩
  all_goals
    go_enter Try.func42, Try.ntmps42
    go_wp2_with fail
    go_ret2
    exact ⟨rfl, rfl⟩
theorem size_c (x : Int) (h0 : 0 ≤ x) (h1 : x ≤ 1000) (w : World) : Calls Try.prog 38 #[.int .i64 x] w fun e w' => e = .returned (.int .u64 x) ∧ w' = w := by
  have hw : IntKind.u64.wrap x = x := by rw [IntKind.wrap_u64]; omega
  have hx : decide (x < 0) = false := by simp; omega
  go_enter Try.func38, Try.ntmps38
  go_wp2_with fail
  go_ret
  exact ⟨rfl, rfl⟩
set_option maxHeartbeats 4000000 in
theorem gcd_c (a b g : Nat) (hg : Nat.gcd a b = g) (ha : a ≤ 1000) (hb : b ≤ 1000) (w : World) : Calls Try.prog 37 #[.int .u64 (a : Int), .int .u64 (b : Int)] w fun e w' => e = .returned (.int .u64 (g : Int)) ∧ Dr w w' := by
  have HG := Lib.hid hg
  clear hg
  go_enter Try.func37, Try.ntmps37
  go_wp2_with fail
  go_loopw [0, 1] (fun u v wr => ∃ x y : Nat, x ≤ 1000 ∧ y ≤ 1000 ∧ u = .int .u64 (x : Int) ∧ v = .int .u64 (y : Int) ∧ Hid (Nat.gcd x y = g) ∧ Hid (Dr w wr)) (fun _ v _ => (intOf v).toNat)
  case atStart => exact ⟨a, b, ha, hb, rfl, rfl, HG, Lib.hid ⟨0, rfl⟩⟩
  case round =>
    obtain ⟨x, y, hx, hy, rfl, rfl, HE, HD⟩ := hrel
    by_cases h0 : y = 0
    · subst h0
      have HX := Lib.hid (show x = g by have := HE.out; rwa [Nat.gcd_zero_right] at this)
      go_wp2_with fail
      go_ret
      exact ⟨by rw [HX.out]; rfl, HD.out⟩
    · have hm : x % y < y := Nat.mod_lt _ (by omega)
      have HN := Lib.hid (show Nat.gcd y (x % y) = g by rw [Nat.gcd_comm, ← Nat.gcd_rec, Nat.gcd_comm]; exact HE.out)
      obtain ⟨z, hz⟩ : ∃ z, z = x % y := ⟨_, rfl⟩
      have hzz : (x : Int) % (y : Int) = (z : Int) := by omega
      have hzt : (x : Int).tmod (y : Int) = (z : Int) := by rw [Int.tmod_eq_emod_of_nonneg (by omega)]; exact hzz
      rw [← hz] at HN hm
      clear hz
      go_wp2_with fail
      go_quiet (fail)
      go_wp2_with fail
      go_roundw
      case rel => exact ⟨y, z, hy, by omega, rfl, rfl, HN, Lib.hid (by obtain ⟨k, e⟩ := HD.out; subst e; exact ⟨k + nq, World.drewN_drewN _ _ _⟩)⟩
      case measure => simp [intOf]; omega
theorem gcd4 (a b : Int) (h : (a = 1 ∧ b = 2) ∨ (a = 1 ∧ b = 3) ∨ (a = 2 ∧ b = 3) ∨ (a = 1 ∧ b = 0)) (w : World) : Calls Try.prog 37 #[.int .u64 a, .int .u64 b] w fun e w' => e = .returned (.int .u64 1) ∧ Dr w w' := by
  rcases h with ⟨rfl, rfl⟩ | ⟨rfl, rfl⟩ | ⟨rfl, rfl⟩ | ⟨rfl, rfl⟩
  · exact gcd_c 1 2 1 (by decide) (by decide) (by decide) w
  · exact gcd_c 1 3 1 (by decide) (by decide) (by decide) w
  · exact gcd_c 2 3 1 (by decide) (by decide) (by decide) w
  · exact gcd_c 1 0 1 (by decide) (by decide) (by decide) w
/-- a wide number that is not negative and has no high part -/
abbrev wdV (n : Int) : Value := .agg #[.bool false, .int .u64 0, .int .u64 n]
abbrev rtV (n d : Int) : Value := .agg #[.int .i64 n, .int .i64 d]
abbrev rtO (n d : Int) : Obj := .cells #[.int .i64 n, .int .i64 d] 69
abbrev wdO (n : Int) : Obj := .cells #[.bool false, .int .u64 0, .int .u64 n] 97
theorem run_add0 (w : World) : (callFunc 48 #[.int .u64 3, .int .u64 2, .int .u64 0]).run Try.prog w = .ok (.value (.tuple #[.int .u64 5, .int .u64 0])) w := by
  rw [run_callFunc_extern Try.func48 (by kernel_rfl) (by kernel_rfl) (by kernel_rfl) (e := add64Entry) (by kernel_rfl), run_add64 3 2 0 (by decide) (by decide) (by decide) (by decide)]
  rfl
theorem run_add00 (w : World) : (callFunc 48 #[.int .u64 0, .int .u64 0, .int .u64 0]).run Try.prog w = .ok (.value (.tuple #[.int .u64 0, .int .u64 0])) w := by
  rw [run_callFunc_extern Try.func48 (by kernel_rfl) (by kernel_rfl) (by kernel_rfl) (e := add64Entry) (by kernel_rfl), run_add64 0 0 0 (by decide) (by decide) (by decide) (by decide)]
  rfl
set_option maxHeartbeats 4000000 in
theorem valid_c (d : Int) (h : d = 2 ∨ d = 3) (w : World) : Calls Try.prog 35 #[rtV 1 d] w fun e w' => e = .returned (.bool true) ∧ Below w.heap.size w w' := by
  rcases h with rfl | rfl
  all_goals
    go_enter Try.func35, Try.ntmps35
    go_wp2_with fail
    go_quiet (first | (go_at_call 38; exact Calls.quiet_of_same (size_c _ (by decide) (by decide) _)) | (go_at_call 37; exact Calls.quiet_of (gcd4 _ _ (by decide) _)))
    go_wp2_with fail
    go_ret
    exact ⟨rfl, by (with_reducible (repeat (first | exact Below.refl _ _ | refine Bw.alloc ?_ _ | refine Bw.drewN ?_ _ | refine Bw.drew ?_)))⟩
set_option maxHeartbeats 4000000 in
theorem normal_c (d : Int) (h : d = 2 ∨ d = 3) (w : World) : Calls Try.prog 36 #[rtV 1 d] w fun e w' => e = .returned (rtV 1 d) ∧ w' = (w.alloc (rtO 1 d)).alloc (rtO 1 d) := by
  rcases h with rfl | rfl
  all_goals
    go_enter Try.func36, Try.ntmps36
    go_wp2_with fail
    exact bodyPost_ret (by simp [results, Try.results36, go_sem]; try rfl) rfl ⟨rfl, rfl⟩
theorem normal_b (d : Int) (h : d = 2 ∨ d = 3) (w : World) : Calls Try.prog 36 #[rtV 1 d] w fun e w' => e = .returned (rtV 1 d) ∧ Below w.heap.size w w' :=
  (normal_c d h w).mono fun e w' ⟨he, hw⟩ => ⟨he, by rw [hw]; (with_reducible (repeat (first | exact Below.refl _ _ | refine Bw.alloc ?_ _ | refine Bw.drewN ?_ _ | refine Bw.drew ?_)))⟩
set_option maxHeartbeats 4000000 in
theorem product_c (y : Int) (h : y = 2 ∨ y = 3) (w : World) : Calls Try.prog 39 #[.int .i64 1, .int .u64 y] w fun e w' => e = .returned (wdV y) ∧ w' = w.alloc (wdO y) := by
  rcases h with rfl | rfl
  all_goals
    go_enter Try.func39, Try.ntmps39
    go_wp2_with (first | (go_at_call 38; refine (size_c 1 (by decide) (by decide) _).mono ?_; rintro e w1 ⟨rfl, rfl⟩) | (go_at_call 42; refine (mul64_c _ _ (by decide) _).mono ?_; rintro e w1 ⟨rfl, rfl⟩))
    exact bodyPost_ret (by simp [results, Try.results39, go_sem]; try rfl) rfl ⟨rfl, rfl⟩
set_option maxHeartbeats 4000000 in
theorem wadd_c (w : World) : Calls Try.prog 40 #[wdV 3, wdV 2] w fun e w' => e = .returned (wdV 5) ∧ w' = ((w.alloc (wdO 3)).alloc (wdO 2)).alloc (wdO 5) := by
  have r1 := run_add0
  have r2 := run_add00
  go_enter Try.func40, Try.ntmps40
  go_wp2_with (simp only [run_add0, run_add00])
  exact bodyPost_ret (by simp [results, Try.results40, go_sem]; try rfl) rfl ⟨rfl, rfl⟩
theorem product_b (y : Int) (h : y = 2 ∨ y = 3) (w : World) : Calls Try.prog 39 #[.int .i64 1, .int .u64 y] w fun e w' => e = .returned (wdV y) ∧ Below w.heap.size w w' :=
  (product_c y h w).mono fun e w' ⟨he, hw⟩ => ⟨he, by rw [hw]; (with_reducible (repeat (first | exact Below.refl _ _ | refine Bw.alloc ?_ _ | refine Bw.drewN ?_ _ | refine Bw.drew ?_)))⟩
theorem wadd_b (w : World) : Calls Try.prog 40 #[wdV 3, wdV 2] w fun e w' => e = .returned (wdV 5) ∧ Below w.heap.size w w' :=
  (wadd_c w).mono fun e w' ⟨he, hw⟩ => ⟨he, by rw [hw]; (with_reducible (repeat (first | exact Below.refl _ _ | refine Bw.alloc ?_ _ | refine Bw.drewN ?_ _ | refine Bw.drew ?_)))⟩
theorem drewN_below {B : Nat} {w w' : World} (h : Below B w w') (n : Nat) : Below B w (w'.drewN n) := ⟨h.os, h.tape, h.output, h.size, h.block⟩
set_option maxHeartbeats 4000000 in
theorem div64_c (w : World) : Calls Try.prog 51 #[.int .u64 0, .int .u64 5, .int .u64 1] w fun e w' => e = .returned (.tuple #[.int .u64 5, .int .u64 0]) ∧ Dr w w' := by
  go_enter Try.func51, Try.ntmps51
  go_wp2_with fail
  go_quiet (fail)
  go_wp2_with fail
  go_ret2
  exact ⟨rfl, _, rfl⟩
set_option maxHeartbeats 4000000 in
theorem divide_c (w : World) : Calls Try.prog 41 #[wdV 5, .int .u64 1] w fun e w' => e = .returned (.tuple #[wdV 5, .int .u64 0]) ∧ Below w.heap.size w w' := by
  go_enter Try.func41, Try.ntmps41
  go_wp2_with fail
  go_quiet ((go_at_call 51; exact Calls.quiet_of (div64_c _)))
  go_wp2_with fail
  have hw0 : IntKind.u64.wrap 0 = 0 := by decide
  go_region
  all_goals go_wp2_with fail
  all_goals exact bodyPost_ret (by simp [results, Try.results41, go_sem]; try rfl) rfl ⟨rfl, by (repeat (first | (with_reducible exact Below.refl _ _) | (with_reducible refine Bw.alloc ?_ _) | (with_reducible refine Bw.drewN ?_ _) | (with_reducible refine Bw.drew ?_) | (with_reducible refine Below.setCell ?_ (by simp <;> omega) _)))⟩
theorem fits_c (x : Int) (h0 : 0 ≤ x) (h1 : x ≤ 1000) (w : World) : Calls Try.prog 52 #[wdV x] w fun e w' => e = .returned (.bool true) ∧ w' = w.alloc (.cells #[.bool false, .int .u64 0, .int .u64 x] 97) := by
  have hx : decide (x ≤ 1152921504606846976) = true := by simp; omega
  go_enter Try.func52, Try.ntmps52
  go_wp2_with fail
  go_ret
  exact ⟨rfl, rfl⟩
theorem signed_c (x : Int) (h0 : 0 ≤ x) (h1 : x ≤ 1000) (w : World) : Calls Try.prog 53 #[wdV x] w fun e w' => e = .returned (.int .i64 x) ∧ w' = w.alloc (.cells #[.bool false, .int .u64 0, .int .u64 x] 97) := by
  have hx : IntKind.i64.wrap x = x := IntWalk.i64_in _ (by omega)
  go_enter Try.func53, Try.ntmps53
  go_wp2_with fail
  go_ret
  exact ⟨rfl, rfl⟩
set_option maxHeartbeats 4000000 in
theorem result_c (w : World) : Calls Try.prog 43 #[wdV 5, wdV 6] w fun e w' => e = .returned (.tuple #[rtV 5 6, .int .i64 0]) ∧ Below w.heap.size w w' := by
  go_enter Try.func43, Try.ntmps43
  go_wp2_with ((go_at_call 52; refine (fits_c _ (by decide) (by decide) _).mono ?_; rintro e w1 ⟨rfl, rfl⟩))
  go_region_law ((go_simp; go_at_call 53; refine (signed_c _ (by decide) (by decide) _).mono ?_; rintro e w1 ⟨rfl, rfl⟩))
  all_goals go_wp2_with fail
  all_goals exact bodyPost_ret (by simp [results, Try.results43, go_sem]; try rfl) rfl ⟨rfl, by (repeat (first | (with_reducible exact Below.refl _ _) | (with_reducible refine Bw.alloc ?_ _) | (with_reducible refine Bw.drewN ?_ _) | (with_reducible refine Bw.drew ?_) | (with_reducible refine Below.setCell ?_ (by simp <;> omega) _)))⟩
/-- the boxes of rational.Add at the example -/
def Bxs (w wx : World) : Prop := wx.heap[w.heap.size]? = some (rtO 1 2) ∧ wx.heap[w.heap.size + 1]? = some (rtO 1 3) ∧ wx.heap[w.heap.size + 1 + 1]? = some (rtO 0 0) ∧ Below w.heap.size w wx
theorem Bxs.cells {w wx : World} (h : Bxs w wx) : wx.cell? ⟨w.heap.size, 0, none⟩ = some (.int .i64 1) ∧ wx.cell? ⟨w.heap.size, 1, none⟩ = some (.int .i64 2) ∧ wx.cell? ⟨w.heap.size + 1, 0, none⟩ = some (.int .i64 1) ∧ wx.cell? ⟨w.heap.size + 1, 1, none⟩ = some (.int .i64 3) :=
  ⟨blk_cell h.1 rfl, blk_cell h.1 rfl, blk_cell h.2.1 rfl, blk_cell h.2.1 rfl⟩
theorem Bxs.below {w wx wy : World} (h : Bxs w wx) (hb : Below wx.heap.size wx wy) : Bxs w wy := ⟨(hb.block _ (lt_of_block h.1)).trans h.1, (hb.block _ (lt_of_block h.2.1)).trans h.2.1, (hb.block _ (lt_of_block h.2.2.1)).trans h.2.2.1, h.2.2.2.trans (hb.mono h.2.2.2.size)⟩
theorem Bxs.drewN {w wx : World} (h : Bxs w wx) (n : Nat) : Bxs w (wx.drewN n) := ⟨h.1, h.2.1, h.2.2.1, drewN_below h.2.2.2 _⟩
theorem Bxs.drew {w wx : World} (h : Bxs w wx) : Bxs w wx.drew := h.drewN 1
theorem heap_alloc_at {w : World} {o : Obj} {b : Nat} (h : b = w.heap.size) : (w.alloc o).heap[b]? = some o := by rw [h]; exact heap_alloc_new w o
theorem Bxs.alloc {w wx : World} (h : Bxs w wx) (o : Obj) : Bxs w (wx.alloc o) := h.below (below_alloc _ _)
set_option maxHeartbeats 16000000 in
theorem radd_c (w : World) : Calls Try.prog 23 #[rtV 1 2, rtV 1 3] w fun e w' => e = .returned (.tuple #[rtV 5 6, .int .i64 0]) ∧ Below w.heap.size w w' := by
  go_enter Try.func23, Try.ntmps23
  go_wp2_with fail
  refine (valid_c 2 (by decide) _).mono ?_
  rintro e w1 ⟨rfl, hb1⟩
  have H0 := Lib.hid ((show Held (fun _ => False) (fun _ => False) w [tBlk w.heap.size (rtO 1 2), tBlk (w.heap.size + 1) (rtO 1 3), tBlk (w.heap.size + 1 + 1) (rtO 0 0)] _ from by
    have h := (((Held.start0 (fun _ => False) (fun _ => False) (fun _ f _ => f) w).new (rtO 1 2)).new (rtO 1 3)).new (rtO 0 0)
    simp only [World.size_alloc] at h
    exact h).own hb1)
  clear hb1
  have c3 := blk_cell (i := 0) (H0.out.blk 1 rfl) rfl
  have d3 := blk_cell (i := 1) (H0.out.blk 1 rfl) rfl
  go_wp2_with fail
  refine (valid_c 3 (by decide) _).mono ?_
  rintro e w2 ⟨rfl, hb1⟩
  have HX := Lib.hid (H0.out.own hb1)
  clear hb1 c3 d3 H0
  have r2 := HX.out.blk 0 rfl
  have r3 := HX.out.blk 1 rfl
  have c2 := blk_cell (i := 0) r2 rfl
  have d2 := blk_cell (i := 1) r2 rfl
  have f2 := fun i => blk_free r2 i
  have c3 := blk_cell (i := 0) r3 rfl
  have d3 := blk_cell (i := 1) r3 rfl
  have f3 := fun i => blk_free r3 i
  have l2 := lt_of_block r2
  have l3 := lt_of_block r3
  clear r2 r3
  go_wp2_with fail
  go_cut [28] from 26 to 29 (fun _ wx => Hid (Bxs w wx))
  case first =>
    go_region_law ((go_simp; go_at_call 36; refine (normal_b _ (by decide) _).mono ?_; rintro e w9 ⟨rfl, hb9⟩; have HY := Lib.hid (show Held (fun _ => False) (fun _ => False) w [tBlk w.heap.size (rtO 1 2), tBlk (w.heap.size + 1) (rtO 1 3), tBlk (w.heap.size + 1 + 1) (rtO 0 0)] w9 from (by first | exact HX.out.own hb9 | exact (HX.out.drew).own hb9 | exact (HX.out.drewN _).own hb9)); clear HX hb9 c2 d2 f2 c3 d3 f3 l2 l3; have HX := HY; clear HY; have r2 := HX.out.blk 0 rfl; have r3 := HX.out.blk 1 rfl; have c2 := blk_cell (i := 0) r2 rfl; have d2 := blk_cell (i := 1) r2 rfl; have f2 := fun i => blk_free r2 i; have c3 := blk_cell (i := 0) r3 rfl; have d3 := blk_cell (i := 1) r3 rfl; have f3 := fun i => blk_free r3 i; have l2 := lt_of_block r2; have l3 := lt_of_block r3; clear r2 r3))
    all_goals
      generalize hwq : (World.setCell _ _ _) = wq
      have HQ : Hid (Bxs w wq) := Lib.hid ⟨by rw [← hwq]; have hh := HX.out.blk 0 rfl; (apply row_trans; focus (repeat (first | (with_reducible exact hh) | (with_reducible apply row_set) | (with_reducible apply row_drewN) | (with_reducible apply row_drew) | (with_reducible apply row_alloc) | (apply row_set_other (by first | omega | (simp <;> omega)))))); rfl, by rw [← hwq]; have hh := HX.out.blk 1 rfl; (apply row_trans; focus (repeat (first | (with_reducible exact hh) | (with_reducible apply row_set) | (with_reducible apply row_drewN) | (with_reducible apply row_drew) | (with_reducible apply row_alloc) | (apply row_set_other (by first | omega | (simp <;> omega)))))); rfl, by rw [← hwq]; have hh := HX.out.blk 2 rfl; (apply row_trans; focus (repeat (first | (with_reducible exact hh) | (with_reducible apply row_set) | (with_reducible apply row_drewN) | (with_reducible apply row_drew) | (with_reducible apply row_alloc) | (apply row_set_other (by first | omega | (simp <;> omega)))))); rfl, by rw [← hwq]; have hh := HX.out.below; repeat (first | (with_reducible exact hh) | (refine Below.setCell ?_ (by first | exact Nat.le_refl _ | exact Nat.le_succ _) _))⟩
      clear hwq HX c2 d2 f2 c3 d3 f3 l2 l3
      go_wp2_with fail
      go_meet
      exact HQ
  case rest =>
  clear HX c2 d2 f2 c3 d3 f3 l2 l3
  have HQ := hcut
  clear hcut
  obtain ⟨c2, d2, c3, d3⟩ := HQ.out.cells
  go_wp2_with fail
  go_quiet (first | (go_at_call 38; exact Calls.quiet_of_same (size_c _ (by decide) (by decide) _)) | (go_at_call 37; exact Calls.quiet_of (gcd4 _ _ (by decide) _)))
  go_wp2_with fail
  have HQ2 := Lib.hid (HQ.out.drewN nq)
  clear c2 d2 c3 d3 HQ
  generalize World.drewN _ _ = w5 at HQ2 ⊢
  obtain ⟨c2, d2, c3, d3⟩ := HQ2.out.cells
  have u2 : IntKind.u64.wrap 2 = 2 := by decide
  have u3 : IntKind.u64.wrap 3 = 3 := by decide
  go_quiet ((go_at_call 38; exact Calls.quiet_of_same (size_c _ (by decide) (by decide) _)))
  go_wp2_with fail
  have HQ := Lib.hid (HQ2.out.drewN nq)
  clear c2 d2 c3 d3 HQ2
  generalize World.drewN _ _ = wz at HQ ⊢
  obtain ⟨c2, d2, c3, d3⟩ := HQ.out.cells
  have a3 := fun o => alloc_cell wz o c3
  have a2 := fun o => alloc_cell wz o c2
  have a33 := fun o o' => alloc_cell (wz.alloc o) o' (a3 o)
  have a22 := fun o o' => alloc_cell (wz.alloc o) o' (a2 o)
  go_cut [9] from 47 to 55 (fun p wx => ∃ b, p = .pointer (some ⟨b, 0, none⟩) ∧ Hid (Bxs w wx) ∧ Hid (wx.heap[b]? = some (wdO 5)))
  case first =>
    go_region_law (first | (go_simp; go_at_call 39; refine (product_c _ (by decide) _).mono ?_; rintro e w10 ⟨rfl, rfl⟩) | (go_simp; go_at_call 40; refine (wadd_c _).mono ?_; rintro e w10 ⟨rfl, rfl⟩))
    all_goals
      go_wp2_with fail
      go_meet
      refine ⟨_, rfl, Lib.hid (by repeat (first | (with_reducible exact HQ.out) | (with_reducible refine Bxs.alloc ?_ _) | (with_reducible refine Bxs.drewN ?_ _) | (with_reducible refine Bxs.drew ?_))), Lib.hid ?_⟩
      repeat (first | (refine heap_alloc_at ?_; simp; done) | (with_reducible apply row_drewN) | (with_reducible apply row_drew) | (with_reducible apply row_alloc))
  case rest =>
  clear c2 d2 c3 d3 a2 a3 a22 a33 HQ
  obtain ⟨b, rfl, HB, HZ⟩ := hcut
  obtain ⟨_, _, c3, d3⟩ := HB.out.cells
  have z0 := blk_cell (i := 0) HZ.out rfl
  have z1 := blk_cell (i := 1) HZ.out rfl
  have z2 := blk_cell (i := 2) HZ.out rfl
  go_wp2_with fail
  refine (divide_c _).mono ?_
  rintro e w2 ⟨rfl, hb⟩
  have HB2 := Lib.hid ((HB.out.below hb).alloc (wdO 5))
  have HZ2 := Lib.hid ((below_alloc w2 (wdO 5)).block _ (Nat.lt_of_lt_of_le (lt_of_block HZ.out) hb.size) |>.trans ((hb.block _ (lt_of_block HZ.out)).trans HZ.out))
  clear c3 d3 z0 z1 z2 HB HZ hb
  obtain ⟨_, _, c3, d3⟩ := HB2.out.cells
  have z0 := blk_cell (i := 0) HZ2.out rfl
  have z1 := blk_cell (i := 1) HZ2.out rfl
  have z2 := blk_cell (i := 2) HZ2.out rfl
  go_wp2_with fail
  refine (gcd4 1 0 (by decide) _).mono ?_
  rintro e w3 ⟨rfl, nd, rfl⟩
  go_wp2_with fail
  refine (divide_c _).mono ?_
  rintro e w4 ⟨rfl, hb⟩
  have HB4 := Lib.hid (((HB2.out.drewN nd).below hb).alloc (wdO 5))
  have HR := Lib.hid (heap_alloc_new w4 (wdO 5))
  clear c3 d3 z0 z1 z2 HB2 HZ2 hb
  obtain ⟨_, _, c3, d3⟩ := HB4.out.cells
  have z0 := blk_cell (i := 0) HR.out rfl
  have z1 := blk_cell (i := 1) HR.out rfl
  have z2 := blk_cell (i := 2) HR.out rfl
  go_wp2_with fail
  refine (size_c 3 (by decide) (by decide) _).mono ?_
  rintro e w5 ⟨rfl, rfl⟩
  go_wp2_with fail
  refine (mul64_c 2 3 (by decide) _).mono ?_
  rintro e w5 ⟨rfl, rfl⟩
  go_wp2_with fail
  refine (result_c _).mono ?_
  rintro e w6 ⟨rfl, hb⟩
  have HB6 := Lib.hid (HB4.out.below hb)
  clear c3 d3 z0 z1 z2 HB4 HR hb
  have g0 := blk_cell (i := 0) HB6.out.2.2.1 rfl
  have g1 := blk_cell (i := 1) HB6.out.2.2.1 rfl
  have gf := fun i => blk_free HB6.out.2.2.1 i
  have gl := lt_of_block HB6.out.2.2.1
  have HW := Lib.hid HB6.out.2.2.2
  go_wp2_with fail
  exact bodyPost_ret (by simp [results, Try.results23, go_sem, g0, g1]; try rfl) rfl ⟨rfl, Below.setCell (Below.setCell HW.out (by simp <;> omega) _) (by simp <;> omega) _⟩
set_option maxHeartbeats 4000000 in
/-- the example of the lowest layer -/
theorem awakeT_c (w : World) : Calls Try.prog 4 #[] w fun e w' => e = .returned (.bool true) ∧ Below w.heap.size w w' := by
  go_enter Try.func4, Try.ntmps4
  go_wp2_with fail
  refine (radd_c _).mono ?_
  rintro e w1 ⟨rfl, hb⟩
  have HB := Lib.hid hb
  clear hb
  go_wp2_with fail
  go_ret
  exact ⟨rfl, by have hh := HB.out; (with_reducible (repeat (first | exact hh | refine Bw.alloc ?_ _ | refine Bw.drewN ?_ _ | refine Bw.drew ?_)))⟩
end Go.Proofs.Ytbibippdafnenaa
