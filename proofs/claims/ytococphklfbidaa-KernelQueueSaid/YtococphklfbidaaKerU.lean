/- The reference's Pop. -/
import Derived.Test.YtococphklfbidaaKerT
namespace Go.Proofs.Ytococphklfbidaa
open Go.RowKit Go.Maps

def PopR (w : World) (last : Nat) (l : List Ev) (e : Ending) (w' : World) : Prop :=
  ∃ (i : Nat) (x : Ev) (a' : Option Addr) (n' c' : Nat), l[i]? = some x ∧ (∀ y ∈ l, ¬ Lt y x) ∧ e = .returned (.tuple #[refV x.at' last (.slice a' n' c'), .agg #[.int .i64 x.at', .int .i64 x.kind, .int .i64 x.node, .int .i64 x.number, .int .i64 x.arg], .bool true]) ∧ NewEv w w' a' n' c' (l.take i ++ l.drop (i + 1)) ∧ Below w.heap.size w w'
theorem row_alloc_at (w0 : World) (o o' : Obj) (i : Nat) (h : i = w0.heap.size) : ((w0.alloc o).alloc o').heap[i]? = some o := (Below.heap_alloc _ _ i (by simp; omega)).trans (heap_alloc_at _ _ _ h)
set_option maxRecDepth 100000 in
set_option maxHeartbeats 8000000 in
theorem refPop_none (w : World) (now : Int) (last : Nat) (a : Option Addr) (c : Nat) :
    Calls Try.prog 24 #[.agg #[.int .i64 now, .int .i64 (last : Int), .slice a 0 c]] w fun e w' => e = .returned (.tuple #[refV now last (.slice a 0 c), .agg #[.int .i64 Ev.zero.at', .int .i64 Ev.zero.kind, .int .i64 Ev.zero.node, .int .i64 Ev.zero.number, .int .i64 Ev.zero.arg], .bool false]) ∧ Below w.heap.size w w' := by
  go_enter Try.func24, Try.ntmps24
  go_wp2_with fail
  have hr := fun o => row_alloc_at (w.alloc (.cells #[.int .i64 now, .int .i64 (last : Int), .slice a 0 c] 52)) (.cells #[.int .i64 now, .int .i64 (last : Int), .slice a 0 c] 52) o (w.heap.size + 1) (by simp)
  obtain ⟨q0, q1, q2⟩ := refq_cells (hr (.cells #[.int .i64 0, .int .i64 0, .int .i64 0, .int .i64 0, .int .i64 0] 44))
  have he := heap_alloc_at ((w.alloc (.cells #[.int .i64 now, .int .i64 (last : Int), .slice a 0 c] 52)).alloc (.cells #[.int .i64 now, .int .i64 (last : Int), .slice a 0 c] 52)) (.cells #[.int .i64 0, .int .i64 0, .int .i64 0, .int .i64 0, .int .i64 0] 44) (w.heap.size + 1 + 1) (by simp)
  have e0 := blk_cell (i := 0) he rfl; have e1 := blk_cell (i := 1) he rfl; have e2 := blk_cell (i := 2) he rfl; have e3 := blk_cell (i := 3) he rfl; have e4 := blk_cell (i := 4) he rfl
  exact bodyPost_ret (v := .tuple #[.agg #[.int .i64 now, .int .i64 (last : Int), .slice a 0 c], .agg #[.int .i64 0, .int .i64 0, .int .i64 0, .int .i64 0, .int .i64 0], .bool false]) (by simp [results, Try.results24, go_sem, q0, q1, q2, e0, e1, e2, e3, e4]) rfl ⟨rfl, by (repeat (first | (with_reducible exact Below.refl _ _) | (with_reducible refine Bw.alloc ?_ _) | (with_reducible refine Bw.drewN ?_ _) | (with_reducible refine Bw.drew ?_)))⟩
theorem sts3 {w : World} {s : Nat} {a b c : Value} {T : TypeId} (h : w.heap[s]? = some (.cells #[a, b, c] T)) (x y z : Value) : (((w.setCell ⟨s, 0, none⟩ x).setCell ⟨s, 1, none⟩ y).setCell ⟨s, 2, none⟩ z).heap[s]? = some (.cells #[x, y, z] T) := by (apply row_trans; focus (repeat (first | (with_reducible exact h) | (with_reducible apply row_set) | (with_reducible apply row_drewN) | (with_reducible apply row_drew)))); rfl
theorem sts3_other {w : World} {s k : Nat} (hk : k ≠ s) (x y z : Value) : (((w.setCell ⟨s, 0, none⟩ x).setCell ⟨s, 1, none⟩ y).setCell ⟨s, 2, none⟩ z).heap[k]? = w.heap[k]? :=
  (Below.heap_setCell _ _ _ _ hk).trans ((Below.heap_setCell _ _ _ _ hk).trans (Below.heap_setCell _ _ _ _ hk))
theorem sts5 {w : World} {s : Nat} {a b c d e : Value} {T : TypeId} (h : w.heap[s]? = some (.cells #[a, b, c, d, e] T)) (x y z u v : Value) : (((((w.setCell ⟨s, 0, none⟩ x).setCell ⟨s, 1, none⟩ y).setCell ⟨s, 2, none⟩ z).setCell ⟨s, 3, none⟩ u).setCell ⟨s, 4, none⟩ v).heap[s]? = some (.cells #[x, y, z, u, v] T) := by (apply row_trans; focus (repeat (first | (with_reducible exact h) | (with_reducible apply row_set) | (with_reducible apply row_drewN) | (with_reducible apply row_drew)))); rfl
theorem sts5_other {w : World} {s k : Nat} (hk : k ≠ s) (x y z u v : Value) : (((((w.setCell ⟨s, 0, none⟩ x).setCell ⟨s, 1, none⟩ y).setCell ⟨s, 2, none⟩ z).setCell ⟨s, 3, none⟩ u).setCell ⟨s, 4, none⟩ v).heap[k]? = w.heap[k]? :=
  (Below.heap_setCell _ _ _ _ hk).trans ((Below.heap_setCell _ _ _ _ hk).trans ((Below.heap_setCell _ _ _ _ hk).trans ((Below.heap_setCell _ _ _ _ hk).trans (Below.heap_setCell _ _ _ _ hk))))
theorem pop_end {w4 : World} {s e : Nat} (hne : s ≠ e) {a b c : Value} {a0 a1 a2 a3 a4 : Value} {T U : TypeId} (hr : w4.heap[s]? = some (.cells #[a, b, c] T)) (he : w4.heap[e]? = some (.cells #[a0, a1, a2, a3, a4] U)) (x y z v0 v1 v2 v3 v4 : Value) :
    ∃ w5, w5 = (((((((((w4.setCell ⟨s, 0, none⟩ x).setCell ⟨s, 1, none⟩ y).setCell ⟨s, 2, none⟩ z).setCell ⟨e, 0, none⟩ v0).setCell ⟨e, 1, none⟩ v1).setCell ⟨e, 2, none⟩ v2).setCell ⟨e, 3, none⟩ v3).setCell ⟨e, 4, none⟩ v4).drew) ∧
      w5.heap[s]? = some (.cells #[x, y, z] T) ∧ w5.heap[e]? = some (.cells #[v0, v1, v2, v3, v4] U) ∧ (∀ k, k ≠ s → k ≠ e → w5.heap[k]? = w4.heap[k]?) ∧ (∀ {B : Nat} {w : World}, Below B w w4 → B ≤ s → B ≤ e → Below B w w5) := by
  obtain ⟨wm, hwm⟩ : ∃ wm, wm = ((w4.setCell ⟨s, 0, none⟩ x).setCell ⟨s, 1, none⟩ y).setCell ⟨s, 2, none⟩ z := ⟨_, rfl⟩
  have m1 : wm.heap[s]? = some (.cells #[x, y, z] T) := by rw [hwm]; exact sts3 hr x y z
  have m2 : ∀ k, k ≠ s → wm.heap[k]? = w4.heap[k]? := fun k hk => by rw [hwm]; exact sts3_other hk x y z
  have m3 : ∀ {B : Nat} {w : World}, Below B w w4 → B ≤ s → Below B w wm := fun hb h1 => by rw [hwm]; exact Below.setCell (Below.setCell (Below.setCell hb h1 _) h1 _) h1 _
  rw [← hwm]
  clear hwm
  obtain ⟨wn, hwn⟩ : ∃ wn, wn = ((((wm.setCell ⟨e, 0, none⟩ v0).setCell ⟨e, 1, none⟩ v1).setCell ⟨e, 2, none⟩ v2).setCell ⟨e, 3, none⟩ v3).setCell ⟨e, 4, none⟩ v4 := ⟨_, rfl⟩
  have n1 : wn.heap[e]? = some (.cells #[v0, v1, v2, v3, v4] U) := by rw [hwn]; exact sts5 ((m2 e (Ne.symm hne)).trans he) v0 v1 v2 v3 v4
  have n2 : ∀ k, k ≠ e → wn.heap[k]? = wm.heap[k]? := fun k hk => by rw [hwn]; exact sts5_other hk v0 v1 v2 v3 v4
  have n3 : ∀ {B : Nat} {w : World}, Below B w wm → B ≤ e → Below B w wn := fun hb h1 => by rw [hwn]; exact Below.setCell (Below.setCell (Below.setCell (Below.setCell (Below.setCell hb h1 _) h1 _) h1 _) h1 _) h1 _
  rw [← hwn]
  clear hwn
  exact ⟨wn.drew, rfl, (n2 s hne).trans m1, n1, fun k h1 h2 => (n2 k h2).trans (m2 k h1), fun hb h1 h2 => by have h := n3 (m3 hb h1) h2; exact ⟨h.os, h.tape, h.output, h.size, h.block⟩⟩
set_option maxRecDepth 100000 in
set_option maxHeartbeats 8000000 in
theorem refPop_any (w : World) (now : Int) (last : Nat) (a : Option Addr) (c : Nat) (l : List Ev) (h : EvR w (.slice a l.length c) l) (hl : l.length ≤ 10000) (h0 : 0 < l.length) :
    Calls Try.prog 24 #[.agg #[.int .i64 now, .int .i64 (last : Int), .slice a l.length c]] w (PopR w last l) := by
  have H := Lib.hid h
  have c2 := blk_cell (i := 2) (heap_alloc_new w (.cells #[.int .i64 now, .int .i64 (last : Int), .slice a l.length c] 52)) rfl
  have hne : ((l.length : Int) == 0) = false := beq_eq_false_iff_ne.2 (by omega)
  clear h
  go_enter Try.func24, Try.ntmps24
  go_wp2_with fail
  obtain ⟨w1, hw1⟩ : ∃ w1, w1 = (((w.alloc (.cells #[.int .i64 now, .int .i64 (last : Int), .slice a l.length c] 52)).alloc (.cells #[.int .i64 0, .int .i64 0, .slice none 0 0] 52)).alloc (.cells #[.int .i64 0, .int .i64 0, .int .i64 0, .int .i64 0, .int .i64 0] 44)) := ⟨_, rfl⟩
  rw [← hw1]
  have HB0 := Lib.hid (show Below w.heap.size w w1 by rw [hw1]; (repeat (first | (with_reducible exact Below.refl _ _) | (with_reducible refine Bw.alloc ?_ _) | (with_reducible refine Bw.drewN ?_ _) | (with_reducible refine Bw.drew ?_))))
  have hq1 : w1.heap[w.heap.size]? = some (.cells #[.int .i64 now, .int .i64 (last : Int), .slice a l.length c] 52) := by rw [hw1]; exact (Below.heap_alloc _ _ _ (by simp; omega)).trans (row_alloc_at _ _ _ _ rfl)
  have hr1 : w1.heap[w.heap.size + 1]? = some (.cells #[.int .i64 0, .int .i64 0, .slice none 0 0] 52) := by rw [hw1]; exact row_alloc_at _ _ _ _ (by simp)
  have he1 : w1.heap[w.heap.size + 1 + 1]? = some (.cells #[.int .i64 0, .int .i64 0, .int .i64 0, .int .i64 0, .int .i64 0] 44) := by rw [hw1]; exact heap_alloc_at _ _ _ (by simp)
  have hz1 : w1.heap.size = w.heap.size + 3 := by rw [hw1]; simp
  have HQ1 := Lib.hid hq1; have HR1 := Lib.hid hr1; have HE1 := Lib.hid he1; have HZ1 := Lib.hid hz1
  clear c2 hw1 hr1 hz1 hq1 he1
  go_loopw [5, 6] (fun bi i wr => ∃ j b : Nat, 1 ≤ j ∧ j ≤ l.length ∧ b < l.length ∧ i = .int .i64 j ∧ bi = .int .i64 b ∧ Hid (∃ x, l[b]? = some x ∧ ∀ y ∈ l.take j, ¬ Lt y x) ∧ Hid (Below w1.heap.size w1 wr)) (fun _ i _ => l.length - (intOf i).toNat)
  case atStart =>
    refine ⟨1, 0, by omega, by omega, h0, rfl, rfl, Lib.hid ?_, Lib.hid (Below.refl _ _)⟩
    obtain ⟨x, l', rfl⟩ : ∃ x l', l = x :: l' := by
      cases l with
      | nil => simp at h0
      | cons x l' => exact ⟨x, l', rfl⟩
    refine ⟨x, rfl, fun y hy => ?_⟩
    obtain rfl : y = x := by simpa using hy
    exact Lt.irrefl _
  case round =>
    obtain ⟨j, b, hj1, hj, hbl, rfl, rfl, HX, HW⟩ := hrel
    have hqr := (HW.out.block w.heap.size (by have := HZ1.out; omega)).trans HQ1.out
    obtain ⟨q0, q1, q2⟩ := refq_cells hqr
    clear hqr
    obtain ⟨x, hx, hmin⟩ := HX.out
    have HMIN := Lib.hid hmin
    clear hmin HX
    have HEV := Lib.hid (show EvR wr (.slice a l.length c) l from Rd.below (Rd.below H.out HB0.out) (HW.out.mono (by have := HZ1.out; omega)))
    obtain ⟨eb, off, rfl, x0, x1, x2, x3, x4⟩ := ev_at HEV.out hx
    have HXE := Lib.hid hx
    clear hx
    by_cases hlt : j < l.length
    · obtain ⟨y, hy⟩ : ∃ y, l[j]? = some y := ⟨l[j], List.getElem?_eq_getElem hlt⟩
      obtain ⟨eb', off', hee, y0, y1, y2, y3, y4⟩ := ev_at HEV.out hy
      obtain ⟨rfl, rfl⟩ : eb = eb' ∧ off = off' := by simpa using hee
      have HYE := Lib.hid hy
      clear hy hee
      go_wp2_with fail
      refine wp_region_still_tail 10 (by kernel_rfl) (by kernel_rfl) ?_
      simp only [List.take_succ_cons, List.take_zero, List.drop_succ_cons, List.drop_zero]
      change wpStill _ _ (World.drew _) (fun a' => wpList _ _ _ _ a' (World.drew _)) _ _
      repeat still_step
      refine wpStill_nil ?_
      go_wp2_with fail
      refine (refBefore_any y x _).mono ?_
      rintro ee w2 ⟨rfl, hb2⟩
      have HW2 := Lib.hid (HW.out.trans (Below.trans (show Below w1.heap.size wr wr.drew from (below_drew wr 1).mono HW.out.size) (hb2.mono HW.out.size)))
      clear hb2
      by_cases hc : ltB y x = true
      · have HC := Lib.hid hc
        go_wp2_with fail
        go_roundw
        case rel =>
          refine ⟨j + 1, j, by omega, by omega, hlt, by go_num, rfl, Lib.hid ⟨y, HYE.out, fun z hz hzy => ?_⟩, HW2⟩
          rw [List.take_add_one, HYE.out] at hz
          rcases List.mem_append.1 hz with hz | hz
          · exact HMIN.out z hz (hzy.trans (ltB_iff.1 HC.out))
          · obtain rfl : z = y := by simpa using hz
            exact Lt.irrefl _ hzy
        case measure => simp [intOf]; omega
      · have hc' : ltB y x = false := by simpa using hc
        clear hc
        go_wp2_with fail
        go_roundw
        case rel =>
          refine ⟨j + 1, b, by omega, by omega, hbl, by go_num, rfl, Lib.hid ⟨x, HXE.out, fun z hz hzy => ?_⟩, HW2⟩
          rw [List.take_add_one, HYE.out] at hz
          rcases List.mem_append.1 hz with hz | hz
          · exact HMIN.out z hz hzy
          · obtain rfl : z = y := by simpa using hz
            rw [ltB_iff.2 hzy] at hc'
            cases hc'
        case measure => simp [intOf]; omega
    · obtain rfl : j = l.length := by omega
      have HAL := Lib.hid (Below.heap_alloc wr (.cells #[.int .i64 x.at', .int .i64 x.kind, .int .i64 x.node, .int .i64 x.number, .int .i64 x.arg] 44))
      have hsz := HW.out.size
      have hz1 := HZ1.out
      have hq2 := (HAL.out w.heap.size (by omega)).trans ((HW.out.block w.heap.size (by omega)).trans HQ1.out)
      obtain ⟨z0, z1, z2⟩ := refq_cells hq2
      have hbx := heap_alloc_new wr (.cells #[.int .i64 x.at', .int .i64 x.kind, .int .i64 x.node, .int .i64 x.number, .int .i64 x.arg] 44)
      have k0 := blk_cell (i := 0) hbx rfl; have k1 := blk_cell (i := 1) hbx rfl; have k2 := blk_cell (i := 2) hbx rfl; have k3 := blk_cell (i := 3) hbx rfl; have k4 := blk_cell (i := 4) hbx rfl
      clear hq2 hbx
      go_wp2_with fail
      refine (remove_any _ eb off c l (by exact Rd.below (w := wr) HEV.out (below_alloc _ _)) hl b hbl).mono ?_
      rintro ee w2 ⟨a2, c2, rfl, hev2, hbk2, hbw2⟩
      have hszA : (wr.alloc (.cells #[.int .i64 x.at', .int .i64 x.kind, .int .i64 x.node, .int .i64 x.number, .int .i64 x.arg] 44)).heap.size = wr.heap.size + 1 := by simp
      have HQ2 := Lib.hid ((hbw2.block w.heap.size (by omega)).trans ((HAL.out w.heap.size (by omega)).trans ((HW.out.block w.heap.size (by omega)).trans HQ1.out)))
      have HR2 := Lib.hid ((hbw2.block (w.heap.size + 1) (by omega)).trans ((HAL.out (w.heap.size + 1) (by omega)).trans ((HW.out.block (w.heap.size + 1) (by omega)).trans HR1.out)))
      have HE2 := Lib.hid ((hbw2.block (w.heap.size + 1 + 1) (by omega)).trans ((HAL.out (w.heap.size + 1 + 1) (by omega)).trans ((HW.out.block (w.heap.size + 1 + 1) (by omega)).trans HE1.out)))
      have HX2 := Lib.hid ((hbw2.block wr.heap.size (by omega)).trans (heap_alloc_new wr (.cells #[.int .i64 x.at', .int .i64 x.kind, .int .i64 x.node, .int .i64 x.number, .int .i64 x.arg] 44)))
      clear z0 z1 z2 k0 k1 k2 k3 k4 q0 q1 q2 x0 x1 x2 x3 x4
      obtain ⟨z0, z1, z2⟩ := refq_cells HQ2.out
      obtain ⟨t0, t1, t2⟩ := refq_cells HR2.out
      have f1 := fun i => blk_free HQ2.out i; have f2 := fun i => blk_free HR2.out i; have f3 := fun i => blk_free HE2.out i
      have k0 := blk_cell (i := 0) HX2.out rfl; have k1 := blk_cell (i := 1) HX2.out rfl; have k2 := blk_cell (i := 2) HX2.out rfl; have k3 := blk_cell (i := 3) HX2.out rfl; have k4 := blk_cell (i := 4) HX2.out rfl
      have n0 := blk_cell (i := 0) HE2.out rfl; have n1 := blk_cell (i := 1) HE2.out rfl; have n2 := blk_cell (i := 2) HE2.out rfl; have n3 := blk_cell (i := 3) HE2.out rfl; have n4 := blk_cell (i := 4) HE2.out rfl
      have HEV2 := Lib.hid hev2; have HBK2 := Lib.hid hbk2; have HBW2 := Lib.hid (HB0.out.trans ((HW.out.mono (by omega)).trans (Below.trans ((below_alloc wr _).mono (by omega)) (hbw2.mono (by omega)))))
      have hne1 : w.heap.size ≠ wr.heap.size ∧ w.heap.size + 1 ≠ wr.heap.size ∧ w.heap.size + 1 + 1 ≠ wr.heap.size := by omega
      clear hev2 hbk2 hbw2
      go_wp2_with fail
      obtain ⟨w4, hw4⟩ : ∃ w4, w4 = ((w2.setCell ⟨w.heap.size, 2, none⟩ (.slice a2 (min b l.length + (l.length - (b + 1))) c2)).setCell ⟨w.heap.size, 0, none⟩ (.int .i64 x.at')) := ⟨_, rfl⟩
      rw [← hw4]
      have HQ4 := Lib.hid (show w4.heap[w.heap.size]? = some (.cells #[.int .i64 x.at', .int .i64 (last : Int), .slice a2 (min b l.length + (l.length - (b + 1))) c2] 52) by rw [hw4]; (apply row_trans; focus (repeat (first | (with_reducible exact HQ2.out) | (with_reducible apply row_set) | (with_reducible apply row_drewN) | (with_reducible apply row_drew) | (with_reducible apply row_alloc) | (apply row_set_other (by first | omega | (simp <;> omega)))))); rfl)
      have HR4 := Lib.hid (show w4.heap[w.heap.size + 1]? = some (.cells #[.int .i64 0, .int .i64 0, .slice none 0 0] 52) by rw [hw4]; (apply row_trans; focus (repeat (first | (with_reducible exact HR2.out) | (with_reducible apply row_set) | (with_reducible apply row_drewN) | (with_reducible apply row_drew) | (with_reducible apply row_alloc) | (apply row_set_other (by first | omega | (simp <;> omega)))))); rfl)
      have HE4 := Lib.hid (show w4.heap[w.heap.size + 1 + 1]? = some (.cells #[.int .i64 0, .int .i64 0, .int .i64 0, .int .i64 0, .int .i64 0] 44) by rw [hw4]; (apply row_trans; focus (repeat (first | (with_reducible exact HE2.out) | (with_reducible apply row_set) | (with_reducible apply row_drewN) | (with_reducible apply row_drew) | (with_reducible apply row_alloc) | (apply row_set_other (by first | omega | (simp <;> omega)))))); rfl)
      have HX4 := Lib.hid (show w4.heap[wr.heap.size]? = some (.cells #[.int .i64 x.at', .int .i64 x.kind, .int .i64 x.node, .int .i64 x.number, .int .i64 x.arg] 44) by rw [hw4]; (apply row_trans; focus (repeat (first | (with_reducible exact HX2.out) | (with_reducible apply row_set) | (with_reducible apply row_drewN) | (with_reducible apply row_drew) | (with_reducible apply row_alloc) | (apply row_set_other (by first | omega | (simp <;> omega)))))); rfl)
      have HB4 := Lib.hid (show Below w.heap.size w w4 by rw [hw4]; exact Below.setCell (Below.setCell HBW2.out (by simp) _) (by simp) _)
      have HK4 := Lib.hid (show ∀ k, k ≠ w.heap.size → w4.heap[k]? = w2.heap[k]? from fun k hk => by rw [hw4, Below.heap_setCell _ _ _ _ (by simpa using hk), Below.heap_setCell _ _ _ _ (by simpa using hk)])
      clear hw4 z0 z1 z2 t0 t1 t2 f1 f2 f3 k0 k1 k2 k3 k4 n0 n1 n2 n3 n4 HQ2 HR2 HE2 HX2
      obtain ⟨z0, z1, z2⟩ := refq_cells HQ4.out
      obtain ⟨t0, t1, t2⟩ := refq_cells HR4.out
      have f2 := fun i => blk_free HR4.out i; have f3 := fun i => blk_free HE4.out i
      have k0 := blk_cell (i := 0) HX4.out rfl; have k1 := blk_cell (i := 1) HX4.out rfl; have k2 := blk_cell (i := 2) HX4.out rfl; have k3 := blk_cell (i := 3) HX4.out rfl; have k4 := blk_cell (i := 4) HX4.out rfl
      have n0 := blk_cell (i := 0) HE4.out rfl; have n1 := blk_cell (i := 1) HE4.out rfl; have n2 := blk_cell (i := 2) HE4.out rfl; have n3 := blk_cell (i := 3) HE4.out rfl; have n4 := blk_cell (i := 4) HE4.out rfl
      go_region_law (fail)
      all_goals go_wp2_with fail
      all_goals
        obtain ⟨w5, e5, hr5, he5, hk5, hb5⟩ := pop_end (w4 := w4) (s := w.heap.size + 1) (e := w.heap.size + 1 + 1) (by omega) HR4.out HE4.out (.int .i64 x.at') (.int .i64 (last : Int)) (.slice a2 (min b l.length + (l.length - (b + 1))) c2) (.int .i64 x.at') (.int .i64 x.kind) (.int .i64 x.node) (.int .i64 x.number) (.int .i64 x.arg)
        clear z0 z1 z2 t0 t1 t2 f2 f3 k0 k1 k2 k3 k4 n0 n1 n2 n3 n4
        rw [← e5]
        clear e5
        obtain ⟨y0, y1, y2⟩ := refq_cells hr5
        have m0 := blk_cell (i := 0) he5 rfl; have m1 := blk_cell (i := 1) he5 rfl; have m2 := blk_cell (i := 2) he5 rfl; have m3 := blk_cell (i := 3) he5 rfl; have m4 := blk_cell (i := 4) he5 rfl
        have hlen : (l.take b ++ l.drop (b + 1)).length = min b l.length + (l.length - (b + 1)) := by simp
        have hev := HEV2.out
        have hbk := HBK2.out
        rw [hlen] at hev hbk
        refine bodyPost_ret (v := .tuple #[.agg #[.int .i64 x.at', .int .i64 (last : Int), .slice a2 (min b l.length + (l.length - (b + 1))) c2], .agg #[.int .i64 x.at', .int .i64 x.kind, .int .i64 x.node, .int .i64 x.number, .int .i64 x.arg], .bool true]) (by simp [results, Try.results24, go_sem, y0, y1, y2, m0, m1, m2, m3, m4]) rfl ⟨b, x, a2, _, c2, HXE.out, fun y hy => HMIN.out y (by rw [List.take_length]; exact hy), rfl, ⟨hlen.symm, ?_, fun k hk => by have h1 := hbk k hk; omega⟩, hb5 HB4.out (by omega) (by omega)⟩
        unfold EvR at hev ⊢
        refine hev.keep fun k hk _ => ?_
        have h1 := hbk k hk
        exact (hk5 k (by omega) (by omega)).trans (HK4.out k (by omega))
end Go.Proofs.Ytococphklfbidaa
