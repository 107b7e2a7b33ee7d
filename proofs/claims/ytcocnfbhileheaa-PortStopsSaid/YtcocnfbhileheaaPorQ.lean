/- A port in memory: Offer. -/
import Derived.Test.YtcocnfbhileheaaPorO
import Derived.Test.YtcocnfbhileheaaReg
namespace Go.Proofs.Ytcocnfbhileheaa
open Go.RowKit

theorem cell_ne {w : World} {p b i j : Nat} {u v : Value} (hne : p ≠ b) (h : w.cell? ⟨p, j, none⟩ = some v) : (w.setCell ⟨b, i, none⟩ u).cell? ⟨p, j, none⟩ = some v :=
  (World.cell?_of_block (heap_setCell_other w ⟨b, i, none⟩ p u hne)).trans h
/-- blocks of two things are two -/
theorem Held.apart {F Z : BS} {W w : World} {ts : List Th} {A B : Th} {p q : Nat} (h : Held F Z W ts w) (i j : Nat) (hij : i ≠ j) (hi : ts[i]? = some A) (hj : ts[j]? = some B) (ha : ∀ G Y, A.on w G Y → G p) (hb : ∀ G Y, B.on w G Y → G q) : p ≠ q := by
  obtain ⟨L, _, _, h3⟩ := h
  intro e
  subst e
  have h1 : L p = i + 2 := ha _ _ (h3 i A hi)
  have h2 : L p = j + 2 := hb _ _ (h3 j B hj)
  omega
section
variable {w : World} {F Z : BS} {W : World} {ts : List Th} {p : Nat} {a : Prt}
theorem poffer_nil (c : Int) (v : Value) : Calls Try.prog 14 #[.pointer none, .int .i64 c, v] w fun e w' => e = .returned (.int .i64 1) ∧ w = w' := by
  go_enter Try.func14, Try.ntmps14
  go_wp2_with fail
  go_ret
  exact ⟨rfl, rfl⟩
theorem poffer_range {n : Nat} (c : Int) (da : Option Addr) (dn dc : Nat) (ra : Option Addr) (rc : Nat) (_ : n ≤ 4) (hdn : dn ≤ 1000000) (hc : c < 0 ∨ (n : Int) ≤ c ∨ 64 < dn) (h1 : w.cell? ⟨p, 1, none⟩ = some (.slice ra n rc)) :
    Calls Try.prog 14 #[.pointer (some ⟨p, 0, none⟩), .int .i64 c, .slice da dn dc] w fun e w' => e = .returned (.int .i64 2) ∧ w = w' := by
  by_cases h0 : c < 0 ∨ (n : Int) ≤ c
  · have HQ := Lib.hid (exists_no (p := p) (w := w) c ra rc h0 h1)
    clear h1 hc h0
    go_enter Try.func14, Try.ntmps14
    go_wp2_with (go_at_call 43; refine HQ.out.mono ?_; rintro e w' ⟨rfl, rfl⟩)
    go_ret
    exact ⟨rfl, rfl⟩
  · obtain ⟨m, rfl⟩ : ∃ m : Nat, c = (m : Int) := ⟨c.toNat, by omega⟩
    have hd : 64 < dn := by omega
    have HQ := Lib.hid (exists_yes (p := p) (w := w) m ra rc (by omega) h1)
    clear h1 hc h0
    go_enter Try.func14, Try.ntmps14
    go_wp2_with (go_at_call 43; refine HQ.out.mono ?_; rintro e w' ⟨rfl, rfl⟩)
    go_ret
    exact ⟨rfl, rfl⟩
set_option maxRecDepth 100000 in
set_option maxHeartbeats 8000000 in
theorem poffer_full {N : Nat} (h : Held F Z W ts w) (i : Nat) (hi : ts[i]? = some (tPort p a)) (hok : a.Ok N) (_ : N ≤ 1000000000) (m : Nat) (hm : m < a.rooms.length) (da : Option Addr) (dn dc : Nat) (hd : dn ≤ 64) (hf : 64 ≤ (a.waiting.getD m []).length) :
    Calls Try.prog 14 #[.pointer (some ⟨p, 0, none⟩), .int .i64 (m : Int), .slice da dn dc] w fun e w' => e = .returned (.int .i64 5) ∧ w = w' := by
  obtain ⟨G, Y, x, hst⟩ := h.get i hi
  obtain ⟨rv, sp, ap, wv, bv, snp, rcp, tkp, gvp, bsv, kv, acv, rev, tav⟩ := x
  have hrow := (hst.get (i := 0) rfl).1
  obtain ⟨_, c1, _, _, _, _, _, c7, _⟩ := port_cells hrow
  have hr := hst.get (i := 1) rfl
  have hb := hst.get (i := 4) rfl
  dsimp only at *
  have n1 := hok.n1; have n4 := hok.n4; have wl := hok.wl
  obtain ⟨rb, ro, rc, rfl, _, _⟩ := sq_some hr n1
  obtain ⟨b1, o1, k1, rfl, m1, m1'⟩ := sq_some hb (by omega)
  have hx := getD_of (d := []) (show m < a.waiting.length by omega)
  have hln := hok.wln _ (List.mem_of_getElem? hx)
  obtain ⟨v, A, hv, hsq, _⟩ := sqsq_at hb hx
  obtain ⟨b2, o2, k2, rfl, m2, m2'⟩ := sq_some hsq (by omega)
  rw [wl] at c7 m1
  generalize (a.waiting.getD m []).length = q at *
  have HQ := Lib.hid (exists_yes (p := p) (w := w) m (some ⟨rb, ro, none⟩) rc hm c1)
  clear hst hrow hr hb hi h hok wl c1 m1' hsq hx
  go_enter Try.func14, Try.ntmps14
  go_wp2_with (go_at_call 43; refine HQ.out.mono ?_; rintro e w' ⟨rfl, rfl⟩)
  go_ret
  exact ⟨rfl, rfl⟩
set_option maxRecDepth 100000 in
set_option maxHeartbeats 8000000 in
theorem poffer_yes {N : Nat} (h : Held F Z W ts w) (i j : Nat) (hi : ts[i]? = some (tPort p a)) (hok : a.Ok N) (_ : N ≤ 1000000000) (m : Nat) (hm : m < a.rooms.length) (dv : Value) (d : Bytes) (hj : ts[j]? = some (tBy dv d)) (hij : j ≠ i) (hd : d.length ≤ 64) (hf : (a.waiting.getD m []).length < 64) :
    Calls Try.prog 14 #[.pointer (some ⟨p, 0, none⟩), .int .i64 (m : Int), dv] w fun e w' => e = .returned (.int .i64 0) ∧ Held F Z W (ts.set i (tPort p { a with waiting := a.waiting.set m (a.waiting.getD m [] ++ [d]) })) w' := by
  obtain ⟨G, Y, hon, hdGY, _, hoth, hback⟩ := h.use i hi
  obtain ⟨H, _, _, hby⟩ := hoth j _ hij hj
  suffices hs : Calls Try.prog 14 #[.pointer (some ⟨p, 0, none⟩), .int .i64 (m : Int), dv] w fun e w' => e = .returned (.int .i64 0) ∧ Did w G Y [tPort p { a with waiting := a.waiting.set m (a.waiting.getD m [] ++ [d]) }] w' from
    hs.mono fun e w' ⟨he, hh⟩ => ⟨he, by have := hback w' _ [] hh; rwa [List.append_nil] at this⟩
  clear hback hoth h hi hj
  obtain ⟨x, hst⟩ := Held.port hon hdGY
  clear hon
  obtain ⟨rv, sp, ap, wv, bv, snp, rcp, tkp, gvp, bsv, kv, acv, rev, tav⟩ := x
  have hrow := hst.blk 0 rfl
  obtain ⟨_, c1, _, _, _, _, _, c7, _⟩ := port_cells hrow
  obtain ⟨_, _, hr⟩ := hst.get 1 rfl
  obtain ⟨_, _, hb⟩ := hst.get 4 rfl
  have n1 := hok.n1; have n4 := hok.n4; have wl := hok.wl
  obtain ⟨rb, ro, rc, e1, _, _⟩ := sq_some (show Sq eNat 3 w _ _ rv a.rooms from hr) n1
  obtain ⟨b1, o1, k1, e2, m1, m1'⟩ := sq_some (show Sq (eSq eBy 31) 48 w _ _ wv a.waiting from hb) (by omega)
  subst e1 e2
  have hbf := (Sq.free (show Sq (eSq eBy 31) 48 w _ _ (.slice (some ⟨b1, o1, none⟩) a.waiting.length k1) a.waiting from hb)).2.2.2
  have hx := getD_of (d := []) (show m < a.waiting.length by omega)
  have hpb : p ≠ b1 := hst.apart 0 4 (by decide) rfl rfl (fun _ _ h => h.2) fun _ _ h => (Sq.free (show Sq _ _ _ _ _ _ _ from h)).2.1
  obtain ⟨vc, hvc, hout⟩ := hst.out 4 rfl hx
  obtain ⟨_, _, hsq⟩ := hout.get 15 rfl
  obtain ⟨va, k2, e3⟩ := Sq.shape (show Sq eBy 31 w _ _ vc (a.waiting.getD m []) from hsq)
  subst e3
  obtain ⟨da, dc, e4⟩ := hby.slice
  subst e4
  obtain ⟨xs, hxs⟩ : ∃ xs, xs = a.waiting.getD m [] := ⟨_, rfl⟩
  have HXS := Lib.hid hxs
  rw [← hxs] at hf hvc hout
  have HQ := Lib.hid (exists_yes (p := p) (w := w) m (some ⟨rb, ro, none⟩) rc hm c1)
  have HBY := Lib.hid hby
  have HOUT := Lib.hid hout
  rw [wl] at c7 m1
  dsimp only at c7
  clear hst hrow hr hb hby hout hsq hx hxs c1 m1'
  have hf1 : decide (64 ≤ xs.length) = false := by simp; omega
  have hd1 : decide (64 < d.length) = false := by simp; omega
  go_enter Try.func14, Try.ntmps14
  go_wp2_with (go_at_call 43; refine HQ.out.mono ?_; rintro e w' ⟨rfl, rfl⟩)
  refine wp_region_held_drew (S := fun w' => w'.cell? ⟨p, 7, none⟩ = some (.slice (some ⟨b1, o1, none⟩) a.rooms.length k1)) (by kernel_rfl) c7 (fun hS0 => ?_)
  change wpAnyH _ _ _ _ _ (7 + 11) _ _ _
  refine wpAnyH_take_n 0 11 (by kernel_rfl) hS0 (fun _ _ _ _ _ h => h) ?_
  simp only [List.drop_zero, List.take_succ_cons, List.take_zero]
  iterate 11 (refine wpFirst_val (v := ?_) (by rfl) ?_ ?_; rotate_left 1; (focus ((intro w' hS'; go_simp); try with_reducible rfl)); simp only [Act.put, List.setIfInBounds_toArray, List.set_cons_zero, List.set_cons_succ])
  refine wpFirst_nil ?_
  change wpAnyH _ _ _ _ _ (6 + 1) _ _ _
  refine wpAnyH_take_n 12 1 (by kernel_rfl) hS0 (fun _ _ _ _ _ h => h) ?_
  simp only [List.drop_succ_cons, List.drop_zero, List.take_succ_cons, List.take_zero]
  (refine wpFirst_val (v := ?_) (by rfl) ?_ ?_; rotate_left 1; (focus ((intro w' hS'; go_simp); try with_reducible rfl)); simp only [Act.put, List.setIfInBounds_toArray, List.set_cons_zero, List.set_cons_succ])
  refine wpFirst_nil ?_
  refine wpAnyH_two 11 13 (by kernel_rfl) rfl rfl (fun K hK => ?_) (fun K hK => ?_)
  focus
    go_simp
    refine hK.out _ _ c7 ?_
    clear hK K
    refine wpAnyH_one 13 (by kernel_rfl) rfl (fun K hK => ?_)
    (refine step_call (f := ?_) (args := ?_) (by rfl) ?_ ?_; rotate_left 2; (focus (go_simp; first | (with_reducible rfl) | (refine ⟨?_, ?_⟩ <;> with_reducible rfl))); (refine (clone_any _ d _ (HBY.out.1.drewN 1) (by omega)).mono ?_); rintro e' w1 ⟨v1, rfl, ho, hb1⟩)
    refine ⟨_, rfl, ?_⟩
    simp only [Act.put, List.setIfInBounds_toArray, List.set_cons_zero, List.set_cons_succ]
    have hb1' : Below w.heap.size w w1 := (below_drew w 1).trans hb1
    obtain ⟨va1, vk1, rfl⟩ := ow_shape ho
    have hp1 : p < w.heap.size := World.block_lt_of_cell? w _ c7
    have hl1 : b1 < w.heap.size := World.block_lt_of_cell? w _ hvc
    have hS1 : w1.cell? ⟨p, 7, none⟩ = some (.slice (some ⟨b1, o1, none⟩) a.rooms.length k1) ∧ w1.cell? ⟨b1, o1 + m, none⟩ = some (.slice va xs.length k2) := ⟨(World.cell?_of_block (hb1'.block p hp1)).trans c7, (World.cell?_of_block (hb1'.block b1 hl1)).trans hvc⟩
    have HA := HOUT.out.addZ hb1' (T := tBy (.slice va1 d.length vk1) d) ho.byZ
    have HB1 := Lib.hid hb1'
    obtain ⟨Kx, us, hsl, hKn, hback⟩ := HA.app 15 rfl
    have hKp : ¬ Kx p := hKn p 0 _ (by decide) rfl fun H Y h => .inl h.2
    have hKb : ¬ Kx b1 := hKn b1 4 _ (by decide) rfl fun H Y h => .inl (Sq.free (show Sq _ _ _ H Y _ _ from h)).2.1
    have HBACK := Lib.hid hback
    have HSL := Lib.hid hsl
    clear hb1 hb1' ho HA hKn hback hsl
    have hba := below_alloc w1 (.cells #[.slice va1 d.length vk1] 31)
    have hS2 : (w1.alloc (.cells #[.slice va1 d.length vk1] 31)).cell? ⟨p, 7, none⟩ = some (.slice (some ⟨b1, o1, none⟩) a.rooms.length k1) ∧ (w1.alloc (.cells #[.slice va1 d.length vk1] 31)).cell? ⟨b1, o1 + m, none⟩ = some (.slice va xs.length k2) := ⟨alloc_cell _ _ hS1.1, alloc_cell _ _ hS1.2⟩
    have HARM := Lib.hid (fun (v2 : Value) (w2 : World) (hsl2 : Sl w2 (fun k => Kx k ∨ (w1.alloc (.cells #[.slice va1 d.length vk1] 31)).heap.size ≤ k) 31 1 v2 (xs.length + 1) (us ++ [.slice va1 d.length vk1])) (hfr2 : Fr Kx (w1.alloc (.cells #[.slice va1 d.length vk1] 31)) w2) =>
      show ∃ g2 off2 cap2, v2 = .slice (some ⟨g2, off2, none⟩) (xs.length + 1) cap2 ∧ w2.cell? ⟨b1, o1 + m, none⟩ = some (.slice va xs.length k2) ∧ (∀ j, w2.frozen? ⟨b1, j, none⟩ = false) ∧ w2.cell? ⟨p, 7, none⟩ = some (.slice (some ⟨b1, o1, none⟩) a.rooms.length k1) ∧ Hid (Held G Y w (portThs p { a with waiting := a.waiting.set m (xs ++ [d]) } ⟨.slice (some ⟨rb, ro, none⟩) a.rooms.length rc, sp, ap, .slice (some ⟨b1, o1, none⟩) a.waiting.length k1, bv, snp, rcp, tkp, gvp, bsv, kv, acv, rev, tav⟩) (w2.setCell ⟨b1, o1 + m, none⟩ (.slice (some ⟨g2, off2, none⟩) (xs.length + 1) cap2))) from by
      obtain ⟨g2, off2, cap2, rfl, _⟩ := Sl.head hsl2 (by omega)
      have hpA : p < (w1.alloc (.cells #[.slice va1 d.length vk1] 31)).heap.size := World.block_lt_of_cell? _ _ hS2.1
      have hbA : b1 < (w1.alloc (.cells #[.slice va1 d.length vk1] 31)).heap.size := World.block_lt_of_cell? _ _ hS2.2
      have hS3 : w2.cell? ⟨p, 7, none⟩ = some (.slice (some ⟨b1, o1, none⟩) a.rooms.length k1) ∧ w2.cell? ⟨b1, o1 + m, none⟩ = some (.slice va xs.length k2) := ⟨(World.cell?_of_block (hfr2.block p hpA hKp)).trans hS2.1, (World.cell?_of_block (hfr2.block b1 hbA hKb)).trans hS2.2⟩
      have hs4 := HBACK.out _ w2 [.slice va1 d.length vk1] [d] _ hba hsl2 hfr2 fun Y hO => by
        obtain ⟨H, _, hh⟩ := hO 16 _ (by decide) rfl
        exact ⟨fun _ => False, Y, fun _ f => f.elim, fun _ y => .inl y, fun _ f => f.elim, Els.single (E := eBy) ⟨_, rfl, ByZ.below hh hba⟩⟩
      have hs5 : Held G Y w ((portThs p a ⟨.slice (some ⟨rb, ro, none⟩) a.rooms.length rc, sp, ap, .slice (some ⟨b1, o1, none⟩) a.waiting.length k1, bv, snp, rcp, tkp, gvp, bsv, kv, acv, rev, tav⟩).set 4 (tSq (eOpt (eSq eBy 31)) 48 (.slice (some ⟨b1, o1, none⟩) a.waiting.length k1) ((a.waiting.map some).set m none)) ++ [tSq eBy 31 (.slice (some ⟨g2, off2, none⟩) (xs.length + 1) cap2) (xs ++ [d])]) w2 :=
        hs4.pick [0, 1, 2, 3, 4, 5, 6, 7, 8, 9, 10, 11, 12, 13, 14, 15] _ (by decide) rfl
      have HS5 := Lib.hid (Held.back (c := m) (yss := a.waiting.set m (xs ++ [d])) hs5 4 rfl (by rw [List.length_set, List.length_map]; omega) set_gap)
      have hbf2 : ∀ j, w2.frozen? ⟨b1, j, none⟩ = false := by
        obtain ⟨_, _, hh⟩ := hs5.get 4 rfl
        exact (Sq.free (show Sq (eOpt (eSq eBy 31)) 48 w2 _ _ (.slice (some ⟨b1, o1, none⟩) a.waiting.length k1) ((a.waiting.map some).set m none) from hh)).2.2.2
      exact ⟨g2, off2, cap2, rfl, hS3.2, hbf2, hS3.1, HS5⟩)
    have hw2 := hS1.2
    have hw3 := hS2.2
    have hw1 := hS1.1
    have hw4 := hS2.1
    clear hS1 hS2 hba HBACK hKp hKb
    refine hK.out _ _ hw1 ?_
    clear hK K
    refine wpAnyH_one 14 (by kernel_rfl) rfl (fun K hK => ?_)
    go_simp
    refine hK.out _ _ hw4 ?_
    clear hK K
  rotate_left
  focus
    (refine step_call (f := ?_) (args := ?_) (by rfl) ?_ ?_; rotate_left 2; (focus (go_simp; first | (with_reducible rfl) | (refine ⟨?_, ?_⟩ <;> with_reducible rfl))); (refine (clone_any _ d _ (HBY.out.1.drewN 1) (by omega)).mono ?_); rintro e' w1 ⟨v1, rfl, ho, hb1⟩)
    refine ⟨_, rfl, ?_⟩
    simp only [Act.put, List.setIfInBounds_toArray, List.set_cons_zero, List.set_cons_succ]
    have hb1' : Below w.heap.size w w1 := (below_drew w 1).trans hb1
    obtain ⟨va1, vk1, rfl⟩ := ow_shape ho
    have hp1 : p < w.heap.size := World.block_lt_of_cell? w _ c7
    have hl1 : b1 < w.heap.size := World.block_lt_of_cell? w _ hvc
    have hS1 : w1.cell? ⟨p, 7, none⟩ = some (.slice (some ⟨b1, o1, none⟩) a.rooms.length k1) ∧ w1.cell? ⟨b1, o1 + m, none⟩ = some (.slice va xs.length k2) := ⟨(World.cell?_of_block (hb1'.block p hp1)).trans c7, (World.cell?_of_block (hb1'.block b1 hl1)).trans hvc⟩
    have HA := HOUT.out.addZ hb1' (T := tBy (.slice va1 d.length vk1) d) ho.byZ
    have HB1 := Lib.hid hb1'
    obtain ⟨Kx, us, hsl, hKn, hback⟩ := HA.app 15 rfl
    have hKp : ¬ Kx p := hKn p 0 _ (by decide) rfl fun H Y h => .inl h.2
    have hKb : ¬ Kx b1 := hKn b1 4 _ (by decide) rfl fun H Y h => .inl (Sq.free (show Sq _ _ _ H Y _ _ from h)).2.1
    have HBACK := Lib.hid hback
    have HSL := Lib.hid hsl
    clear hb1 hb1' ho HA hKn hback hsl
    have hba := below_alloc w1 (.cells #[.slice va1 d.length vk1] 31)
    have hS2 : (w1.alloc (.cells #[.slice va1 d.length vk1] 31)).cell? ⟨p, 7, none⟩ = some (.slice (some ⟨b1, o1, none⟩) a.rooms.length k1) ∧ (w1.alloc (.cells #[.slice va1 d.length vk1] 31)).cell? ⟨b1, o1 + m, none⟩ = some (.slice va xs.length k2) := ⟨alloc_cell _ _ hS1.1, alloc_cell _ _ hS1.2⟩
    have HARM := Lib.hid (fun (v2 : Value) (w2 : World) (hsl2 : Sl w2 (fun k => Kx k ∨ (w1.alloc (.cells #[.slice va1 d.length vk1] 31)).heap.size ≤ k) 31 1 v2 (xs.length + 1) (us ++ [.slice va1 d.length vk1])) (hfr2 : Fr Kx (w1.alloc (.cells #[.slice va1 d.length vk1] 31)) w2) =>
      show ∃ g2 off2 cap2, v2 = .slice (some ⟨g2, off2, none⟩) (xs.length + 1) cap2 ∧ w2.cell? ⟨b1, o1 + m, none⟩ = some (.slice va xs.length k2) ∧ (∀ j, w2.frozen? ⟨b1, j, none⟩ = false) ∧ w2.cell? ⟨p, 7, none⟩ = some (.slice (some ⟨b1, o1, none⟩) a.rooms.length k1) ∧ Hid (Held G Y w (portThs p { a with waiting := a.waiting.set m (xs ++ [d]) } ⟨.slice (some ⟨rb, ro, none⟩) a.rooms.length rc, sp, ap, .slice (some ⟨b1, o1, none⟩) a.waiting.length k1, bv, snp, rcp, tkp, gvp, bsv, kv, acv, rev, tav⟩) (w2.setCell ⟨b1, o1 + m, none⟩ (.slice (some ⟨g2, off2, none⟩) (xs.length + 1) cap2))) from by
      obtain ⟨g2, off2, cap2, rfl, _⟩ := Sl.head hsl2 (by omega)
      have hpA : p < (w1.alloc (.cells #[.slice va1 d.length vk1] 31)).heap.size := World.block_lt_of_cell? _ _ hS2.1
      have hbA : b1 < (w1.alloc (.cells #[.slice va1 d.length vk1] 31)).heap.size := World.block_lt_of_cell? _ _ hS2.2
      have hS3 : w2.cell? ⟨p, 7, none⟩ = some (.slice (some ⟨b1, o1, none⟩) a.rooms.length k1) ∧ w2.cell? ⟨b1, o1 + m, none⟩ = some (.slice va xs.length k2) := ⟨(World.cell?_of_block (hfr2.block p hpA hKp)).trans hS2.1, (World.cell?_of_block (hfr2.block b1 hbA hKb)).trans hS2.2⟩
      have hs4 := HBACK.out _ w2 [.slice va1 d.length vk1] [d] _ hba hsl2 hfr2 fun Y hO => by
        obtain ⟨H, _, hh⟩ := hO 16 _ (by decide) rfl
        exact ⟨fun _ => False, Y, fun _ f => f.elim, fun _ y => .inl y, fun _ f => f.elim, Els.single (E := eBy) ⟨_, rfl, ByZ.below hh hba⟩⟩
      have hs5 : Held G Y w ((portThs p a ⟨.slice (some ⟨rb, ro, none⟩) a.rooms.length rc, sp, ap, .slice (some ⟨b1, o1, none⟩) a.waiting.length k1, bv, snp, rcp, tkp, gvp, bsv, kv, acv, rev, tav⟩).set 4 (tSq (eOpt (eSq eBy 31)) 48 (.slice (some ⟨b1, o1, none⟩) a.waiting.length k1) ((a.waiting.map some).set m none)) ++ [tSq eBy 31 (.slice (some ⟨g2, off2, none⟩) (xs.length + 1) cap2) (xs ++ [d])]) w2 :=
        hs4.pick [0, 1, 2, 3, 4, 5, 6, 7, 8, 9, 10, 11, 12, 13, 14, 15] _ (by decide) rfl
      have HS5 := Lib.hid (Held.back (c := m) (yss := a.waiting.set m (xs ++ [d])) hs5 4 rfl (by rw [List.length_set, List.length_map]; omega) set_gap)
      have hbf2 : ∀ j, w2.frozen? ⟨b1, j, none⟩ = false := by
        obtain ⟨_, _, hh⟩ := hs5.get 4 rfl
        exact (Sq.free (show Sq (eOpt (eSq eBy 31)) 48 w2 _ _ (.slice (some ⟨b1, o1, none⟩) a.waiting.length k1) ((a.waiting.map some).set m none) from hh)).2.2.2
      exact ⟨g2, off2, cap2, rfl, hS3.2, hbf2, hS3.1, HS5⟩)
    have hw2 := hS1.2
    have hw3 := hS2.2
    have hw1 := hS1.1
    have hw4 := hS2.1
    clear hS1 hS2 hba HBACK hKp hKb
    refine hK.out _ _ hw1 ?_
    clear hK K
    refine wpAnyH_two 11 14 (by kernel_rfl) rfl rfl (fun K hK => ?_) (fun K hK => ?_)
    focus
      go_simp
      refine hK.out _ _ hw1 ?_
      clear hK K
      refine wpAnyH_one 14 (by kernel_rfl) rfl (fun K hK => ?_)
      go_simp
      refine hK.out _ _ hw4 ?_
      clear hK K

    rotate_left
    focus
      go_simp
      refine hK.out _ _ hw4 ?_
      clear hK K
      refine wpAnyH_one 11 (by kernel_rfl) rfl (fun K hK => ?_)
      go_simp
      refine hK.out _ _ hw4 ?_
      clear hK K
  all_goals
    refine wpAnyH_one 15 (by kernel_rfl) rfl (fun K hK => ?_)
    refine step_app_sl slBB rfl _ _ rfl Kx (.slice va xs.length k2) xs.length us rfl (HSL.out.alloc _) _ 1 [.slice va1 d.length vk1] rfl (rd_one _ _ _ _ rfl) (by intro u hu; simp at hu; subst hu; rfl) (by unfold maxLen; omega) (by omega) ?_
    intro v2 w2 hsl2 hfr2
    obtain ⟨g2, off2, cap2, rfl, k0, kf, kp, HS5⟩ := HARM.out v2 w2 hsl2 hfr2
    clear hsl2 hfr2
    refine hK.out _ _ kp ?_
    clear hK K
    simp only [Act.put, List.setIfInBounds_toArray, List.set_cons_zero, List.set_cons_succ]
    refine wpAnyH_one 16 (by kernel_rfl) rfl (fun K hK => ?_)
    go_simp
    refine hK.out _ _ kp ?_
    clear hK K
    refine wpAnyH_one 17 (by kernel_rfl) rfl (fun K hK => ?_)
    go_simp
    refine hK.out _ _ (cell_ne hpb kp) ?_
    clear hK K
    refine wpAnyH_done (by kernel_rfl) ?_ _
    go_wp2_with fail
    go_ret
    exact ⟨rfl, by rw [← HXS.out]; exact Held.port_did HS5.out⟩
end
end Go.Proofs.Ytcocnfbhileheaa
