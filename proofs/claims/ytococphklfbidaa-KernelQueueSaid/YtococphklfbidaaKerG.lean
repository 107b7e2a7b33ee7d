/- Pop, Cancel. -/
import Derived.Test.YtococphklfbidaaKerF
namespace Go.Proofs.Ytococphklfbidaa
open Go.RowKit Go.Maps

def PopPost (p : Nat) (q : Qu) (w : World) (F Z : BS) (e : Ending) (w' : World) : Prop := e = .returned (.tuple #[.agg #[.int .i64 q.pop.2.1.at', .int .i64 q.pop.2.1.kind, .int .i64 q.pop.2.1.node, .int .i64 q.pop.2.1.number, .int .i64 q.pop.2.1.arg], .bool q.pop.2.2]) ∧ Did w F Z [tQu p q.pop.1] w'
/-- a queue reads no pool -/
theorem QuAt.pool {p : Nat} {q : Qu} {w : World} {F G Z Y : BS} (h : (tQu p q).on w F Z) (hF : ∀ k, F k → G k) : (tQu p q).on w G Y := (tQu p q).mono (Z := Y) (show QuAt p q w F Y from h) hF fun _ h => h
theorem pop_nil {p : Nat} {now : Int} {last : Nat} {w : World} {F Z : BS} (h : (tQu p ⟨now, last, []⟩).on w F Z) :
    Calls Try.prog 14 #[.pointer (some ⟨p, 0, none⟩)] w (PopPost p ⟨now, last, []⟩ w F Z) := by
  have HH := Lib.hid h
  obtain ⟨h0, lv, b, h1, h2, h3, h4, h5⟩ := h
  obtain ⟨la, lc, rfl, _⟩ := h4.evR.shape
  obtain ⟨_, _, c2, _⟩ := qu_cells h3
  have hpl := lt_of_block h3
  clear h3 h4 h5
  rw [show ([] : List Ev).length = 0 from rfl] at c2
  go_enter Try.func14, Try.ntmps14
  go_wp2_with fail
  exact bodyPost_ret (v := .tuple #[.agg #[.int .i64 0, .int .i64 0, .int .i64 0, .int .i64 0, .int .i64 0], .bool false]) (by simp [results, Try.results14, go_sem]) rfl
    ⟨rfl, Did.one0 ((Fr.refl F w).alloc _) (QuAt.pool ((tQu p _).below HH.out (below_alloc w _)) fun k h => .inl h)⟩
set_option maxHeartbeats 4000000 in
theorem pop_cons {p : Nat} {now : Int} {last : Nat} {e : Ev} {l : List Ev} (hok : (Qu.mk now last (e :: l)).Ok) (hlt : last < 1000000000) {w : World} {F Z : BS} (h : (tQu p ⟨now, last, e :: l⟩).on w F Z) :
    Calls Try.prog 14 #[.pointer (some ⟨p, 0, none⟩)] w (PopPost p ⟨now, last, e :: l⟩ w F Z) := by
  obtain ⟨h0, lv, b, h1, h2, h3, h4, h5⟩ := h
  obtain ⟨la, lc, rfl, hlc, _⟩ := h4.evR.shape
  obtain ⟨c0, _, c2, c3⟩ := qu_cells h3
  have fr := fun i => blk_free h3 i
  obtain ⟨g, off, rfl, e0, e1, e2, e3, e4⟩ := ev_at h4.evR (i := 0) (e := e) rfl
  rw [Nat.zero_mul, Nat.add_zero] at e0 e1 e2 e3 e4
  have hgl := World.block_lt_of_cell? w _ e0
  have hpl := lt_of_block h3
  have hbl := h5.lt
  have hsl := Sl.dropG h4 (k := 1) (by simp)
  rw [show (evCells (e :: l)).drop (1 * 5) = evCells l from evCells_drop (e :: l) 1, show (e :: l).length - 1 = l.length from rfl] at hsl
  have hnum := hok.le e List.mem_cons_self
  have H3 := Lib.hid h3; have HSL0 := Lib.hid hsl; have H5 := Lib.hid h5; have HOK := Lib.hid hok
  have hkey : Hid (keyOf Try.prog 3 (.int .i64 e.number) = some (.int .i64 e.number)) := Lib.hid (keyOf_int_mk Try.underlying3 (wf_i64 (by omega) (by have : e.number ≤ (last : Int) := hnum.2; omega)))
  clear h3 h4 h5 hok hsl hnum
  have hc1 : lc = 1 ∨ lc ≠ 1 := by omega
  obtain ⟨sv, hsv, HSL⟩ : ∃ sv : Value, (sv = .slice (if lc = 1 then some ⟨g, off, none⟩ else some ⟨g, off + 1 * 5, none⟩) l.length (lc - 1)) ∧ Hid (Sl w (fun k => F k ∧ k ≠ p ∧ k ≠ b) 32 5 sv l.length (evCells l)) := ⟨_, rfl, HSL0⟩
  clear HSL0
  rcases hc1 with hc1 | hc1
  case' inl => subst hc1; rw [if_pos rfl] at hsv
  case' inr => rw [if_neg hc1] at hsv
  all_goals
    have HSV := Lib.hid hsv
    clear hsv
    go_enter Try.func14, Try.ntmps14
    go_wp2_with fail
    have hsv := HSV.out
    simp only [Nat.one_mul, Nat.sub_self] at hsv
    obtain ⟨w3, hw3⟩ : ∃ w3, w3 = (((w.setCell ⟨p, 2, none⟩ sv).alloc (.cells #[.int .i64 0, .int .i64 0, .int .i64 0, .int .i64 0, .int .i64 0] 32)).alloc (.cells #[.int .i64 e.at', .int .i64 e.kind, .int .i64 e.node, .int .i64 e.number, .int .i64 e.arg] 32)) := ⟨_, rfl⟩
    have hrow3 : w3.heap[p]? = some (.cells (quCells now last sv b) 64 (0, 0)) := by rw [hw3]; (apply row_trans; focus (repeat (first | (with_reducible exact H3.out) | (with_reducible apply row_set) | (with_reducible apply row_drewN) | (with_reducible apply row_drew) | (with_reducible apply row_alloc) | (apply row_set_other (by first | omega | (simp <;> omega)))))); rfl
    have hfr3 : Fr (fun k => k = p) w w3 := by rw [hw3]; exact Fr.alloc (Fr.alloc (Fr.setCell (Fr.refl (fun k => k = p) w) (Or.inl rfl) _) _) _
    have hsz3 : w3.heap.size = w.heap.size + 2 := by rw [hw3]; simp
    have hz3 : w3.heap[w.heap.size]? = some (.cells #[.int .i64 0, .int .i64 0, .int .i64 0, .int .i64 0, .int .i64 0] 32) := by
      have := heap_alloc_new (w.setCell ⟨p, 2, none⟩ sv) (.cells #[.int .i64 0, .int .i64 0, .int .i64 0, .int .i64 0, .int .i64 0] 32)
      rw [World.size_setCell] at this
      rw [hw3]; exact (Below.heap_alloc _ _ _ (by simp)).trans this
    have hb3 : w3.heap[w.heap.size + 1]? = some (.cells #[.int .i64 e.at', .int .i64 e.kind, .int .i64 e.node, .int .i64 e.number, .int .i64 e.arg] 32) := by
      have := heap_alloc_new ((w.setCell ⟨p, 2, none⟩ sv).alloc (.cells #[.int .i64 0, .int .i64 0, .int .i64 0, .int .i64 0, .int .i64 0] 32)) (.cells #[.int .i64 e.at', .int .i64 e.kind, .int .i64 e.node, .int .i64 e.number, .int .i64 e.arg] 32)
      rw [World.size_alloc, World.size_setCell] at this
      rw [hw3]; exact this
    have hmap3 : EvMap w3 b last (e :: l) := H5.out.keep (hfr3.block b hbl h2)
    have hsl3 : Sl w3 (fun k => (F k ∧ k ≠ p ∧ k ≠ b) ∧ k < w.heap.size) 32 5 sv l.length (evCells l) := Sl.keep (Sl.bound HSL.out) fun k hk hl => hfr3.block k hk.2 hk.1.2.1
    rw [← hsv, ← hw3]
    have HROW3 := Lib.hid hrow3; have HFR3 := Lib.hid hfr3; have HZ3 := Lib.hid hz3; have HB3 := Lib.hid hb3; have HMAP3 := Lib.hid hmap3; have HSL3 := Lib.hid hsl3
    clear hrow3 hfr3 hz3 hb3 hmap3 hsl3 hsv hw3 HSV c0 c2 c3 e0 e1 e2 e3 e4 fr
    have c0 := (qu_cells HROW3.out).1; have c3 := (qu_cells HROW3.out).2.2.2
    have n3 := blk_cell (i := 3) HB3.out rfl
    refine wp_region_still_tail 6 (by kernel_rfl) (by kernel_rfl) ?_
    simp only [List.take_succ_cons, List.take_zero, List.drop_succ_cons, List.drop_zero]
    change wpStill _ _ (World.drew _) (fun a' => wpList _ _ _ _ a' (World.drew _)) _ _
    repeat still_step
    refine wpStill_nil ?_
    obtain ⟨D, hown, hsays⟩ := show EvMap w3.drew b last (e :: l) from HMAP3.out.keep rfl
    have HSAYS := Lib.hid hsays; have HOWN := Lib.hid hown
    clear hown hsays
    refine wpList_delete_own _ rfl _ _ 62 3 rfl 32 keyed Try.underlying62 evElem b last D rfl HOWN.out _ (.int .i64 e.number) rfl hkey.out ?_
    intro w5 hown5 hg5
    have hgr := hg5.grown
    have HOWN5 := Lib.hid hown5; have HG5 := Lib.hid hgr
    have hrow5 := (hgr.block p (lt_of_block HROW3.out) (fun e => by simp at e; omega)).trans (show w3.drew.heap[p]? = _ from HROW3.out)
    have hz5 := (hgr.block w.heap.size (lt_of_block HZ3.out) (fun e => by simp at e; omega)).trans (show w3.drew.heap[w.heap.size]? = _ from HZ3.out)
    have hb5 := (hgr.block (w.heap.size + 1) (lt_of_block HB3.out) (fun e => by simp at e; omega)).trans (show w3.drew.heap[w.heap.size + 1]? = _ from HB3.out)
    have hfr5 : Fr F w w5 := (((HFR3.out.mono (G := F) fun k h => by subst h; exact h0).drew).grown hgr fun k e => by cases e; exact .inl h1)
    have HROW5 := Lib.hid hrow5; have HZ5 := Lib.hid hz5; have HB5 := Lib.hid hb5; have HFR5 := Lib.hid hfr5
    have hsz5 : w3.heap.size ≤ w5.heap.size := hgr.size
    clear hown5 hg5 hgr hrow5 hz5 hb5 hfr5 c0 c3 n3
    have c0 := (qu_cells HROW5.out).1
    have fp := fun i => blk_free HROW5.out i
    have fz := fun i => blk_free HZ5.out i
    have z0 := blk_cell (i := 0) HZ5.out rfl; have z1 := blk_cell (i := 1) HZ5.out rfl; have z2 := blk_cell (i := 2) HZ5.out rfl; have z3 := blk_cell (i := 3) HZ5.out rfl; have z4 := blk_cell (i := 4) HZ5.out rfl
    have n0 := blk_cell (i := 0) HB5.out rfl; have n1 := blk_cell (i := 1) HB5.out rfl; have n2 := blk_cell (i := 2) HB5.out rfl; have n3 := blk_cell (i := 3) HB5.out rfl; have n4 := blk_cell (i := 4) HB5.out rfl
    go_wp2_with fail
    have hrow6 : ((((((w5.setCell ⟨p, 0, none⟩ (.int .i64 e.at')).setCell ⟨w.heap.size, 0, none⟩ (.int .i64 e.at')).setCell ⟨w.heap.size, 1, none⟩ (.int .i64 e.kind)).setCell ⟨w.heap.size, 2, none⟩ (.int .i64 e.node)).setCell ⟨w.heap.size, 3, none⟩ (.int .i64 e.number)).setCell ⟨w.heap.size, 4, none⟩ (.int .i64 e.arg)).heap[p]? = some (.cells (quCells e.at' last sv b) 64 (0, 0)) := by (apply row_trans; focus (repeat (first | (with_reducible exact HROW5.out) | (with_reducible apply row_set) | (with_reducible apply row_drewN) | (with_reducible apply row_drew) | (with_reducible apply row_alloc) | (apply row_set_other (by first | omega | (simp <;> omega)))))); rfl
    have hfr6 : Fr (fun k => k = p ∨ k = w.heap.size) w5 ((((((w5.setCell ⟨p, 0, none⟩ (.int .i64 e.at')).setCell ⟨w.heap.size, 0, none⟩ (.int .i64 e.at')).setCell ⟨w.heap.size, 1, none⟩ (.int .i64 e.kind)).setCell ⟨w.heap.size, 2, none⟩ (.int .i64 e.node)).setCell ⟨w.heap.size, 3, none⟩ (.int .i64 e.number)).setCell ⟨w.heap.size, 4, none⟩ (.int .i64 e.arg)) := by
      refine Fr.setCell (Fr.setCell (Fr.setCell (Fr.setCell (Fr.setCell (Fr.setCell (Fr.refl _ w5) ?_ _) ?_ _) ?_ _) ?_ _) ?_ _) ?_ _
      · exact .inl (.inl rfl)
      all_goals exact .inl (.inr rfl)
    refine bodyPost_ret (v := .tuple #[.agg #[.int .i64 e.at', .int .i64 e.kind, .int .i64 e.node, .int .i64 e.number, .int .i64 e.arg], .bool true]) (by simp [results, Try.results14, go_sem, z0, z1, z2, z3, z4]) rfl ⟨rfl, Did.one0 (HFR5.out.trans hfr6 fun x h => h.elim (fun h => by subst h; exact .inl h0) fun h => .inr (by omega)) ⟨.inl h0, sv, b, .inl h1, h2, hrow6, ?_, ?_⟩⟩
    · exact Sl.mono (Sl.keep HSL3.out fun k hk hl => (hfr6.block k (by omega) (fun h => by have := hk.1.2.1; have := hk.2; omega)).trans ((HG5.out.block k (by show k < w3.heap.size; exact hl) (fun e => by simp at e; exact hk.1.2.2 e)).trans rfl)) fun k hk => ⟨.inl hk.1.1, hk.1.2⟩
    · refine EvMap.keep ⟨_, HOWN5.out, HSAYS.out.del fun x => ?_⟩ (hfr6.block b (by omega) (fun h => by omega))
      constructor
      · intro hx
        refine ⟨List.mem_cons_of_mem _ hx, fun hn => ?_⟩
        exact (List.nodup_cons.1 HOK.out.num).1 (List.mem_map.2 ⟨x, hx, hn⟩)
      · rintro ⟨hx, hn⟩
        rcases List.mem_cons.1 hx with rfl | hx
        · exact absurd rfl hn
        · exact hx
end Go.Proofs.Ytococphklfbidaa
