/- The small methods of a queue; New; Push. -/
import Derived.Test.YtococphklfbidaaKerE
namespace Go.Proofs.Ytococphklfbidaa
open Go.RowKit Go.Maps

theorem wf_i64 {n : Int} (h : -9223372036854775808 ≤ n) (k : n ≤ 9223372036854775807) : (Lit.int .i64 n).wf = true := by
  simp [Lit.wf, IntKind.min, IntKind.max, IntKind.signed, IntKind.bits]; omega
theorem qu_cells {w : World} {p : Nat} {now : Int} {last : Nat} {lv : Value} {b : Nat} (h : w.heap[p]? = some (.cells (quCells now last lv b) 64 (0, 0))) :
    w.cell? ⟨p, 0, none⟩ = some (.int .i64 now) ∧ w.cell? ⟨p, 1, none⟩ = some (.int .i64 (last : Int)) ∧ w.cell? ⟨p, 2, none⟩ = some lv ∧ w.cell? ⟨p, 3, none⟩ = some (.map (some b)) := ⟨blk_cell h rfl, blk_cell h rfl, blk_cell h rfl, blk_cell h rfl⟩
section
variable {p : Nat} {q : Qu} {w : World} {F Z : BS} (h : (tQu p q).on w F Z)
include h
theorem now_any : Calls Try.prog 17 #[.pointer (some ⟨p, 0, none⟩)] w fun e w' => e = .returned (.int .i64 q.now) ∧ w = w' := by
  obtain ⟨h0, lv, b, h1, h2, h3, h4, h5⟩ := h
  obtain ⟨c0, _⟩ := qu_cells h3
  clear h0 h1 h2 h3 h4 h5
  go_enter Try.func17, Try.ntmps17
  go_wp2_with fail
  go_ret
  exact ⟨rfl, rfl⟩
theorem len_any : Calls Try.prog 15 #[.pointer (some ⟨p, 0, none⟩)] w fun e w' => e = .returned (.int .i64 (q.evs.length : Int)) ∧ w = w' := by
  obtain ⟨h0, lv, b, h1, h2, h3, h4, h5⟩ := h
  obtain ⟨a, c, rfl, _⟩ := h4.evR.shape
  obtain ⟨_, _, c2, _⟩ := qu_cells h3
  clear h0 h1 h2 h3 h4 h5
  go_enter Try.func15, Try.ntmps15
  go_wp2_with fail
  go_ret
  exact ⟨rfl, rfl⟩
end
theorem new_any (w : World) : Calls Try.prog 12 #[] w fun e w' => ∃ p, e = .returned (.pointer (some ⟨p, 0, none⟩)) ∧ Made w (tQu p Qu.new) w' := by
  have hmm := @run_makeMap Try.prog
  go_enter Try.func12, Try.ntmps12
  go_wp2_with fail
  go_ret
  refine ⟨w.heap.size + 1, rfl, by (repeat (first | (with_reducible exact Below.refl _ _) | (with_reducible refine Bw.alloc ?_ _) | (with_reducible refine Bw.drewN ?_ _) | (with_reducible refine Bw.drew ?_))), fun k => w.heap.size ≤ k, fun _ => False, fun k h => h, fun _ f => f.elim, fun _ _ f => f, by simp, .slice none 0 0, w.heap.size, Nat.le_refl _, by omega, ?_, Sl.nil _ _ _ _, ?_⟩
  · have := heap_alloc_new (w.alloc (.map #[] 0)) (.cells #[.int .i64 0, .int .i64 0, .slice none 0 0, .map (some w.heap.size)] 64)
    rw [World.size_alloc] at this
    exact this
  · exact EvMap.keep (w := w.alloc (.map #[] 0)) ⟨.map [], World.ownsMap_made w _ _ _, MapSays.nil⟩ (Below.heap_alloc _ _ _ (by simp))
def PushPost (p : Nat) (q' : Qu) (n : Int) (er : Int) (w : World) (F Z : BS) (e : Ending) (w' : World) : Prop := e = .returned (.tuple #[.int .i64 n, .int .i64 er]) ∧ Did w F Z [tQu p q'] w'
theorem QuAt.did0 {p : Nat} {q : Qu} {w : World} {F Z : BS} (h : (tQu p q).on w F Z) : Did w F Z [tQu p q] w := Did.one0 (Fr.refl _ _) ((tQu p q).mono (Z := fun _ => False) h (fun _ f => .inl f) fun _ f => f)
set_option maxRecDepth 100000 in
theorem push_range {p : Nat} {q : Qu} {w : World} {F Z : BS} (h : (tQu p q).on w F Z) (a k n g : Int) (ho : okAt q.now a k n = false) :
    Calls Try.prog 13 #[.pointer (some ⟨p, 0, none⟩), .int .i64 a, .int .i64 k, .int .i64 n, .int .i64 g] w (PushPost p q 0 2 w F Z) := by
  have hd := QuAt.did0 h
  have HD := Lib.hid hd
  clear hd
  obtain ⟨h0, lv, b, h1, h2, h3, h4, h5⟩ := h
  obtain ⟨c0, _⟩ := qu_cells h3
  clear h0 h1 h2 h3 h4 h5
  have ho' := okAt_false.1 ho
  have hc : a < q.now ∨ (q.now ≤ a ∧ 1073741824 < a) ∨ (q.now ≤ a ∧ a ≤ 1073741824 ∧ k < 0) ∨ (q.now ≤ a ∧ a ≤ 1073741824 ∧ 0 ≤ k ∧ 255 < k) ∨ (q.now ≤ a ∧ a ≤ 1073741824 ∧ 0 ≤ k ∧ k ≤ 255 ∧ n < 0) ∨ (q.now ≤ a ∧ a ≤ 1073741824 ∧ 0 ≤ k ∧ k ≤ 255 ∧ 0 ≤ n ∧ 16 ≤ n) := by omega
  clear ho ho'
  rcases hc with g1 | ⟨g1, g2⟩ | ⟨g1, g2, g3⟩ | ⟨g1, g2, g3, g4⟩ | ⟨g1, g2, g3, g4, g5⟩ | ⟨g1, g2, g3, g4, g5, g6⟩
  all_goals
    go_enter Try.func13, Try.ntmps13
    go_wp2_with fail
    go_ret2
    exact ⟨rfl, HD.out⟩
set_option maxRecDepth 100000 in
theorem push_full {p : Nat} {q : Qu} {w : World} {F Z : BS} (h : (tQu p q).on w F Z) (a k n g : Int) (ho : okAt q.now a k n = true) (hl : 10000 ≤ q.evs.length) :
    Calls Try.prog 13 #[.pointer (some ⟨p, 0, none⟩), .int .i64 a, .int .i64 k, .int .i64 n, .int .i64 g] w (PushPost p q 0 5 w F Z) := by
  have hd := QuAt.did0 h
  have HD := Lib.hid hd
  clear hd
  obtain ⟨h0, lv, b, h1, h2, h3, h4, h5⟩ := h
  obtain ⟨la, lc, rfl, _⟩ := h4.evR.shape
  obtain ⟨c0, _, c2, _⟩ := qu_cells h3
  clear h0 h1 h2 h3 h4 h5
  obtain ⟨g1, g2, g3, g4, g5, g6⟩ := okAt_iff.1 ho
  clear ho
  go_enter Try.func13, Try.ntmps13
  go_wp2_with fail
  go_ret2
  exact ⟨rfl, HD.out⟩
set_option maxRecDepth 100000 in
set_option maxHeartbeats 4000000 in
theorem push_go {p : Nat} {q : Qu} (hok : q.Ok) (hlt : q.last < 1000000000) {w : World} {F Z : BS} (h : (tQu p q).on w F Z) (a k n g : Int) (ho : okAt q.now a k n = true) (hl : q.evs.length < 10000) :
    Calls Try.prog 13 #[.pointer (some ⟨p, 0, none⟩), .int .i64 a, .int .i64 k, .int .i64 n, .int .i64 g] w (PushPost p ⟨q.now, q.last + 1, ins ⟨a, k, n, ((q.last + 1 : Nat) : Int), g⟩ q.evs⟩ ((q.last + 1 : Nat) : Int) 0 w F Z) := by
  obtain ⟨h0, lv, b, h1, h2, h3, h4, h5⟩ := h
  obtain ⟨la, lc, rfl, _⟩ := h4.evR.shape
  obtain ⟨c0, c1, c2, c3⟩ := qu_cells h3
  have fr := fun i => blk_free h3 i
  obtain ⟨g1, g2, g3, g4, g5, g6⟩ := okAt_iff.1 ho
  have qT : ∀ (w : World) (r : Option Nat), (binOp .eql 62 (.map r) (.map none)).run Try.prog w = .ok (.bool r.isNone) w := fun w r => run_eql_map_nil w _ _ _ r Try.underlying62
  have H3 := Lib.hid h3; have H4 := Lib.hid h4; have H5 := Lib.hid h5; have HOK := Lib.hid hok
  have hpl := lt_of_block h3
  have hbl := h5.lt
  clear ho h3 h4 h5 hok
  go_enter Try.func13, Try.ntmps13
  go_wp2_with fail
  obtain ⟨e, he⟩ : ∃ e : Ev, e = ⟨a, k, n, (q.last : Int) + 1, g⟩ := ⟨_, rfl⟩
  obtain ⟨w1, hw1⟩ : ∃ w1, w1 = ((w.setCell ⟨p, 1, none⟩ (.int .i64 ((q.last : Int) + 1))).alloc (.cells #[.int .i64 e.at', .int .i64 e.kind, .int .i64 e.node, .int .i64 e.number, .int .i64 e.arg] 32)) := ⟨_, rfl⟩
  have hsz : (w.setCell ⟨p, 1, none⟩ (.int .i64 ((q.last : Int) + 1))).heap.size = w.heap.size := by simp
  have hrow : w1.heap[p]? = some (.cells (quCells q.now (q.last + 1) (.slice la q.evs.length lc) b) 64 (0, 0)) := by
    rw [hw1]; (apply row_trans; focus (repeat (first | (with_reducible exact H3.out) | (with_reducible apply row_set) | (with_reducible apply row_drewN) | (with_reducible apply row_drew) | (with_reducible apply row_alloc) | (apply row_set_other (by first | omega | (simp <;> omega)))))); rfl
  have hfr : Fr (fun k => k = p) w w1 := by rw [hw1]; exact Fr.alloc (Fr.setCell (Fr.refl (fun k => k = p) w) (Or.inl rfl) _) _
  have hbox : w1.heap[w.heap.size]? = some (.cells #[.int .i64 e.at', .int .i64 e.kind, .int .i64 e.node, .int .i64 e.number, .int .i64 e.arg] 32) := by
    have := heap_alloc_new (w.setCell ⟨p, 1, none⟩ (.int .i64 ((q.last : Int) + 1))) (.cells #[.int .i64 e.at', .int .i64 e.kind, .int .i64 e.node, .int .i64 e.number, .int .i64 e.arg] 32)
    rw [hsz] at this; rw [hw1]; exact this
  have hev : EvO w1 (fun k => (F k ∧ k ≠ p ∧ k ≠ b) ∧ k < w.heap.size) (.slice la q.evs.length lc) q.evs := Sl.keep (Sl.bound H4.out) fun k hk hl => hfr.block k hl hk.1.2.1
  have hmap : EvMap w1 b q.last q.evs := H5.out.keep (hfr.block b hbl h2)
  have hsz1 : w1.heap.size = w.heap.size + 1 := by rw [hw1]; simp
  have HW1 := Lib.hid hw1; have HFR := Lib.hid hfr; have HROW := Lib.hid hrow; have HBOX := Lib.hid hbox; have HEV := Lib.hid hev; have HMAP := Lib.hid hmap; have HE := Lib.hid he
  have hz1 : w.heap.size < w1.heap.size := by omega
  have e0 : a = e.at' := by rw [he]
  have e1 : k = e.kind := by rw [he]
  have e2 : n = e.node := by rw [he]
  have e3 : (q.last : Int) + 1 = e.number := by rw [he]
  have e4 : g = e.arg := by rw [he]
  rw [e3, e0, e1, e2, e4]
  rw [e3] at hw1
  rw [← hw1]
  clear c0 c1 c2 c3 fr hrow hbox hev hmap hfr e0 e1 e2 e3 e4 g1 g2 g3 g4 g5 g6 hw1 he qT hsz
  obtain ⟨_, _, c2, _⟩ := qu_cells HROW.out
  have k0 := blk_cell (i := 0) HBOX.out rfl; have k1 := blk_cell (i := 1) HBOX.out rfl; have k2 := blk_cell (i := 2) HBOX.out rfl; have k3 := blk_cell (i := 3) HBOX.out rfl; have k4 := blk_cell (i := 4) HBOX.out rfl
  go_region_held3 (fun w' => w'.cell? ⟨p, 2, none⟩ = some (.slice la q.evs.length lc) ∧ w'.cell? ⟨w.heap.size, 0, none⟩ = some (.int .i64 e.at') ∧ w'.cell? ⟨w.heap.size, 1, none⟩ = some (.int .i64 e.kind) ∧ w'.cell? ⟨w.heap.size, 2, none⟩ = some (.int .i64 e.node) ∧ w'.cell? ⟨w.heap.size, 3, none⟩ = some (.int .i64 e.number) ∧ w'.cell? ⟨w.heap.size, 4, none⟩ = some (.int .i64 e.arg)) (first | exact ⟨c2, k0, k1, k2, k3, k4⟩ | exact HS1.out)
    ((go_at_call 27; refine (search_any _ _ q.evs (by exact Rd.keep HEV.out.evR fun _ _ _ => rfl) HOK.out.srt (by omega) e).mono ?_; rintro ee w2 ⟨i, bb, rfl, hlow, hb⟩; have HS1 := Lib.hid (show w2.cell? ⟨p, 2, none⟩ = some (.slice la q.evs.length lc) ∧ w2.cell? ⟨w.heap.size, 0, none⟩ = some (.int .i64 e.at') ∧ w2.cell? ⟨w.heap.size, 1, none⟩ = some (.int .i64 e.kind) ∧ w2.cell? ⟨w.heap.size, 2, none⟩ = some (.int .i64 e.node) ∧ w2.cell? ⟨w.heap.size, 3, none⟩ = some (.int .i64 e.number) ∧ w2.cell? ⟨w.heap.size, 4, none⟩ = some (.int .i64 e.arg) from ⟨cell_later hb c2, cell_later hb k0, cell_later hb k1, cell_later hb k2, cell_later hb k3, cell_later hb k4⟩); have HB2 := Lib.hid (show Below w1.heap.size w1 w2 from (below_drew w1 1).trans hb); have HLOW := Lib.hid hlow; clear hb hlow))
  all_goals go_wp2_with fail
  clear c2 k0 k1 k2 k3 k4
  obtain ⟨c2, k0, k1, k2, k3, k4⟩ := HS1.out
  have hsz2 := HB2.out.size
  have hz2 : w.heap.size < w2.heap.size := by omega
  have HROW2 := Lib.hid ((HB2.out.block p (by omega)).trans HROW.out)
  have HEV2 := Lib.hid (Sl.keep HEV.out fun k _ hl => HB2.out.block k hl)
  have fr2 := blk_free HROW2.out 2
  have hp2 : p < w2.heap.size := by omega
  have hil : i ≤ q.evs.length := HLOW.out.1
  obtain ⟨l2, hl2⟩ : ∃ l2, l2 = ins e q.evs := ⟨_, rfl⟩
  have HINS := Lib.hid ((ins_at hil HLOW.out.2.1 HLOW.out.2.2).trans hl2.symm)
  have HL2 := Lib.hid hl2
  have HBOX2 := Lib.hid ((HB2.out.block w.heap.size hz1).trans HBOX.out)
  have hbb2 : b < w2.heap.size := by omega
  have HB2B := Lib.hid (HB2.out.block b (by omega))
  clear hl2
  clear HS1
  go_region_law (go_simp; go_at_call 29; refine (insert_any _ (fun k => (F k ∧ k ≠ p ∧ k ≠ b) ∧ k < w.heap.size) _ q.evs (by exact Sl.alloc HEV2.out _) (by omega) i hil w2.heap.size e (by exact heap_alloc_new w2.drew _) (fun h => by omega)).mono ?_; rintro ee w3 ⟨v3, rfl, hev3, hfr3⟩; rw [HINS.out] at hev3; obtain ⟨va3, vc3, rfl, _⟩ := hev3.evR.shape; have HROW3 := Lib.hid (hfr3.keep (show _ = some (.cells (quCells q.now (q.last + 1) (.slice la q.evs.length lc) b) 64 (0, 0)) by (repeat (first | (with_reducible exact HROW2.out) | (with_reducible apply row_drewN) | (with_reducible apply row_drew) | (with_reducible apply row_alloc)))) (fun h => h.1.2.1 rfl)); have c2'' := (qu_cells HROW3.out).2.2.1; have fr2'' := blk_free HROW3.out 2; have HEV3 := Lib.hid hev3; have HFR3 := Lib.hid hfr3; clear hev3 hfr3)
  all_goals go_wp2_with fail
  all_goals
    have hfr3 := HFR3.out
    have hbx4 : (w3.setCell ⟨p, 2, none⟩ (.slice va3 l2.length vc3)).heap[w.heap.size]? = some (.cells #[.int .i64 e.at', .int .i64 e.kind, .int .i64 e.node, .int .i64 e.number, .int .i64 e.arg] 32) := (heap_setCell_other w3 ⟨p, 2, none⟩ w.heap.size _ (by show w.heap.size ≠ p; omega)).trans (hfr3.keep (show _ = some (Obj.cells #[.int .i64 e.at', .int .i64 e.kind, .int .i64 e.node, .int .i64 e.number, .int .i64 e.arg] 32) by (repeat (first | (with_reducible exact HBOX2.out) | (with_reducible apply row_drewN) | (with_reducible apply row_drew) | (with_reducible apply row_alloc)))) (fun h => by omega))
    have hb4 : (w3.setCell ⟨p, 2, none⟩ (.slice va3 l2.length vc3)).heap[b]? = w1.heap[b]? := (heap_setCell_other w3 ⟨p, 2, none⟩ b _ h2).trans ((HFR3.out.block b (Nat.lt_of_lt_of_le hbb2 (show Below w2.heap.size w2 _ by (repeat (first | (with_reducible exact Below.refl _ _) | (with_reducible refine Bw.alloc ?_ _) | (with_reducible refine Bw.drewN ?_ _) | (with_reducible refine Bw.drew ?_)))).size) (fun h => h.1.2.2 rfl)).trans (((show Below w2.heap.size w2 _ by (repeat (first | (with_reducible exact Below.refl _ _) | (with_reducible refine Bw.alloc ?_ _) | (with_reducible refine Bw.drewN ?_ _) | (with_reducible refine Bw.drew ?_)))).block b hbb2).trans HB2B.out))
    have hrow4 : (w3.setCell ⟨p, 2, none⟩ (.slice va3 l2.length vc3)).heap[p]? = some (.cells (quCells q.now (q.last + 1) (.slice va3 l2.length vc3) b) 64 (0, 0)) := by (apply row_trans; focus (repeat (first | (with_reducible exact HROW3.out) | (with_reducible apply row_set) | (with_reducible apply row_drewN) | (with_reducible apply row_drew)))); rfl
    have hfr4 : Fr (fun k => k = p) w3 (w3.setCell ⟨p, 2, none⟩ (.slice va3 l2.length vc3)) := Fr.setCell (Fr.refl (fun k => k = p) w3) (Or.inl rfl) _
    have hfw : Fr (fun k => k = p ∨ ((F k ∧ k ≠ p ∧ k ≠ b) ∧ k < w.heap.size)) w (w3.setCell ⟨p, 2, none⟩ (.slice va3 l2.length vc3)) := by
      have f1 : Fr (fun k => k = p ∨ ((F k ∧ k ≠ p ∧ k ≠ b) ∧ k < w.heap.size)) w w2 := (HFR.out.mono fun k h => .inl h).of_below HB2.out
      have f2 := (f1.of_below (show Below w2.heap.size w2 _ by (repeat (first | (with_reducible exact Below.refl _ _) | (with_reducible refine Bw.alloc ?_ _) | (with_reducible refine Bw.drewN ?_ _) | (with_reducible refine Bw.drew ?_))))).trans HFR3.out fun x h => .inl (.inr h)
      exact f2.trans hfr4 fun x h => .inl (.inl h)
    have hev4 : EvO (w3.setCell ⟨p, 2, none⟩ (.slice va3 l2.length vc3)) (fun k => (F k ∨ w.heap.size ≤ k) ∧ k ≠ p ∧ k ≠ b) (.slice va3 l2.length vc3) l2 := by
      refine Sl.mono (Sl.keep HEV3.out fun k hk hl => hfr4.block k hl fun e => ?_) fun k hk => ?_
      · subst e
        rcases hk with hk | hk
        · exact hk.1.2.1 rfl
        · exact absurd hk (Nat.not_le.2 (Nat.lt_of_lt_of_le hp2 (show Below w2.heap.size w2 _ by (repeat (first | (with_reducible exact Below.refl _ _) | (with_reducible refine Bw.alloc ?_ _) | (with_reducible refine Bw.drewN ?_ _) | (with_reducible refine Bw.drew ?_)))).size))
      · rcases hk with hk | hk
        · exact ⟨.inl hk.1.1, hk.1.2⟩
        · have hk2 : w2.heap.size ≤ k := Nat.le_trans (show Below w2.heap.size w2 _ by (repeat (first | (with_reducible exact Below.refl _ _) | (with_reducible refine Bw.alloc ?_ _) | (with_reducible refine Bw.drewN ?_ _) | (with_reducible refine Bw.drew ?_)))).size hk
          exact ⟨.inr (by omega), by omega, by omega⟩
    have HBX4 := Lib.hid hbx4; have HB4 := Lib.hid hb4; have HROW4 := Lib.hid hrow4; have HFW := Lib.hid hfw; have HEV4 := Lib.hid hev4
    clear hbx4 hb4 hrow4 hfr4 hfw hev4 c2 c2'' fr2'' k0 k1 k2 k3 k4 fr2 hil
    obtain ⟨w4, hw4⟩ : ∃ w4, w4 = w3.setCell ⟨p, 2, none⟩ (.slice va3 l2.length vc3) := ⟨_, rfl⟩
    rw [← hw4] at HBX4 HB4 HROW4 HFW HEV4 ⊢
    clear hw4
    have c3 := (qu_cells HROW4.out).2.2.2
    have k0 := blk_cell (i := 0) HBX4.out rfl; have k1 := blk_cell (i := 1) HBX4.out rfl; have k2 := blk_cell (i := 2) HBX4.out rfl; have k3 := blk_cell (i := 3) HBX4.out rfl; have k4 := blk_cell (i := 4) HBX4.out rfl
    refine wp_region_still_tail 7 (by kernel_rfl) (by kernel_rfl) ?_
    simp only [List.take_succ_cons, List.take_zero, List.drop_succ_cons, List.drop_zero]
    change wpStill _ _ (World.drew _) (fun a' => wpList _ _ _ _ a' (World.drew _)) _ _
    repeat still_step
    refine wpStill_nil ?_
    have hmap4 : EvMap w4.drew b q.last q.evs := HMAP.out.keep HB4.out
    obtain ⟨D, hown, hsays⟩ := hmap4
    have HSAYS := Lib.hid hsays; have HOWN := Lib.hid hown
    have hnum : e.number = (q.last : Int) + 1 := by rw [HE.out]
    have HNUM := Lib.hid hnum
    have hkey : Hid (keyOf Try.prog 3 (.int .i64 e.number) = some (.int .i64 e.number)) := Lib.hid (keyOf_int_mk Try.underlying3 (by rw [hnum]; exact wf_i64 (by omega) (by omega)))
    clear hown hsays hnum
    refine wpList_mapUpdate_own _ rfl _ _ _ 62 rfl 3 32 keyed Try.underlying62 evElem b q.last D rfl HOWN.out (by unfold maxLen; omega) _ _ (.int .i64 e.number) rfl rfl hkey.out (evD e) [] (evElem_mk e) ?_
    intro w5 hown5 hg5
    have HOWN5 := Lib.hid hown5; have HG5 := Lib.hid hg5
    have hbx5 := (hg5.block w.heap.size (lt_of_block (w := w4) HBX4.out) (fun e => by simp at e; omega)).trans (show w4.drew.heap[w.heap.size]? = _ from HBX4.out)
    have n3 := blk_cell (i := 3) hbx5 rfl
    clear hown5 hg5 hbx5 c3 k0 k1 k2 k3 k4
    go_wp2_with fail
    go_ret2
    have hsz4 := HFW.out.size
    have hsz45 : w4.heap.size ≤ w5.heap.size := HG5.out.size
    have hpl4 := lt_of_block HROW4.out
    have hrow5 := (HG5.out.block p hpl4 (fun e => by simp at e; omega)).trans (show w4.drew.heap[p]? = _ from HROW4.out)
    have hfr5 : Fr F w w5 := (((HFW.out.mono (G := F) fun k h => h.elim (fun h => by subst h; exact h0) fun h => h.1.1).drew).grown HG5.out fun k e => by cases e; exact .inl h1)
    have hl2n := HL2.out
    refine ⟨by rw [HNUM.out]; rfl, Did.one0 hfr5 ⟨.inl h0, _, b, .inl h1, h2, hrow5, ?_, _, HOWN5.out, ?_⟩⟩
    · have he' : (⟨a, k, n, ((q.last + 1 : Nat) : Int), g⟩ : Ev) = e := by rw [HE.out]; rfl
      show EvO w5 _ _ (ins _ q.evs)
      rw [he', ← hl2n]
      exact Sl.keep HEV4.out fun k hk hl => (HG5.out.block k hl (fun e => by simp at e; exact hk.2.2 e)).trans rfl
    · have he' : (⟨a, k, n, ((q.last + 1 : Nat) : Int), g⟩ : Ev) = e := by rw [HE.out]; rfl
      show MapSays _ (ins _ q.evs)
      rw [he']
      exact HSAYS.out.put (fun x hx => by rw [HNUM.out]; exact Qu.new_num HOK.out x hx) fun x => ins_mem
end Go.Proofs.Ytococphklfbidaa
