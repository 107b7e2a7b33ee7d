/- Cancel. -/
import Derived.Test.YtococphklfbidaaKerG
namespace Go.Proofs.Ytococphklfbidaa
open Go.RowKit Go.Maps

theorem low_at {l : List Ev} (hs : Srt l) {e : Ev} (he : e ∈ l) {i : Nat} (hlow : Low l e i) : l[i]? = some e ∧ i < l.length := by
  obtain ⟨j, hj⟩ := List.getElem?_of_mem he
  obtain ⟨h1, h2, h3⟩ := hlow
  have hij : i ≤ j := by
    rcases Nat.lt_or_ge j i with h | h
    · exact absurd (h2 j e h hj) (Lt.irrefl e)
    · exact h
  have hjl := lt_of_get hj
  rcases Nat.lt_or_ge i j with h | h
  · obtain ⟨f, hf⟩ : ∃ f, l[i]? = some f := ⟨l[i], List.getElem?_eq_getElem (by omega)⟩
    exact absurd (hs.get h hf hj) (h3 i f (Nat.le_refl _) hf)
  · obtain rfl : i = j := by omega
    exact ⟨hj, hjl⟩
theorem cut_filter : ∀ {l : List Ev} {i : Nat} {e : Ev}, (l.map (·.number)).Nodup → l[i]? = some e → l.take i ++ l.drop (i + 1) = l.filter fun x => !(x.number == e.number)
  | [], i, e, _, h => by simp at h
  | a :: l, 0, e, hn, h => by
    obtain rfl : a = e := by simpa using h
    rw [List.filter_cons, if_neg (by simp)]
    show [] ++ l = _
    rw [List.nil_append]
    symm
    rw [List.filter_eq_self]
    intro x hx
    have := (List.nodup_cons.1 hn).1
    simp only [Bool.not_eq_true', beq_eq_false_iff_ne]
    exact fun hxn => this (List.mem_map.2 ⟨x, hx, hxn⟩)
  | a :: l, i + 1, e, hn, h => by
    have h' : l[i]? = some e := by simpa using h
    have hne : a.number ≠ e.number := fun hh => (List.nodup_cons.1 hn).1 (List.mem_map.2 ⟨e, List.mem_of_getElem? h', hh.symm⟩)
    rw [List.filter_cons, if_pos (by simpa using hne), List.take_succ_cons, List.drop_succ_cons, List.cons_append, cut_filter (List.nodup_cons.1 hn).2 h']
def CanPost (p : Nat) (q : Qu) (k : Int) (w : World) (F Z : BS) (e : Ending) (w' : World) : Prop := e = .returned (.int .i64 (q.cancel k).2) ∧ Did w F Z [tQu p (q.cancel k).1] w'
theorem zEv (w : World) : (zeroValue 32).run Try.prog w = .ok (.agg #[.int .i64 0, .int .i64 0, .int .i64 0, .int .i64 0, .int .i64 0]) w := by kernel_rfl
set_option maxHeartbeats 4000000 in
theorem cancel_none {p : Nat} {q : Qu} (k : Int) (hk : (Lit.int .i64 k).wf = true) (hno : (q.evs.any fun e => e.number == k) = false) {w : World} {F Z : BS} (h : (tQu p q).on w F Z) :
    Calls Try.prog 21 #[.pointer (some ⟨p, 0, none⟩), .int .i64 k] w (CanPost p q k w F Z) := by
  have hq : q.cancel k = (q, 7) := by unfold Qu.cancel; rw [hno]; rfl
  have HQ := Lib.hid hq; have HH := Lib.hid h
  obtain ⟨h0, lv, b, h1, h2, h3, h4, h5⟩ := h
  obtain ⟨_, _, _, c3⟩ := qu_cells h3
  obtain ⟨D, hown, hsays⟩ := h5
  have hhas := hsays.2.1 k
  rw [hno] at hhas
  have HHAS := Lib.hid hhas; have HOWN := Lib.hid hown
  have hpl := lt_of_block h3
  have hkey := Lib.hid (keyOf_int_mk Try.underlying3 hk)
  clear h3 h4 hsays hhas hown hq hno hk
  go_enter Try.func21, Try.ntmps21
  go_wp2_with (at_lookup; refine wpList_lookup_own_ok _ rfl _ _ 62 rfl 3 32 keyed Try.underlying62 evElem (zEv _) (evD Ev.zero) [] (evElem_mk Ev.zero) b q.last D rfl HOWN.out _ (.int .i64 k) rfl hkey.out ?_; intro v ps hv; rw [atKey_of_not_has HHAS.out] at hv; obtain rfl := evElem_inv hv; clear hv; rw [HHAS.out])
  go_ret
  exact ⟨by rw [HQ.out]; rfl, by rw [HQ.out]; exact Did.one0 ((Fr.refl F w).alloc _) (QuAt.pool ((tQu p _).below HH.out (below_alloc w _)) fun k h => .inl h)⟩
set_option maxHeartbeats 4000000 in
theorem cancel_some {p : Nat} {q : Qu} (hok : q.Ok) (hlt : q.last < 1000000000) (e : Ev) (he : e ∈ q.evs) {w : World} {F Z : BS} (h : (tQu p q).on w F Z) :
    Calls Try.prog 21 #[.pointer (some ⟨p, 0, none⟩), .int .i64 e.number] w (CanPost p q e.number w F Z) := by
  have hany : (q.evs.any fun x => x.number == e.number) = true := List.any_eq_true.2 ⟨e, he, by simp⟩
  have hq : q.cancel e.number = (⟨q.now, q.last, q.evs.filter fun x => !(x.number == e.number)⟩, 0) := by unfold Qu.cancel; rw [hany]; rfl
  have HQ := Lib.hid hq
  obtain ⟨h0, lv, b, h1, h2, h3, h4, h5⟩ := h
  obtain ⟨la, lc, rfl, _⟩ := h4.evR.shape
  obtain ⟨_, _, c2, c3⟩ := qu_cells h3
  have hmap5 := Lib.hid h5
  obtain ⟨D, hown, hsays⟩ := h5
  have hhas := (hsays.2.1 e.number).trans hany
  have HAT := Lib.hid (hsays.2.2 e he)
  have HHAS := Lib.hid hhas; have HOWN := Lib.hid hown
  have hpl := lt_of_block h3
  have hbl := hown.lt
  have hnum := hok.le e he
  have hkey := Lib.hid (keyOf_int_mk Try.underlying3 (wf_i64 (n := e.number) (by omega) (by omega)))
  have hbound := Sl.bound h4
  have H3 := Lib.hid h3; have H4 := Lib.hid (show EvO w (fun k => (F k ∧ k ≠ p ∧ k ≠ b) ∧ k < w.heap.size) _ _ from hbound); have HOK := Lib.hid hok; have HE := Lib.hid he
  have hlen := hok.len
  clear h3 h4 hsays hhas hown hq hok he hany hnum hbound
  go_enter Try.func21, Try.ntmps21
  go_wp2_with (at_lookup; refine wpList_lookup_own_ok _ rfl _ _ 62 rfl 3 32 keyed Try.underlying62 evElem (zEv _) (evD Ev.zero) [] (evElem_mk Ev.zero) b q.last D rfl HOWN.out _ (.int .i64 e.number) rfl hkey.out ?_; intro v ps hv; rw [HAT.out] at hv; obtain rfl := evElem_inv hv; clear hv; rw [HHAS.out])
  obtain ⟨w1, hw1⟩ : ∃ w1, w1 = w.alloc (.cells #[.int .i64 e.at', .int .i64 e.kind, .int .i64 e.node, .int .i64 e.number, .int .i64 e.arg] 32) := ⟨_, rfl⟩
  have hsz1 : w1.heap.size = w.heap.size + 1 := by rw [hw1]; simp
  have hbox : w1.heap[w.heap.size]? = some (.cells #[.int .i64 e.at', .int .i64 e.kind, .int .i64 e.node, .int .i64 e.number, .int .i64 e.arg] 32) := by rw [hw1]; exact heap_alloc_new w _
  have hbel : Below w.heap.size w w1 := by rw [hw1]; exact below_alloc w _
  rw [← hw1]
  clear hw1 c2 c3
  have hrow1 := (hbel.block p hpl).trans H3.out
  have HROW := Lib.hid hrow1; have HBOX := Lib.hid hbox; have HBEL := Lib.hid hbel
  have HEV := Lib.hid (Sl.keep H4.out fun k _ hl => hbel.block k hl)
  clear hrow1 hbox hbel
  have c2 := (qu_cells HROW.out).2.2.1
  have k0 := blk_cell (i := 0) HBOX.out rfl; have k1 := blk_cell (i := 1) HBOX.out rfl; have k2 := blk_cell (i := 2) HBOX.out rfl; have k3 := blk_cell (i := 3) HBOX.out rfl; have k4 := blk_cell (i := 4) HBOX.out rfl
  go_region_held3 (fun w' => w'.cell? ⟨p, 2, none⟩ = some (.slice la q.evs.length lc) ∧ w'.cell? ⟨w.heap.size, 0, none⟩ = some (.int .i64 e.at') ∧ w'.cell? ⟨w.heap.size, 1, none⟩ = some (.int .i64 e.kind) ∧ w'.cell? ⟨w.heap.size, 2, none⟩ = some (.int .i64 e.node) ∧ w'.cell? ⟨w.heap.size, 3, none⟩ = some (.int .i64 e.number) ∧ w'.cell? ⟨w.heap.size, 4, none⟩ = some (.int .i64 e.arg)) (first | exact ⟨c2, k0, k1, k2, k3, k4⟩ | exact HS1.out)
    ((go_at_call 27; refine (search_any _ _ q.evs (by exact Rd.keep (EvO.evR HEV.out) fun _ _ _ => rfl) HOK.out.srt (by omega) e).mono ?_; rintro ee w2 ⟨i, bb, rfl, hlow, hb⟩; have HS1 := Lib.hid (show w2.cell? ⟨p, 2, none⟩ = some (.slice la q.evs.length lc) ∧ w2.cell? ⟨w.heap.size, 0, none⟩ = some (.int .i64 e.at') ∧ w2.cell? ⟨w.heap.size, 1, none⟩ = some (.int .i64 e.kind) ∧ w2.cell? ⟨w.heap.size, 2, none⟩ = some (.int .i64 e.node) ∧ w2.cell? ⟨w.heap.size, 3, none⟩ = some (.int .i64 e.number) ∧ w2.cell? ⟨w.heap.size, 4, none⟩ = some (.int .i64 e.arg) from ⟨cell_later hb c2, cell_later hb k0, cell_later hb k1, cell_later hb k2, cell_later hb k3, cell_later hb k4⟩); have HB2 := Lib.hid (show Below w1.heap.size w1 w2 from (below_drew w1 1).trans hb); have HLOW := Lib.hid hlow; clear hb hlow))
  clear c2 k0 k1 k2 k3 k4
  obtain ⟨hli, hil⟩ := low_at HOK.out.srt HE.out HLOW.out
  have HLI := Lib.hid hli
  have hz12 : w1.heap.size ≤ w2.heap.size := HB2.out.size
  have hrow2 := (HB2.out.block p (by omega)).trans HROW.out
  have HROW2 := Lib.hid hrow2
  have HEV2 := Lib.hid (Sl.keep HEV.out fun k _ hl => HB2.out.block k hl)
  have HMAP2 := Lib.hid (hmap5.out.keep ((HB2.out.block b (by omega)).trans (HBEL.out.block b hbl)))
  obtain ⟨c2, k0, k1, k2, k3, k4⟩ := HS1.out
  have fr2 := blk_free HROW2.out 2
  clear hli hrow2 HS1 k0 k1 k2 k3 k4
  go_wp2_with fail
  refine (delete_any w2 _ (.slice la q.evs.length lc) q.evs HEV2.out (by omega) i hil).mono ?_
  rintro ee w3 ⟨v3, rfl, hev3, hfr3⟩
  obtain ⟨va3, vc3, rfl, _⟩ := hev3.evR.shape
  rw [cut_filter HOK.out.num HLI.out] at hev3 ⊢
  have HROW3 := Lib.hid (hfr3.keep HROW2.out (fun h => h.1.2.1 rfl))
  have HEV3 := Lib.hid hev3; have HFR3 := Lib.hid hfr3
  have HMAP3 := Lib.hid (HMAP2.out.keep (hfr3.block b (by omega) (fun h => h.1.2.2 rfl)))
  have hz23 : w2.heap.size ≤ w3.heap.size := hfr3.size
  clear hev3 hfr3 c2 fr2
  have c2 := (qu_cells HROW3.out).2.2.1; have c3 := (qu_cells HROW3.out).2.2.2
  have fr2 := blk_free HROW3.out 2
  have hown3 := HMAP3.out
  obtain ⟨D3, hown3, hsays3⟩ := hown3
  have HOWN3 := Lib.hid hown3; have HSAYS3 := Lib.hid hsays3
  clear hown3 hsays3
  obtain ⟨l2, hl2⟩ : ∃ l2, l2 = q.evs.filter fun x => !(x.number == e.number) := ⟨_, rfl⟩
  have HL2 := Lib.hid hl2
  rw [← hl2] at HEV3 ⊢
  clear hl2
  go_wp2_with (refine wpList_delete_own _ rfl _ _ 62 3 rfl 32 keyed Try.underlying62 evElem b q.last D3 rfl (World.ownsMap.setCell HOWN3.out (by show b ≠ p; exact h2) _) _ (.int .i64 e.number) rfl hkey.out ?_; intro w5 hown5 hg5; have HOWN5 := Lib.hid hown5; have HG5 := Lib.hid hg5.grown; clear hown5 hg5)
  go_ret
  have hfr4 : Fr (fun k => k = p) w3 (w3.setCell ⟨p, 2, none⟩ (.slice va3 l2.length vc3)) := Fr.setCell (Fr.refl (fun k => k = p) w3) (Or.inl rfl) _
  have hrow4 : (w3.setCell ⟨p, 2, none⟩ (.slice va3 l2.length vc3)).heap[p]? = some (.cells (quCells q.now q.last (.slice va3 l2.length vc3) b) 64 (0, 0)) := by (apply row_trans; focus (repeat (first | (with_reducible exact HROW3.out) | (with_reducible apply row_set) | (with_reducible apply row_drewN) | (with_reducible apply row_drew)))); rfl
  have hrow5 := (HG5.out.block p (lt_of_block hrow4) (fun e => by simp at e; omega)).trans hrow4
  have f1 : Fr F w w2 := ((Fr.refl F w).of_below HBEL.out).of_below HB2.out
  have f3 := (f1.trans HFR3.out fun x h => .inl h.1.1).trans hfr4 fun x h => .inl (by subst h; exact h0)
  refine ⟨by rw [HQ.out]; rfl, ?_⟩
  rw [HQ.out, ← HL2.out]
  refine Did.one0 (f3.grown HG5.out fun k e => by cases e; exact .inl h1) ⟨.inl h0, _, b, .inl h1, h2, hrow5, ?_, _, HOWN5.out, HSAYS3.out.del fun x => ?_⟩
  · exact Sl.mono (Sl.keep HEV3.out fun k hk hl => (HG5.out.block k (by simpa using hl) (fun e => by simp at e; exact hk.1.2.2 e)).trans (hfr4.block k hl hk.1.2.1)) fun k hk => ⟨.inl hk.1.1, hk.1.2⟩
  · rw [HL2.out, List.mem_filter]
    simp
end Go.Proofs.Ytococphklfbidaa
