/- slices.Insert of one event. -/
import Derived.Test.YtococphklfbidaaKerB
import Derived.Test.YtococphklfbidaaCpy
import Derived.Lib.Overlaps
import Derived.Lib.AppendZerosOnto
import Derived.Deep.RegionLaw
import Derived.IntWalk
namespace Go.Proofs.Ytococphklfbidaa
open Go.RowKit

theorem slEv : SlT Try.prog 38 32 (.agg #[.int .i64 0, .int .i64 0, .int .i64 0, .int .i64 0, .int .i64 0]) 5 40 := ⟨Try.underlying38, info_parts (by kernel_rfl), rfl, by decide⟩
def EvO (w : World) (K : BS) (v : Value) (l : List Ev) : Prop := Sl w K 32 5 v l.length (evCells l)
theorem EvO.evR {w : World} {K : BS} {v : Value} {l : List Ev} (h : EvO w K v l) : EvR w v l := Sl.rd h
/-- one event in a block of its own -/
theorem rd_ev {w : World} {vb : Nat} {e : Ev} (h : w.heap[vb]? = some (.cells #[.int .i64 e.at', .int .i64 e.kind, .int .i64 e.node, .int .i64 e.number, .int .i64 e.arg] 32)) : Rd w 5 (.slice (some ⟨vb, 0, none⟩) 1 1) 1 (evC e) := by
  refine ⟨rfl, _, 1, rfl, Nat.le_refl _, by decide, (fun e => by cases e), fun b hb j u hj => ?_⟩
  obtain rfl := Option.some.inj hb
  refine ⟨rfl, ?_⟩
  simp only [World.cell?, h, Nat.zero_add]
  simpa [evC] using hj
def InsPost (w : World) (K : BS) (l' : List Ev) (e : Ending) (w' : World) : Prop := ∃ v', e = .returned v' ∧ EvO w' (fun k => K k ∨ w.heap.size ≤ k) v' l' ∧ Fr K w w'
set_option maxHeartbeats 2000000 in
theorem insert_end (w : World) (K : BS) (v : Value) (l : List Ev) (h : EvO w K v l) (hl : l.length ≤ 1000000) (vb : Nat) (e : Ev) (hb : w.heap[vb]? = some (.cells #[.int .i64 e.at', .int .i64 e.kind, .int .i64 e.node, .int .i64 e.number, .int .i64 e.arg] 32)) :
    Calls Try.prog 29 #[v, .int .i64 (l.length : Int), .slice (some ⟨vb, 0, none⟩) 1 1] w (InsPost w K (l ++ [e])) := by
  obtain ⟨a, c, rfl, hc1, hc2, hc3⟩ := h.evR.shape
  have H := Lib.hid h; have HB := Lib.hid hb; have HC3 := Lib.hid hc3
  clear h hb hc3
  unfold maxLen at hc2
  have hcase : (c = l.length) ∨ (l.length < c) := by omega
  rcases hcase with hcl | hcl
  · have HCL := Lib.hid hcl
    subst hcl
    go_enter Try.func29, Try.ntmps29
    go_wp2_with (at_builtin; refine wpList_apps slEv rfl _ _ rfl K (.slice a l.length l.length) l.length (evCells l) rfl H.out _ 1 (evC e) rfl (rd_ev HB.out) (by intro u hu; exact evCells_one (l := [e]) (by simpa [evCells] using hu)) (by unfold maxLen; omega) (by omega) ?_; intro v2 w2 hs2 hf2; have HS2 := Lib.hid hs2; have HF2 := Lib.hid hf2; clear hs2 hf2)
    go_ret
    refine ⟨v2, rfl, ?_, HF2.out⟩
    unfold EvO; rw [evCells_app, List.length_append]; exact HS2.out
  · obtain ⟨g, off, rfl⟩ : ∃ g off, a = some ⟨g, off, none⟩ := by
      rcases H.out.2 with ⟨e1, _⟩ | ⟨g, off, _, _, e1, _⟩
      · simp at e1; omega
      · simp at e1; exact ⟨g, off, e1.1⟩
    have hne : ¬ c = l.length := by omega
    go_enter Try.func29, Try.ntmps29
    go_wp2_with (at_builtin; refine wpList_apps slEv rfl _ _ rfl K (.slice (some ⟨g, off, none⟩) l.length c) l.length (evCells l) rfl H.out _ 1 (evC e) rfl (rd_ev HB.out) (by intro u hu; exact evCells_one (l := [e]) (by simpa [evCells] using hu)) (by unfold maxLen; omega) (by omega) ?_; intro v2 w2 hs2 hf2; have HS2 := Lib.hid hs2; have HF2 := Lib.hid hf2; clear hs2 hf2)
    go_ret
    refine ⟨v2, rfl, ?_, HF2.out⟩
    unfold EvO; rw [evCells_app, List.length_append]; exact HS2.out
theorem evCells_ins (l : List Ev) (i : Nat) (e : Ev) : evCells (l.take i ++ e :: l.drop i) = evCells (l.take i) ++ evC e ++ evCells (l.drop i) := by
  rw [evCells_app, evCells_cons, List.append_assoc]
theorem evCells_split (l : List Ev) (i : Nat) : evCells l = evCells (l.take i) ++ evCells (l.drop i) := by rw [← evCells_app, List.take_append_drop]
theorem oneC (e : Ev) : ∀ u ∈ evC e, u.oneCell' = true := by intro u hu; exact evCells_one (l := [e]) (by simpa [evCells] using hu)
set_option maxHeartbeats 4000000 in
theorem insert_shift (w : World) (K : BS) (g off c : Nat) (l : List Ev) (h : EvO w K (.slice (some ⟨g, off, none⟩) l.length c) l) (hl : l.length ≤ 1000000) (i : Nat) (hi : i < l.length) (hroom : l.length + 1 ≤ c) (vb : Nat) (e : Ev) (hb : w.heap[vb]? = some (.cells #[.int .i64 e.at', .int .i64 e.kind, .int .i64 e.node, .int .i64 e.number, .int .i64 e.arg] 32)) (hvb : ¬ K vb) :
    Calls Try.prog 29 #[.slice (some ⟨g, off, none⟩) l.length c, .int .i64 (i : Int), .slice (some ⟨vb, 0, none⟩) 1 1] w (InsPost w K (l.take i ++ e :: l.drop i)) := by
  obtain ⟨hul, ⟨e2, _⟩ | ⟨g', off', cap', cur, e2, hF, hrow, h1, h2, h3, h4⟩⟩ := h
  · cases e2
  obtain ⟨⟨rfl, rfl⟩, rfl⟩ : (g = g' ∧ off = off') ∧ c = cap' := by simpa using e2
  have hgb : vb ≠ g := fun e => hvb (e ▸ hF)
  have H3 : off + c * 5 ≤ cur.size := h3
  have hul' := hul
  rw [evCells_length] at hul'
  have hA : (evCells (l.take i)).length = i * 5 := by rw [evCells_length, List.length_take]; omega
  have hB : (evCells (l.drop i)).length = (l.length - i) * 5 := by rw [evCells_length, List.length_drop]
  have hC : (evC e).length = 5 := rfl
  have hcl : cur.toList.length = cur.size := by simp
  have h2' := h2
  unfold maxLen at h2
  obtain ⟨cur1, hcur1⟩ : ∃ cur1, cur1 = (over cur.toList (off + (i + 1) * 5) (evCells (l.drop i))).toArray := ⟨_, rfl⟩
  have hs1 : cur1.size = cur.size := by rw [hcur1, List.size_toArray, over_length (by rw [hB, hcl]; omega), hcl]
  have hrow1 : (wOver w.drew g cur (off + (i + 1) * 5) (evCells (l.drop i))).heap[g]? = some (.cells cur1 32 (0, 0)) := by rw [hcur1]; exact over_row (w := w.drew) hrow _ _
  have hfr1 := over_fr (w := w.drew) (g := g) cur (off + (i + 1) * 5) (evCells (l.drop i))
  obtain ⟨w1, hw1⟩ : ∃ w1, w1 = wOver w.drew g cur (off + (i + 1) * 5) (evCells (l.drop i)) := ⟨_, rfl⟩
  rw [← hw1] at hrow1 hfr1
  have hvb1 : w1.heap[vb]? = some (.cells #[.int .i64 e.at', .int .i64 e.kind, .int .i64 e.node, .int .i64 e.number, .int .i64 e.arg] 32) := (hfr1.block vb (lt_of_block (w := w) hb) (fun e => hgb e)).trans hb
  have hov : ∀ lb cb, (callFunc 34 #[.slice (some ⟨vb, 0, none⟩) 1 1, .slice (some ⟨g, off + (i + 1) * 5, none⟩) lb cb]).run Try.prog w = .ok (.value (.bool false)) w := fun lb cb => by
    rw [run_callFunc_extern Try.func34 (by kernel_rfl) (by kernel_rfl) (by kernel_rfl) (e := Extern.SlicesOverlaps.overlaps #[38, 38] #[4]) (by kernel_rfl),
      Lib.run_overlaps_apart w 38 4 32 Try.underlying38 5 (fun w => by kernel_rfl) ⟨vb, 0, none⟩ ⟨g, off + (i + 1) * 5, none⟩ 1 1 lb cb hgb 32 32 5 cur.size (by simp [World.shape?, hb]) (by simp [World.shape?, hrow]) (by omega) (blk_free hb 0) (blk_free hb 5)]
    rfl
  have HOV := Lib.hid hov; have HROW := Lib.hid hrow; have HROW1 := Lib.hid hrow1; have HFR1 := Lib.hid hfr1; have HVB1 := Lib.hid hvb1; have H4 := Lib.hid h4; have HF := Lib.hid hF; have HS1 := Lib.hid hs1; have HCUR1 := Lib.hid hcur1
  have HA := Lib.hid hA; have HB := Lib.hid hB; have HW1 := Lib.hid hw1; have HUL := Lib.hid hul
  have hsrc1 : Hid (∀ (j : Nat) v, (evCells (l.drop i))[j]? = some v → w.drew.cell? ((⟨g, off + i * 5, none⟩ : Addr).add j) = some v) := Lib.hid fun j v hj => by
    rw [add_eq _ _ rfl]
    have hjl := lt_of_get hj
    have e1 : (evCells l)[i * 5 + j]? = some v := by rw [evCells_split l i, List.getElem?_append_right (by omega), hA, Nat.add_sub_cancel_left]; exact hj
    rw [← h4, List.getElem?_take, if_pos (by rw [hB] at hjl; omega), List.getElem?_drop] at e1
    have hr : w.drew.heap[g]? = _ := hrow
    simp only [World.cell?, hr]
    simpa [Nat.add_assoc] using e1
  have hsrc2 : Hid (∀ (j : Nat) v, (evC e)[j]? = some v → w1.cell? ((⟨vb, 0, none⟩ : Addr).add j) = some v) := Lib.hid fun j v hj => by
    rw [add_eq _ _ rfl]
    simp only [World.cell?, hvb1, Nat.zero_add]
    simpa [evC] using hj
  clear hov hrow hrow1 hfr1 hvb1 h4 hF hs1 hcur1 hA hB hw1 hul hul' hb e2
  have hne1 : ¬ c = i + 1 := by omega
  have hne2 : ¬ c = i := by omega
  have hov' := HOV.out
  go_enter Try.func29, Try.ntmps29
  go_wp2_with (simp only [hov'])
  have hx0 : IntKind.i64.wrap ((i : Int) + 1) = (i : Int) + 1 := IntWalk.i64_in _ (by omega)
  have hx1 : (0 : Int) ≤ (i : Int) + 1 ∧ (i : Int) + 1 ≤ (l.length : Int) + 1 := by omega
  have hx3 : (0 : Int) ≤ (i : Int) ∧ (i : Int) ≤ (l.length : Int) + 1 := by omega
  have hx2 : ((i : Int) + 1).toNat = i + 1 := by omega
  refine wp_region_still_tail 8 (by kernel_rfl) (by kernel_rfl) ?_
  simp only [List.take_succ_cons, List.take_zero, List.drop_succ_cons, List.drop_zero]
  change wpStill _ _ (World.drew _) (fun a' => wpList _ _ _ _ a' (World.drew _)) _ _
  repeat still_step
  refine wpStill_nil ?_
  refine wpList_copy_k slEv rfl _ _ rfl g (off + (i + 1) * 5) (l.length - i) (c - (i + 1)) ⟨g, off + i * 5, none⟩ (l.length + 1 - i) (c - i) (by rfl) (by rfl) cur (evCells (l.drop i)) HROW.out (by rw [HB.out]; congr 1; simp only [Nat.min_def]; split <;> omega) hsrc1.out (by rw [HB.out]; omega) (fun u hu => evCells_one hu) ?_
  rw [← HW1.out]
  clear hov' hx0 hx1 hx2 hx3
  go_wp2_with (refine wpList_copy_k slEv rfl _ _ rfl g (off + i * 5) (l.length + 1 - i) (c - i) ⟨vb, 0, none⟩ 1 1 (by rfl) (by rfl) cur1 (evC e) HROW1.out (by rw [hC]; simp only [Nat.min_def]; split <;> omega) hsrc2.out (by rw [HS1.out, hC]; omega) (oneC e) ?_)
  go_ret
  have hA' := HA.out; have hB' := HB.out
  have h4' := H4.out
  rw [evCells_split l i] at h4'
  have hfin : Sl (wOver w1 g cur1 (off + i * 5) (evC e)) (fun k => K k ∨ w.heap.size ≤ k) 32 5 (.slice (some ⟨g, off, none⟩) (l.length + 1) c) (l.length + 1) (evCells (l.take i) ++ evC e ++ evCells (l.drop i)) := by
    refine ⟨by rw [List.length_append, List.length_append, hA', hB', hC]; omega, .inr ⟨g, off, c, _, rfl, .inl HF.out, over_row HROW1.out _ _, hroom, h2', ?_, ?_⟩⟩
    · rw [List.size_toArray, over_length (by rw [hC, Array.length_toList, HS1.out]; omega), Array.length_toList, HS1.out]; exact H3
    · have ho := over_ins (A := evCells (l.take i)) (B := evCells (l.drop i)) (C := evC e) (cur := cur.toList) (off := off) (by rw [hA', hB', ← h4']; congr 1; omega) (by rw [hA', hB', hC, hcl]; omega)
      rw [hA', hB', hC] at ho
      rw [HCUR1.out, show off + (i + 1) * 5 = off + i * 5 + 5 by omega]
      show ((over _ (off + i * 5) (evC e)).drop off).take ((l.length + 1) * 5) = _
      rw [← ho, show (l.length + 1) * 5 = i * 5 + 5 + (l.length - i) * 5 by omega]
  refine ⟨_, rfl, ?_, ?_⟩
  · have hlen : (l.take i ++ e :: l.drop i).length = l.length + 1 := by simp; omega
    unfold EvO
    rw [evCells_ins, hlen]
    exact hfin
  · have f1 : Fr (fun k => k = g) w w1 := (Fr.refl _ w).drew.trans HFR1.out fun x h => .inl h
    exact (f1.trans (over_fr cur1 (off + i * 5) (evC e)) fun x h => .inl h).mono fun x hx => by subst hx; exact HF.out
set_option maxHeartbeats 4000000 in
theorem insert_grow (w : World) (K : BS) (g off c : Nat) (l : List Ev) (h : EvO w K (.slice (some ⟨g, off, none⟩) l.length c) l) (hl : l.length ≤ 1000000) (i : Nat) (hi : i < l.length) (hroom : c < l.length + 1) (vb : Nat) (e : Ev) (hb : w.heap[vb]? = some (.cells #[.int .i64 e.at', .int .i64 e.kind, .int .i64 e.node, .int .i64 e.number, .int .i64 e.arg] 32)) :
    Calls Try.prog 29 #[.slice (some ⟨g, off, none⟩) l.length c, .int .i64 (i : Int), .slice (some ⟨vb, 0, none⟩) 1 1] w (InsPost w K (l.take i ++ e :: l.drop i)) := by
  have hcell := fun j u => h.cell (j := j) (u := u)
  have hlc : l.length ≤ c := by obtain ⟨_, ⟨e2, _⟩ | ⟨_, _, _, _, e2, _, _, h1, _⟩⟩ := h; · cases e2
                                · simp at e2; omega
  have hgw : g < w.heap.size := by obtain ⟨_, ⟨e2, _⟩ | ⟨g', _, _, _, e2, _, hr, _, _⟩⟩ := h; · cases e2
                                   · simp at e2; rw [e2.1.1]; exact lt_of_block hr
  have hvw := lt_of_block hb
  have hA : (evCells (l.take i)).length = i * 5 := by rw [evCells_length, List.length_take]; omega
  have hB : (evCells (l.drop i)).length = (l.length - i) * 5 := by rw [evCells_length, List.length_drop]
  have hC : (evC e).length = 5 := rfl
  have hsplit := evCells_split l i
  obtain ⟨i0, hi0, hz0, hzs, hzb⟩ := info_parts (show (Try.prog.info? 32).map (fun i => (i.zero, i.size, i.bytes)) = some (some (.agg #[.int .i64 0, .int .i64 0, .int .i64 0, .int .i64 0, .int .i64 0]), 5, 40) by kernel_rfl)
  have hkk : (l.length : Int) + 1 - (i : Int) = ((l.length + 1 - i : Nat) : Int) := by omega
  have hik : i + (l.length + 1 - i) = l.length + 1 := by omega
  have hold : (Builtin.firstCells i0.size i (.slice (some ⟨g, off, none⟩) i c)).run Try.prog w.drew = .ok (evCells (l.take i)).toArray w.drew := by
    rw [hzs]
    exact run_firstCells_some w.drew 5 i ⟨g, off, none⟩ i c (evCells (l.take i)) (by rw [hA]) (fun j v hj => by
      rw [add_eq _ _ rfl]
      exact hcell j v (by rw [hsplit, List.getElem?_append_left (lt_of_get hj)]; exact hj))
  obtain ⟨G, hG⟩ : ∃ G, G = grownCap w (l.length + 1) c 32 := ⟨_, rfl⟩
  obtain ⟨ROW, hROW⟩ : ∃ ROW : Array Value, ROW = (evCells (l.take i)).toArray ++ Builtin.zeroCells (Value.agg #[.int .i64 0, .int .i64 0, .int .i64 0, .int .i64 0, .int .i64 0]).cells (l.length + 1 - i) ++ Builtin.zeroCells (Value.agg #[.int .i64 0, .int .i64 0, .int .i64 0, .int .i64 0, .int .i64 0]).cells (G - (l.length + 1)) := ⟨_, rfl⟩
  have hGn : l.length + 1 ≤ G := by rw [hG]; exact grownCap_ge w _ _ _
  have hG63 : G ≤ maxLen := by rw [hG]; exact grownCap_le_maxLen w (l.length + 1) c 32 (by unfold maxLen; omega)
  have hrz : ∀ ty, (Builtin.append_ #[38, 3] ty #[.slice (some ⟨g, off, none⟩) i c, .int .i64 ((l.length : Int) + 1 - (i : Int))]).run Try.prog w =
      .ok (.slice (some ⟨w.heap.size, 0, none⟩) (l.length + 1) G) (w.drew.alloc (.cells ROW 32)) := fun ty => by
    have h := Lib.run_append_grow_zeros w 38 3 ty 32 i0 _ .i64 .i64 Try.underlying38 Try.underlying3 hi0 hz0 (some ⟨g, off, none⟩) i c (evCells (l.take i)) hold (l.length + 1 - i) (by omega) (by omega) (by omega) (by omega) (by rw [hzb]; omega) (by rw [hzb, hik]; exact growslice_fits hroom (by omega))
    rw [hik, ← hG] at h
    rw [hkk, h, hROW]
  have hzl : (Value.agg #[.int .i64 0, .int .i64 0, .int .i64 0, .int .i64 0, .int .i64 0]).cells.size = 5 := rfl
  have hRl : ROW.size = G * 5 := by
    rw [hROW]; simp only [Array.size_append, List.size_toArray, size_zeroCells, hzl, hA]; omega
  have hRt : ROW.toList.take (i * 5) = evCells (l.take i) := by
    rw [hROW]; simp only [Array.toList_append, List.append_assoc]
    rw [← hA]; exact List.take_left
  obtain ⟨cur1, hcur1⟩ : ∃ cur1, cur1 = (over ROW.toList (i * 5) (evC e)).toArray := ⟨_, rfl⟩
  have hs1 : cur1.size = ROW.size := by rw [hcur1, List.size_toArray, over_length (by rw [hC, Array.length_toList, hRl]; omega), Array.length_toList]
  obtain ⟨w1, hw1⟩ : ∃ w1, w1 = w.drew.alloc (.cells ROW 32) := ⟨_, rfl⟩
  have hrow : w1.heap[w.heap.size]? = some (.cells ROW 32 (0, 0)) := by rw [hw1]; exact heap_alloc_new w.drew _
  have hbel : Below w.heap.size w w1 := by rw [hw1]; exact (Below.refl _ _ |> Bw.drew).alloc (Nat.le_refl _) _
  obtain ⟨w2, hw2⟩ : ∃ w2, w2 = wOver w1 w.heap.size ROW (i * 5) (evC e) := ⟨_, rfl⟩
  have hrow2 : w2.heap[w.heap.size]? = some (.cells cur1 32 (0, 0)) := by rw [hw2, hcur1]; exact over_row hrow _ _
  have hfr2 : Fr (fun k => k = w.heap.size) w1 w2 := by rw [hw2]; exact over_fr ROW (i * 5) (evC e)
  have hkeep : ∀ k, k < w.heap.size → w2.heap[k]? = w.heap[k]? := fun k hk => (hfr2.block k (Nat.lt_of_lt_of_le hk hbel.size) (fun e => by omega)).trans (hbel.block k hk)
  have hsrc1 : Hid (∀ (j : Nat) v, (evC e)[j]? = some v → w1.cell? ((⟨vb, 0, none⟩ : Addr).add j) = some v) := Lib.hid fun j v hj => by
    have hvb1 := (hbel.block vb hvw).trans hb
    rw [add_eq _ _ rfl]
    simp only [World.cell?, hvb1, Nat.zero_add]
    simpa [evC] using hj
  have hsrc2 : Hid (∀ (j : Nat) v, (evCells (l.drop i))[j]? = some v → w2.drew.cell? ((⟨g, off + i * 5, none⟩ : Addr).add j) = some v) := Lib.hid fun j v hj => by
    rw [add_eq _ _ rfl]
    have h5 := hcell (i * 5 + j) v (by rw [hsplit, List.getElem?_append_right (by omega), hA, Nat.add_sub_cancel_left]; exact hj)
    rw [← Nat.add_assoc] at h5
    exact (World.cell?_of_block (a := ⟨g, off + i * 5 + j, none⟩) (hkeep g hgw)).trans h5
  have HROW := Lib.hid hrow; have HROW2 := Lib.hid hrow2; have HFR2 := Lib.hid hfr2; have HBEL := Lib.hid hbel; have HRL := Lib.hid hRl; have HRT := Lib.hid hRt; have HS1 := Lib.hid hs1; have HCUR1 := Lib.hid hcur1
  have HA := Lib.hid hA; have HB := Lib.hid hB; have HW1 := Lib.hid hw1; have HW2 := Lib.hid hw2; have HRZ := Lib.hid hrz
  clear hrow hrow2 hfr2 hbel hRl hRt hs1 hcur1 hA hB hw1 hw2 hkeep hsplit hcell hold hik hkk hG hROW hb h hz0 hi0 hzs hzb hzl hrz
  unfold maxLen at hG63
  have hne1 : ¬ G = i := by omega
  have hne2 : ¬ G = i + 1 := by omega
  have hne3 : ¬ c = i := by omega
  go_enter Try.func29, Try.ntmps29
  go_wp2_with (first
    | (at_builtin; refine Lib.wpList_append_run _ rfl _ _ _ _ rfl _ _ rfl rfl _ _ (HRZ.out _) ?_; rw [← HW1.out])
    | (refine wpList_copy_k slEv rfl _ _ rfl w.heap.size (i * 5) (l.length + 1 - i) (G - i) ⟨vb, 0, none⟩ 1 1 (by rfl) (by rfl) ROW (evC e) HROW.out (by rw [hC]; simp only [Nat.min_def]; split <;> omega) hsrc1.out (by rw [HRL.out, hC]; omega) (oneC e) ?_; rw [← HW2.out]))
  have hx0 : IntKind.i64.wrap ((i : Int) + 1) = (i : Int) + 1 := IntWalk.i64_in _ (by omega)
  have hx1 : (0 : Int) ≤ (i : Int) + 1 ∧ (i : Int) + 1 ≤ (l.length : Int) + 1 := by omega
  have hx2 : ((i : Int) + 1).toNat = i + 1 := by omega
  have hx3 : (0 : Int) ≤ (i : Int) ∧ (i : Int) ≤ (l.length : Int) := by omega
  refine wp_region_still_tail 8 (by kernel_rfl) (by kernel_rfl) ?_
  simp only [List.take_succ_cons, List.take_zero, List.drop_succ_cons, List.drop_zero]
  change wpStill _ _ (World.drew _) (fun a' => wpList _ _ _ _ a' (World.drew _)) _ _
  repeat still_step
  refine wpStill_nil ?_
  have hrow2d := (show w2.drew.heap[w.heap.size]? = _ from HROW2.out)
  refine wpList_copy_k slEv rfl _ _ rfl w.heap.size ((i + 1) * 5) (l.length - i) (G - (i + 1)) ⟨g, off + i * 5, none⟩ (l.length - i) (c - i) (by rfl) (by rfl) cur1 (evCells (l.drop i)) hrow2d (by rw [HB.out]; congr 1; simp only [Nat.min_def]; split <;> omega) hsrc2.out (by rw [HS1.out, HRL.out, HB.out]; omega) (fun u hu => evCells_one hu) ?_
  clear hx0 hx1 hx2 hx3 hrow2d
  go_wp2_with fail
  go_ret
  have hA' := HA.out; have hB' := HB.out; have hs' := HS1.out; have hr' := HRL.out
  have hlen : (l.take i ++ e :: l.drop i).length = l.length + 1 := by simp; omega
  have hrow2d := (show w2.drew.heap[w.heap.size]? = _ from HROW2.out)
  have hcur1 := HCUR1.out
  have hg1 : cur1.toList.take (i * 5 + 5) = evCells (l.take i) ++ evC e := by
    rw [hcur1]
    show (over ROW.toList (i * 5) (evC e)).take (i * 5 + 5) = _
    unfold over
    have h1 : (ROW.toList.take (i * 5)).length = i * 5 := by rw [List.length_take, Array.length_toList]; omega
    rw [List.take_append_of_le_length (by rw [List.length_append, h1, hC]; omega), List.take_of_length_le (by rw [List.length_append, h1, hC]; omega), HRT.out]
  refine ⟨_, rfl, ?_, ?_⟩
  · unfold EvO
    rw [evCells_ins, hlen]
    refine ⟨by rw [List.length_append, List.length_append, hA', hB', hC]; omega, .inr ⟨w.heap.size, 0, G, _, rfl, .inr (Nat.le_refl _), over_row hrow2d _ _, hGn, by unfold maxLen; exact hG63, ?_, ?_⟩⟩
    · have hcs : cur1.toList.length = G * 5 := (Array.length_toList (xs := cur1)).trans (hs'.trans hr')
      rw [List.size_toArray, over_length (by rw [hB', hcs]; omega), hcs]; omega
    · show ((over cur1.toList ((i + 1) * 5) (evCells (l.drop i))).drop 0).take ((l.length + 1) * 5) = _
      rw [List.drop_zero]
      unfold over
      have h1 : (cur1.toList.take ((i + 1) * 5)).length = (i + 1) * 5 := by rw [List.length_take, Array.length_toList]; omega
      rw [List.take_append_of_le_length (by rw [List.length_append, h1, hB']; omega), List.take_of_length_le (by rw [List.length_append, h1, hB']; omega), show (i + 1) * 5 = i * 5 + 5 by omega, hg1]
  · have f1 : Fr K w w1 := ⟨HBEL.out.os, HBEL.out.tape, HBEL.out.output, HBEL.out.size, fun k hl _ => HBEL.out.block k hl⟩
    have hz1 := HBEL.out.size
    refine ((f1.trans HFR2.out fun x h => .inr (by subst h; exact Nat.le_refl _)).drew).trans (over_fr (w := w2.drew) cur1 ((i + 1) * 5) (evCells (l.drop i))) fun x h => .inr (by subst h; exact Nat.le_refl _)
/-- slices.Insert of one event at its place -/
theorem insert_any (w : World) (K : BS) (v : Value) (l : List Ev) (h : EvO w K v l) (hl : l.length ≤ 1000000) (i : Nat) (hi : i ≤ l.length) (vb : Nat) (e : Ev) (hb : w.heap[vb]? = some (.cells #[.int .i64 e.at', .int .i64 e.kind, .int .i64 e.node, .int .i64 e.number, .int .i64 e.arg] 32)) (hvb : ¬ K vb) :
    Calls Try.prog 29 #[v, .int .i64 (i : Int), .slice (some ⟨vb, 0, none⟩) 1 1] w (InsPost w K (l.take i ++ e :: l.drop i)) := by
  by_cases hil : i = l.length
  · subst hil
    rw [List.take_length, List.drop_length]
    exact insert_end w K v l h hl vb e hb
  · obtain ⟨a, c, rfl, hc1, hc2, hc3⟩ := h.evR.shape
    obtain ⟨g, off, rfl⟩ : ∃ g off, a = some ⟨g, off, none⟩ := by
      rcases h.2 with ⟨e1, _⟩ | ⟨g, off, _, _, e1, _⟩
      · simp at e1; omega
      · simp at e1; exact ⟨g, off, e1.1⟩
    by_cases hroom : l.length + 1 ≤ c
    · exact insert_shift w K g off c l h hl i (by omega) hroom vb e hb hvb
    · exact insert_grow w K g off c l h hl i (by omega) (by omega) vb e hb
end Go.Proofs.Ytococphklfbidaa
