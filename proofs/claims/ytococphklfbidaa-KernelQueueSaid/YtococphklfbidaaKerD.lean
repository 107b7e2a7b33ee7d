/- slices.Delete of one event. -/
import Derived.Test.YtococphklfbidaaKerC
namespace Go.Proofs.Ytococphklfbidaa
open Go.RowKit

theorem zvEv (w : World) : (zeroValue 32).run Try.prog w = .ok (.agg #[.int .i64 0, .int .i64 0, .int .i64 0, .int .i64 0, .int .i64 0]) w := by kernel_rfl
theorem oneEv : ∀ u ∈ (Value.agg #[.int .i64 0, .int .i64 0, .int .i64 0, .int .i64 0, .int .i64 0]).cells, u.oneCell' = true := by
  intro u hu; simp [Value.cells] at hu; subst hu; rfl
def DelPost (w : World) (K : BS) (l' : List Ev) (e : Ending) (w' : World) : Prop := ∃ v', e = .returned v' ∧ EvO w' K v' l' ∧ Fr K w w'
/-- an event cut out: the row behind it -/
theorem del_cells {cur : List Value} {off n i : Nat} {l : List Ev} (hl : l.length = n) (hi : i < n) (h : (cur.drop off).take (n * 5) = evCells l) (hfit : off + n * 5 ≤ cur.length) {zs : List Value} (hz : zs.length = 5) :
    ((over (over cur (off + i * 5) (evCells (l.drop (i + 1)))) (off + (n - 1) * 5) zs).drop off).take ((n - 1) * 5) = evCells (l.take i ++ l.drop (i + 1)) := by
  subst hl
  have hB : (evCells (l.drop (i + 1))).length = (l.length - (i + 1)) * 5 := by rw [evCells_length, List.length_drop]
  have hA : (evCells (l.take i)).length = i * 5 := by rw [evCells_length, List.length_take]; omega
  have h1 : off + i * 5 + (evCells (l.drop (i + 1))).length ≤ cur.length := by rw [hB]; omega
  have h2 : off + (l.length - 1) * 5 + zs.length ≤ (over cur (off + i * 5) (evCells (l.drop (i + 1)))).length := by rw [over_length h1, hz]; omega
  rw [over_apart h2 (.inl (by omega)), evCells_app]
  apply List.ext_getElem?
  intro j
  rw [List.getElem?_take]
  by_cases hj : j < (l.length - 1) * 5
  · rw [if_pos hj, List.getElem?_drop, over_get h1]
    by_cases ja : j < i * 5
    · rw [if_pos (by omega), List.getElem?_append_left (by omega)]
      have := congrArg (fun x => x[j]?) h
      simp only [List.getElem?_take, List.getElem?_drop] at this
      rw [if_pos (by omega), evCells_split l i, List.getElem?_append_left (by omega)] at this
      exact this
    · rw [if_neg (by omega), if_pos (by rw [hB]; omega), List.getElem?_append_right (by omega), hA]
      congr 1; omega
  · rw [if_neg hj, List.getElem?_eq_none (by rw [List.length_append, hA, hB]; omega)]
set_option maxHeartbeats 4000000 in
theorem delete_any (w : World) (K : BS) (v : Value) (l : List Ev) (h : EvO w K v l) (hl : l.length ≤ 1000000) (i : Nat) (hi : i < l.length) :
    Calls Try.prog 30 #[v, .int .i64 (i : Int), .int .i64 ((i : Int) + 1)] w (DelPost w K (l.take i ++ l.drop (i + 1))) := by
  obtain ⟨a, c, rfl, hc1, hc2, hc3⟩ := h.evR.shape
  obtain ⟨hul, ⟨e2, h0⟩ | ⟨g, off, c', cur, e2, hF, hrow, h1, h2, h3, h4⟩⟩ := h
  · omega
  obtain ⟨rfl, rfl⟩ : a = some ⟨g, off, none⟩ ∧ c = c' := by simpa using e2
  have H3 : off + c * 5 ≤ cur.size := h3
  have hB : (evCells (l.drop (i + 1))).length = (l.length - (i + 1)) * 5 := by rw [evCells_length, List.length_drop]
  have hcl : cur.toList.length = cur.size := Array.length_toList
  have h2' := h2
  unfold maxLen at h2
  have hsplit : evCells l = evCells (l.take (i + 1)) ++ evCells (l.drop (i + 1)) := evCells_split l (i + 1)
  have hA : (evCells (l.take (i + 1))).length = (i + 1) * 5 := by rw [evCells_length, List.length_take]; omega
  -- what is moved down
  have hrd : ∀ ad, ad = (if c = i + 1 then (⟨g, off, none⟩ : Addr) else ⟨g, off + (i + 1) * 5, none⟩) → Rd w.drew 5 (.slice (some ad) (l.length - (i + 1)) (c - (i + 1))) (l.length - (i + 1)) (evCells (l.drop (i + 1))) := fun ad had => by
    refine ⟨hB, some ad, c - (i + 1), rfl, by omega, by unfold maxLen; omega, (fun e => by cases e), fun b hb j u hj => ?_⟩
    obtain rfl := Option.some.inj hb
    have hjl := lt_of_get hj
    rw [hB] at hjl
    rw [if_neg (by omega)] at had
    subst had
    refine ⟨rfl, ?_⟩
    have e1 : (evCells l)[(i + 1) * 5 + j]? = some u := by rw [hsplit, List.getElem?_append_right (by omega), hA, Nat.add_sub_cancel_left]; exact hj
    rw [← h4, List.getElem?_take, if_pos (by omega), List.getElem?_drop] at e1
    have hr : w.drew.heap[g]? = _ := hrow
    simp only [World.cell?, hr]
    simpa [Nat.add_assoc] using e1
  have HRD := Lib.hid hrd; have HROW := Lib.hid hrow; have HB := Lib.hid hB; have HF := Lib.hid hF; have H4 := Lib.hid h4; have HCL := Lib.hid hcl
  clear hrd hrow hB hF h4 hcl hsplit hA hul e2 hc3 h3
  obtain ⟨cur1, hcur1⟩ : ∃ cur1, cur1 = (over cur.toList (off + i * 5) (evCells (l.drop (i + 1)))).toArray := ⟨_, rfl⟩
  have hs1 : cur1.size = cur.size := by rw [hcur1, List.size_toArray, over_length (by rw [HB.out, HCL.out]; omega), HCL.out]
  have hr1 : (wOver w.drew g cur (off + i * 5) (evCells (l.drop (i + 1)))).heap[g]? = some (.cells cur1 32 (0, 0)) := by rw [hcur1]; exact over_row (w := w.drew) HROW.out _ _
  have HR1 := Lib.hid hr1; have HS1 := Lib.hid hs1; have HC1 := Lib.hid hcur1
  clear hr1 hs1 hcur1
  have hx3 : IntKind.i64.wrap ((i : Int) + 1) = (i : Int) + 1 := IntWalk.i64_in _ (by omega)
  have hx1 : (0 : Int) ≤ (i : Int) + 1 ∧ (i : Int) + 1 ≤ (l.length : Int) := by omega
  have hx2 : ((i : Int) + 1).toNat = i + 1 := by omega
  have hx4 : (0 : Int) ≤ (i : Int) ∧ (i : Int) ≤ (c : Int) := by omega
  have hx5 : (i : Int) ≤ (i : Int) + 1 := by omega
  have hn : i + (l.length - (i + 1)) = l.length - 1 := by omega
  have HN := Lib.hid hn
  clear hn
  have hle : l.length - 1 < l.length := by omega
  have hin : i < c := by omega
  by_cases hck : c = i + 1
  · have HRD2 := Lib.hid (HRD.out _ rfl)
    rw [if_pos hck] at HRD2
    clear HRD
    subst hck
    rw [Nat.sub_self, show l.length - (i + 1) = 0 by omega] at HRD2
    rw [show l.length - (i + 1) = 0 by omega] at HN
    go_enter Try.func30, Try.ntmps30
    go_wp2_with fail
    refine wp_region_still_tail 6 (by kernel_rfl) (by kernel_rfl) ?_
    simp only [List.take_succ_cons, List.take_zero, List.drop_succ_cons, List.drop_zero]
    change wpStill _ _ (World.drew _) (fun a' => wpList _ _ _ _ a' (World.drew _)) _ _
    repeat still_step
    refine wpStill_nil ?_
    have hrd' := (show w.drew.heap[g]? = _ from HROW.out)
    refine wpList_app_here slEv rfl _ _ rfl g off i (i + 1) (by rfl) cur hrd' ⟨g, off, none⟩ 0 0 (evCells (l.drop (i + 1))) (by rfl) HRD2.out (fun u hu => evCells_one hu) (by omega) (by omega) ?_
    rw [HN.out]
    clear hrd' hx3 hx1 hx2 hx4 hx5
    go_wp2_with (refine wpList_clear_here slEv zvEv oneEv rfl _ rfl g (off + (l.length - 1) * 5) (l.length - (l.length - 1)) _ (by omega) (by rfl) _ HR1.out (by rw [HS1.out]; omega) ?_; intro zs hz)
    go_ret
    refine ⟨_, rfl, ?_, ?_⟩
    · have hfin := del_cells (zs := zs) rfl hi H4.out (by rw [HCL.out]; omega) (by rw [hz]; omega)
      have hlen : (l.take i ++ l.drop (i + 1)).length = l.length - 1 := by simp; omega
      unfold EvO
      rw [hlen]
      refine ⟨by rw [evCells_length, hlen], .inr ⟨g, off, i + 1, _, rfl, HF.out, over_row HR1.out _ _, by omega, h2', ?_, ?_⟩⟩
      · have hcs : cur1.toList.length = cur.size := (Array.length_toList (xs := cur1)).trans HS1.out
        rw [List.size_toArray, over_length (by rw [hz, hcs]; omega), hcs]; exact H3
      · rw [HC1.out]; exact hfin
    · exact ((((Fr.refl (fun k => k = g) w).drew).trans (over_fr (w := w.drew) cur (off + i * 5) (evCells (l.drop (i + 1)))) fun x h => .inl h).trans (over_fr cur1 (off + (l.length - 1) * 5) zs) fun x h => .inl h).mono fun x hx => by subst hx; exact HF.out
  · have HRD2 := Lib.hid (HRD.out _ rfl)
    rw [if_neg hck] at HRD2
    clear HRD
    go_enter Try.func30, Try.ntmps30
    go_wp2_with fail
    refine wp_region_still_tail 6 (by kernel_rfl) (by kernel_rfl) ?_
    simp only [List.take_succ_cons, List.take_zero, List.drop_succ_cons, List.drop_zero]
    change wpStill _ _ (World.drew _) (fun a' => wpList _ _ _ _ a' (World.drew _)) _ _
    repeat still_step
    refine wpStill_nil ?_
    have hrd' := (show w.drew.heap[g]? = _ from HROW.out)
    refine wpList_app_here slEv rfl _ _ rfl g off i c (by rfl) cur hrd' ⟨g, off + (i + 1) * 5, none⟩ (l.length - (i + 1)) (c - (i + 1)) (evCells (l.drop (i + 1))) (by rfl) HRD2.out (fun u hu => evCells_one hu) (by omega) (by omega) ?_
    rw [HN.out]
    clear hrd' hx3 hx1 hx2 hx4 hx5
    have hnc : ¬ c = l.length - 1 := by omega
    go_wp2_with (refine wpList_clear_here slEv zvEv oneEv rfl _ rfl g (off + (l.length - 1) * 5) (l.length - (l.length - 1)) _ (by omega) (by rfl) _ HR1.out (by rw [HS1.out]; omega) ?_; intro zs hz)
    go_ret
    refine ⟨_, rfl, ?_, ?_⟩
    · have hfin := del_cells (zs := zs) rfl hi H4.out (by rw [HCL.out]; omega) (by rw [hz]; omega)
      have hlen : (l.take i ++ l.drop (i + 1)).length = l.length - 1 := by simp; omega
      unfold EvO
      rw [hlen]
      refine ⟨by rw [evCells_length, hlen], .inr ⟨g, off, c, _, rfl, HF.out, over_row HR1.out _ _, by omega, h2', ?_, ?_⟩⟩
      · have hcs : cur1.toList.length = cur.size := (Array.length_toList (xs := cur1)).trans HS1.out
        rw [List.size_toArray, over_length (by rw [hz, hcs]; omega), hcs]; exact H3
      · rw [HC1.out]; exact hfin
    · exact ((((Fr.refl (fun k => k = g) w).drew).trans (over_fr (w := w.drew) cur (off + i * 5) (evCells (l.drop (i + 1)))) fun x h => .inl h).trans (over_fr cur1 (off + (l.length - 1) * 5) zs) fun x h => .inl h).mono fun x hx => by subst hx; exact HF.out
end Go.Proofs.Ytococphklfbidaa
