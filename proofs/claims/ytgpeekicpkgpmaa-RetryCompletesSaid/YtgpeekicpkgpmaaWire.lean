/- The wire of the statements about retry: a queue with a delay. -/
import Derived.Test.YtgpeekicpkgpmaaRetP
import Derived.Test.YtgpeekicpkgpmaaSeqG
import Derived.Test.YtgpeekicpkgpmaaPlayL
namespace Go.Proofs.Ytgpeekicpkgpmaa
open Go.RowKit

def eItem : El ItemD where
  size := 2
  rd _ _ cs x := cs = [.int .i64 x.n, .string (str8 x.data)]
  len h := by rw [h]; rfl
  keep h _ := h
  mono h _ := h
  one h u hu := by
    subst h
    rcases List.mem_cons.1 hu with rfl | hu
    · rfl
    · obtain rfl : u = _ := List.mem_singleton.1 hu
      rfl
theorem slI : SlT Try.prog 73 75 (.agg #[.int .i64 0, .string ByteArray.empty]) 2 24 := ⟨Try.underlying73, info_parts (by kernel_rfl), rfl, by decide⟩
theorem slW : SlT Try.prog 70 73 (.slice none 0 0) 1 24 := ⟨Try.underlying70, info_parts (by kernel_rfl), rfl, by decide⟩
abbrev Slots := SeqG (eSl eItem) 73
/-- a wire at block p -/
def WireO (w : World) (F : Nat → Prop) (p : Nat) (s : List (List ItemD)) : Prop := F p ∧ ∃ sv, w.heap[p]? = some (.cells #[sv] 72 (0, 0)) ∧ Slots w (fun k => F k ∧ k ≠ p) sv s
theorem WireO.thing (p : Nat) (s : List (List ItemD)) : Thing (fun w F => WireO w F p s) where
  keep := fun ⟨h, kv, h1, h2⟩ hs hk => ⟨⟨h, lt_of_block h1⟩, kv, (hk _ h (lt_of_block h1)).trans h1, (h2.keep hs fun k hF hl => hk k hF.1 hl).mono fun _ h => ⟨⟨h.1.1, h.2⟩, h.1.2⟩⟩
  mono := fun ⟨h, kv, h1, h2⟩ hG => ⟨hG _ h, kv, h1, h2.mono fun _ h => ⟨hG _ h.1, h.2⟩⟩
theorem carryM_short {s : List (List ItemD)} {delay times : Nat} {x y : List ItemD} (hy : y = (List.replicate times x).flatten) (h : s.length + 1 ≤ delay) : carryM s delay x times = ([], s ++ [y]) := by
  unfold carryM; rw [← hy, if_pos (by simp; exact h)]
theorem carryM_long {s : List (List ItemD)} {delay times : Nat} {x y : List ItemD} (hy : y = (List.replicate times x).flatten) (h : ¬ s.length + 1 ≤ delay) : carryM s delay x times = ((s ++ [y]).headD [], (s ++ [y]).drop 1) := by
  unfold carryM; rw [← hy, if_neg (by simp; omega)]
theorem rep_succ {α : Type} (n : Nat) (x : List α) : (List.replicate (n + 1) x).flatten = (List.replicate n x).flatten ++ x := by
  rw [List.replicate_succ', List.flatten_append]; simp
theorem items_free {w w' : World} {D D' : Nat → Prop} : ∀ {us : List Value} {xs : List ItemD}, Els eItem w D us xs → Els eItem w' D' us xs
  | _, [], h => h
  | _, _ :: _, ⟨cs, rest, e, h1, h2⟩ => ⟨cs, rest, e, h1, items_free h2⟩
theorem own_ge {w : World} {base : Nat} {e : TypeId} {s : Nat} {v : Value} {n : Nat} {us : List Value} (h : w.ownsRow base e s v n us) {k : Nat} (hk : v.ownBlock = some k) : base ≤ k ∧ k < w.heap.size := by
  obtain ⟨_, ⟨rfl, _⟩ | ⟨g, cap, cur, rfl, hg, hr, _⟩⟩ := h
  · cases hk
  · obtain rfl : g = k := by simpa [Value.ownBlock] using hk
    exact ⟨hg, lt_of_block hr⟩
theorem own_shape {w : World} {base : Nat} {e : TypeId} {s : Nat} {v : Value} {n : Nat} {us : List Value} (h : w.ownsRow base e s v n us) : ∃ a cap, v = .slice a n cap := by
  obtain ⟨_, ⟨rfl, rfl⟩ | ⟨g, cap, cur, rfl, _⟩⟩ := h
  · exact ⟨none, 0, rfl⟩
  · exact ⟨_, cap, rfl⟩
/-- the wire behind the append, before the cut -/
theorem wire_done {w wr w2 : World} {F K D : Nat → Prop} {p : Nat} {s : List (List ItemD)} {us cs : List Value} {u u2 : Value} {y : List ItemD} {o : Obj} (hF : F p) (hKD : ∀ k, K k ∨ D k → (F k ∧ k ≠ p) ∧ k < w.heap.size) (hdj : Dj K D) (hels : Els (eSl eItem) w D us s)
    (hb : Below w.heap.size w wr) (hown : wr.ownsRow w.heap.size 75 2 u y.length cs) (hcs : Els eItem wr (fun _ => True) cs y)
    (hsl : Sl w2 (fun k => K k ∨ (wr.alloc o).heap.size ≤ k) 73 1 u2 (s.length + 1) (us ++ [u])) (hf : Fr K (wr.alloc o) w2) (hp : p < w.heap.size) :
    Slots (w2.setCell ⟨p, 0, none⟩ u2) (fun k => (F k ∨ w.heap.size ≤ k) ∧ k ≠ p) u2 (s ++ [y]) ∧ Fr F w (w2.setCell ⟨p, 0, none⟩ u2) := by
  have hz := hb.size
  have hza : (wr.alloc o).heap.size = wr.heap.size + 1 := by simp
  have hz2 := hf.size
  have hFK : Fr K w w2 := ⟨hf.os.trans hb.os, hf.tape.trans hb.tape, hf.output.trans hb.output, by omega, fun k hl hn => (hf.block k (by omega) hn).trans ((Below.heap_alloc wr o k (by omega)).trans (hb.block k hl))⟩
  have hnew : Els (eSl eItem) w2 (fun k => w.heap.size ≤ k ∧ k < (wr.alloc o).heap.size) [u] [y] := by
    refine Els.single ⟨u, rfl, cs, ?_, items_free hcs, fun b hb => ⟨(own_ge hown hb).1, by have := (own_ge hown hb).2; omega⟩⟩
    exact (Rd.of_own hown).keep fun k hk hl => (hf.block k (by omega) fun h => by have := (hKD k (.inl h)).2; have := (own_ge hown hk).1; omega).trans (Below.heap_alloc wr o k hl)
  have h := SeqG.snoc (E := eSl eItem) (F := fun k => F k ∧ k ≠ p) (w1 := wr.alloc o) (ys := [y]) hKD hdj hels (by omega) hnew hsl hFK hz2
  refine ⟨(h.keep (w' := w2.setCell ⟨p, 0, none⟩ u2) (by simp) fun k hk _ => heap_setCell_other w2 _ k _ (show k ≠ p by rcases hk with h | h; exact h.2; omega)).mono fun k hk => ?_, (hFK.mono fun k hk => (hKD k (.inl hk)).1.1).setCell (.inl hF) _⟩
  rcases hk.1 with h | h
  · exact ⟨.inl h.1, h.2⟩
  · exact ⟨.inr h, by omega⟩
theorem wire_head {w2 : World} {G : Nat → Prop} {p g2 off2 n c : Nat} {u2 : Value} {s : List (List ItemD)} {y : List ItemD} (h : Slots (w2.setCell ⟨p, 0, none⟩ u2) (fun k => G k ∧ k ≠ p) (.slice (some ⟨g2, off2, none⟩) n c) (s ++ [y])) :
    ∃ ha hn hc, w2.cell? ⟨g2, off2, none⟩ = some (.slice ha hn hc) ∧ RdG eItem (w2.setCell ⟨p, 0, none⟩ u2) (fun k => G k ∧ k ≠ p) (.slice ha hn hc) ((s ++ [y]).headD []) ∧ g2 ≠ p := by
  have hi : (s ++ [y])[0]? = some ((s ++ [y]).headD []) := by cases s <;> simp
  obtain ⟨hb, hoff, hcs, hq1, hq2, ⟨hv, rfl, hr⟩, hq4⟩ := h.rd.at (by decide) hi
  obtain ⟨rfl, rfl⟩ : g2 = hb ∧ off2 = hoff := by simpa using hq1
  have hq5 := hq4 0 _ rfl
  obtain ⟨a, c', rfl, _⟩ := hr.shape
  have e : off2 + 0 * (eSl eItem).size + 0 = off2 := by simp
  rw [e] at hq5
  exact ⟨_, _, _, (World.cell?_of_block (a := ⟨g2, off2, none⟩) (heap_setCell_other w2 _ g2 _ hq2.2)).symm.trans hq5, hr, hq2.2⟩
theorem wire_cut {w3 : World} {G : Nat → Prop} {p g2 off2 c : Nat} {z : Value} {s : List (List ItemD)} {y : List ItemD} (h : Slots w3 (fun k => G k ∧ k ≠ p) (.slice (some ⟨g2, off2, none⟩) (s.length + 1) c) (s ++ [y])) :
    Slots (w3.setCell ⟨p, 0, none⟩ z) (fun k => G k ∧ k ≠ p) (.slice (if c = 1 then some ⟨g2, off2, none⟩ else some ⟨g2, off2 + 1, none⟩) s.length (c - 1)) ((s ++ [y]).drop 1) := by
  obtain ⟨g, off, e, _, _, hd⟩ := h.drop (k := 1) (by decide) (by simp)
  obtain ⟨rfl, rfl⟩ : g2 = g ∧ off2 = off := by simpa using e
  have hl : (s ++ [y]).length - 1 = s.length := by simp
  rw [hl] at hd
  exact (hd.keep (w' := w3.setCell ⟨p, 0, none⟩ z) (by simp) fun k hk _ => heap_setCell_other w3 _ k _ hk.2).mono fun k h => h.1
set_option maxHeartbeats 4000000 in
theorem carry_any (F : Nat → Prop) (p : Nat) (s : List (List ItemD)) (delay times : Nat) (v : Value) (x : List ItemD) (Dx : Nat → Prop) (w : World) (hw : WireO w F p s) (hx : RdG eItem w Dx v x) (hl : s.length ≤ 10000) (hxl : x.length ≤ 10) (ht : times ≤ 2) (_ : delay ≤ 1000) :
    Calls Try.prog 35 #[.pointer (some ⟨p, 0, none⟩), .int .i64 (delay : Int), v, .int .i64 (times : Int)] w fun e w' => ∃ v', e = .returned v' ∧ RdG eItem w' (fun k => F k ∨ w.heap.size ≤ k) v' (carryM s delay x times).1 ∧ WireO w' (fun k => F k ∨ w.heap.size ≤ k) p (carryM s delay x times).2 ∧ Fr F w w' := by
  obtain ⟨hFp, sv, hrow, K, D, us, hKD, hdj, hsl, hels⟩ := hw
  have hpK : ¬ K p := fun h => (hKD p (.inl h)).1.2 rfl
  obtain ⟨a, cap, rfl, _⟩ := hx.shape
  obtain ⟨xu, hxr, hxe, _⟩ := hx
  obtain ⟨ka, kcap, rfl⟩ := hsl.shape
  have hlt := lt_of_block hrow
  have HSL := Lib.hid hsl; have HELS := Lib.hid hels; have HKD := Lib.hid hKD; have HDJ := Lib.hid hdj; have HROW := Lib.hid hrow; have HXR := Lib.hid hxr; have HXE := Lib.hid hxe
  have HF := Lib.hid hFp
  clear hsl hels hKD hdj hrow hxr hxe hFp
  go_enter Try.func35, Try.ntmps35
  go_wp2_with fail
  go_loopw [9, 12] (fun u i wr => ∃ j : Nat, j ≤ times ∧ i = .int .i64 j ∧ Hid (∃ cs, wr.ownsRow w.heap.size 75 2 u ((List.replicate j x).flatten).length cs ∧ Els eItem wr (fun _ => True) cs ((List.replicate j x).flatten)) ∧ Hid (Below w.heap.size w wr)) (fun _ i _ => times - (intOf i).toNat)
  case atStart => exact ⟨0, by omega, rfl, Lib.hid ⟨[], World.ownsRow_nil _ _ _ _, rfl⟩, Lib.hid (Below.refl _ _)⟩
  case round =>
    obtain ⟨j, hj, rfl, HO, HB⟩ := hrel
    obtain ⟨cs, hown, hels⟩ := HO.out
    have hlen : ((List.replicate j x).flatten).length ≤ 20 := by simp; exact Nat.le_trans (Nat.mul_le_mul (show j ≤ 2 by omega) hxl) (by decide)
    have hz := HB.out.size
    have HOWN := Lib.hid hown; have HE := Lib.hid hels
    clear hown hels HO
    by_cases hlt2 : j < times
    · have HXR' := Lib.hid (HXR.out.below HB.out)
      go_wp2_with (at_builtin; refine wpList_app slI rfl _ _ rfl w.heap.size _ _ cs rfl HOWN.out _ x.length xu rfl HXR'.out HXE.out.one (by unfold maxLen; omega) (by omega) hz ?_; intro v2 w2 hown2 hg2 hiff; clear hiff; have HOWN2 := Lib.hid hown2; have HG2 := Lib.hid hg2; clear hown2 hg2)
      have HO2 : Hid (∃ cs, w2.ownsRow w.heap.size 75 2 v2 ((List.replicate (j + 1) x).flatten).length cs ∧ Els eItem w2 (fun _ => True) cs ((List.replicate (j + 1) x).flatten)) :=
        Lib.hid ⟨cs ++ xu, by rw [rep_succ, List.length_append]; exact HOWN2.out, by rw [rep_succ]; exact Els.append (items_free HE.out) (items_free HXE.out)⟩
      have HB2 := Lib.hid (HB.out.grown HG2.out hz fun k hk => (own_ge HOWN.out hk).1)
      go_roundw
      case rel => exact ⟨j + 1, by omega, by go_num, HO2, HB2⟩
      case measure => simp [intOf]; omega
    · obtain rfl : times = j := by omega
      obtain ⟨y, hy⟩ : ∃ y, y = (List.replicate times x).flatten := ⟨_, rfl⟩
      rw [← hy] at HOWN HE hlen
      have HY := Lib.hid hy; clear hy
      obtain ⟨ua, uc, rfl⟩ := own_shape HOWN.out
      have c0 := cell_later HB.out (blk_cell (i := 0) HROW.out rfl)
      have HROWr := Lib.hid ((HB.out.block p hlt).trans HROW.out)
      have f0 := blk_free HROWr.out 0
      have hltr := lt_of_block HROWr.out
      have HSLr := Lib.hid (show Sl wr K _ 1 _ _ _ from HSL.out.keep fun k hk hl => HB.out.block k hl)
      have hpw : ¬ p = wr.heap.size := by omega
      by_cases hdl : s.length + 1 ≤ delay
      · have HC := Lib.hid (carryM_short HY.out hdl)
        go_wp2_with (at_builtin; refine wpList_apps slW rfl _ _ rfl K _ s.length us rfl (HSLr.out.alloc _) _ 1 [.slice ua y.length uc] rfl (rd_one _ _ _ _ rfl) (by intro u hu; simp at hu; subst hu; rfl) (by unfold maxLen; omega) (by omega) ?_; intro v2 w2 hsl2 hf2; obtain ⟨g2, off2, cap2, rfl, _, hc2⟩ := Sl.head hsl2 (by omega); have HDN := Lib.hid (wire_done HF.out HKD.out HDJ.out HELS.out HB.out HOWN.out HE.out hsl2 hf2 hlt); have HSL2 := Lib.hid hsl2; have HROW2 := Lib.hid (hf2.keep ((Below.heap_alloc _ _ p hltr).trans HROWr.out) hpK); have f0' := blk_free HROW2.out 0; have c0' := blk_cell (i := 0) HROW2.out rfl; clear hsl2 hf2)
        go_ret
        refine ⟨.slice none 0 0, rfl, by rw [HC.out]; exact RdG.nil _ _ _, ?_, HDN.out.2⟩
        rw [HC.out]
        refine ⟨.inl HF.out, _, ?_, HDN.out.1⟩
        have := HROW2.out
        (apply row_trans; focus (repeat (first | (with_reducible exact this) | (with_reducible apply row_set) | (with_reducible apply row_drewN) | (with_reducible apply row_drew))))
        rfl
      · have HC := Lib.hid (carryM_long HY.out hdl)
        go_wp2_with (at_builtin; refine wpList_apps slW rfl _ _ rfl K _ s.length us rfl (HSLr.out.alloc _) _ 1 [.slice ua y.length uc] rfl (rd_one _ _ _ _ rfl) (by intro u hu; simp at hu; subst hu; rfl) (by unfold maxLen; omega) (by omega) ?_; intro v2 w2 hsl2 hf2; obtain ⟨g2, off2, cap2, rfl, _, hc2⟩ := Sl.head hsl2 (by omega); have HDN := Lib.hid (wire_done HF.out HKD.out HDJ.out HELS.out HB.out HOWN.out HE.out hsl2 hf2 hlt); have HSL2 := Lib.hid hsl2; have HROW2 := Lib.hid (hf2.keep ((Below.heap_alloc _ _ p hltr).trans HROWr.out) hpK); have f0' := blk_free HROW2.out 0; have c0' := blk_cell (i := 0) HROW2.out rfl; obtain ⟨ha, hn, hc, hq5, hrdg, hgp⟩ := wire_head HDN.out.1; have HRDG := Lib.hid hrdg; have hltg := World.block_lt_of_cell? _ _ hq5; clear hrdg; clear hsl2 hf2)
        all_goals have HCUT := Lib.hid (fun z => wire_cut (z := z) HDN.out.1)
        all_goals go_ret
        all_goals by_cases hc1 : cap2 = 1
        all_goals try contradiction
        all_goals first | (subst hc1; simp only [if_true, Nat.sub_self] at HCUT) | simp only [if_neg hc1] at HCUT
        all_goals refine ⟨_, rfl, by rw [HC.out]; exact (HRDG.out.keep fun k hk _ => heap_setCell_other _ ⟨p, 0, none⟩ k _ hk.2).mono fun k h => h.1, ?_, Fr.setCell (p := ⟨p, 0, none⟩) HDN.out.2 (.inl HF.out) _⟩
        all_goals rw [HC.out]
        all_goals refine ⟨.inl HF.out, _, ?_, HCUT.out _⟩
        all_goals have h' := HROW2.out
        all_goals (apply row_trans; focus (repeat (first | (with_reducible exact h') | (with_reducible apply row_set) | (with_reducible apply row_drewN) | (with_reducible apply row_drew))))
        all_goals simp_all
end Go.Proofs.Ytgpeekicpkgpmaa
