/- The scanner's inner functions: discard, end. Both tables must lie as laid. -/
import Derived.Test.YtdmfjmdnkfeljaaDoorFrmJ
import Derived.Test.YtdmfjmdnkfeljaaDoorFrmU
namespace Go.Proofs.YtdmfjmdnkfeljaaDoor
open Go.RowKit

abbrev scRow (i : Bool) (v : Value) (b : Nat) : Obj := .cells #[.bool i, v, .int .i64 (b : Int)] 78
theorem sc_cells {w : World} {sb : Nat} {i : Bool} {v : Value} {b : Nat} (h : w.heap[sb]? = some (scRow i v b)) : w.cell? ⟨sb, 0, none⟩ = some (.bool i) ∧ w.cell? ⟨sb, 1, none⟩ = some v ∧ w.cell? ⟨sb, 2, none⟩ = some (.int .i64 (b : Int)) ∧ (∀ j, w.frozen? ⟨sb, j, none⟩ = false) :=
  ⟨blk_cell (i := 0) h rfl, blk_cell (i := 1) h rfl, blk_cell (i := 2) h rfl, fun j => blk_free h j⟩
set_option maxHeartbeats 1000000 in
theorem discard_any (sb : Nat) (i : Bool) (v : Value) (b : Nat) (w : World) (h : w.heap[sb]? = some (scRow i v b)) (hb : b < 1000000) :
    Calls Tryd.prog 53 #[.pointer (some ⟨sb, 0, none⟩)] w fun e w' => e = .returned (.tuple #[]) ∧ w'.heap[sb]? = some (scRow false v (b + 1)) ∧ Fr (fun k => k = sb) w w' := by
  have H := Lib.hid h
  obtain ⟨c0, c1, c2, cf⟩ := sc_cells h
  have hlt := lt_of_block h
  clear h
  go_enter Tryd.func53, Tryd.ntmps53
  go_wp2_with fail
  go_end0
  refine ⟨rfl, ?_, by (repeat (first | (with_reducible exact Fr.refl _ _) | exact Or.inl rfl | (with_reducible refine Fr.setCell ?_ ?_ _) | (with_reducible refine Fr.drewN ?_ _) | (with_reducible refine Fr.drew ?_)))⟩
  rw [show (b : Int) + 1 = ((b + 1 : Nat) : Int) by omega]
  (apply row_trans; focus (repeat (first | (with_reducible exact H.out) | (with_reducible apply row_set) | (with_reducible apply row_drewN) | (with_reducible apply row_drew))))
  rfl
/-- what end does -/
def EndS (w : World) (sb : Nat) (v : Value) (ss : List Byte) (b : Nat) (e : Ending) (w' : World) : Prop :=
  ∃ (r : Pk) (f : Bool) (a : Option Addr) (c : Nat), e = .returned (.tuple #[.agg #[.int .u8 (U r.kind), .int .i64 r.cls, .int .i64 r.number, .int .i64 r.value, .slice a r.pay.length c], .bool f]) ∧ Nb w' w.heap.size (.slice a r.pay.length c) r.pay ∧ Fr (fun k => k = sb) w w' ∧
    ((f = true ∧ (decS ss).2.2 = 0 ∧ decP (decS ss).1 = (r, 0) ∧ w'.heap[sb]? = some (scRow false v b)) ∨ (f = false ∧ r = Pk.zero ∧ a = none ∧ c = 0 ∧ ¬ ((decS ss).2.2 = 0 ∧ (decP (decS ss).1).2 = 0) ∧ w'.heap[sb]? = some (scRow false v (b + 1))))
set_option maxRecDepth 100000 in
set_option maxHeartbeats 4000000 in
theorem end_any (sb : Nat) (v : Value) (ss : List Byte) (b : Nat) (w : World) (h : w.heap[sb]? = some (scRow true v b)) (hv : By w v ss) (ht : Tabs w) (hb : b < 1000000) (hs : ss.length ≤ 1000) :
    Calls Tryd.prog 52 #[.pointer (some ⟨sb, 0, none⟩)] w (EndS w sb v ss b) := by
  have H := Lib.hid h; have HV := Lib.hid hv; have HT := Lib.hid ht
  obtain ⟨c0, c1, c2, cf⟩ := sc_cells h
  have hlt := lt_of_block h
  obtain ⟨va, vc, rfl⟩ := hv.slice
  clear h hv ht
  go_enter Tryd.func52, Tryd.ntmps52
  go_wp2_with fail
  obtain ⟨w1, hw1⟩ : ∃ w1, w1 = w.alloc (.cells #[.int .u8 0, .int .i64 0, .int .i64 0, .int .i64 0, .slice none 0 0] 24) := ⟨_, rfl⟩
  rw [← hw1]
  have HQ1 := Lib.hid (show w1.heap[w.heap.size]? = some (.cells #[.int .u8 0, .int .i64 0, .int .i64 0, .int .i64 0, .slice none 0 0] 24) by rw [hw1]; exact heap_alloc_new w _)
  have HB1 := Lib.hid (show Below w.heap.size w w1 by rw [hw1]; exact below_alloc w _)
  clear hw1
  refine (dec_any _ ss w1 (HV.out.below HB1.out) (HT.out.below HB1.out).val (by omega)).mono ?_
  rintro e w2 ⟨v', rfl, hn, hb2⟩
  have HN2 := Lib.hid hn.by
  have HB2 := Lib.hid (HB1.out.trans (hb2.mono HB1.out.size))
  have HQ2 := Lib.hid ((hb2.block _ (lt_of_block HQ1.out)).trans HQ1.out)
  have HZ2 := Lib.hid (Nat.lt_of_lt_of_le (lt_of_block HQ1.out) hb2.size)
  have HSL := Lib.hid (show (decS ss).1.length ≤ 1000 by
    unfold decS
    split
    · simp
    · split
      · show (decB ss).length ≤ _; rw [decB_length]; omega
      · simp)
  clear hn hb2
  obtain ⟨r, hr⟩ : ∃ r, r = decS ss := ⟨_, rfl⟩
  rw [← hr] at HN2 HSL ⊢
  have HR := Lib.hid hr; clear hr
  obtain ⟨bs, n2, e2⟩ := r
  dsimp only at HN2 HSL ⊢
  obtain ⟨ba, bc, rfl⟩ := HN2.out.slice
  by_cases he : e2 = 0
  · subst he
    go_wp2_with fail
    refine (decF_any _ bs w2 HN2.out (HT.out.below HB2.out).tab (by have := HSL.out; omega)).mono ?_
    rintro e w3 ⟨ra, rc, rfl, hn3, hb3⟩
    have HN3 := Lib.hid hn3
    have HB3 := Lib.hid (HB2.out.trans (hb3.mono HB2.out.size))
    have HQ3 := Lib.hid ((hb3.block _ (lt_of_block HQ2.out)).trans HQ2.out)
    clear hn3 hb3
    obtain ⟨q, hq⟩ : ∃ q, q = decP bs := ⟨_, rfl⟩
    rw [← hq] at HN3 ⊢
    have HP := Lib.hid hq; clear hq
    obtain ⟨q, qf⟩ := q
    dsimp only at HN3 ⊢
    go_upto_region 4 with (fail)
    obtain ⟨w4, hw4⟩ : ∃ w4, w4 = w3.alloc (.cells #[.int .u8 (U q.kind), .int .i64 q.cls, .int .i64 q.number, .int .i64 q.value, .slice ra q.pay.length rc] 24) := ⟨_, rfl⟩
    rw [← hw4]
    have hb4 : Below w3.heap.size w3 w4 := by rw [hw4]; exact below_alloc w3 _
    have HY4 := Lib.hid (show w4.heap[w3.heap.size]? = some (.cells #[.int .u8 (U q.kind), .int .i64 q.cls, .int .i64 q.number, .int .i64 q.value, .slice ra q.pay.length rc] 24) by rw [hw4]; exact heap_alloc_new w3 _)
    have HN4 := Lib.hid (HN3.out.below hb4)
    have HB4 := Lib.hid (HB3.out.trans (hb4.mono HB3.out.size))
    have HQ4 := Lib.hid ((hb4.block _ (lt_of_block HQ3.out)).trans HQ3.out)
    have HS4 := Lib.hid ((HB4.out.block _ hlt).trans H.out)
    clear hw4 hb4 c0 c1 c2 cf
    obtain ⟨c0, c1, c2, cf⟩ := sc_cells HS4.out
    have hlt4 := lt_of_block HS4.out
    by_cases hf : qf = 0
    · subst hf
      have HFR := Lib.hid (show Fr (fun k => k = sb) w (w4.setCell ⟨sb, 0, none⟩ (.bool false)) from (Fr.of_below (Fr.refl (fun k => k = sb) w) HB4.out).setCell (p := ⟨sb, 0, none⟩) (.inl rfl) _)
      obtain ⟨w5, hw5⟩ : ∃ w5, w5 = w4.setCell ⟨sb, 0, none⟩ (.bool false) := ⟨_, rfl⟩
      rw [← hw5] at HFR
      have HS5 := Lib.hid (show w5.heap[sb]? = some (scRow false (.slice va ss.length vc) b) by rw [hw5]; (apply row_trans; focus (repeat (first | (with_reducible exact HS4.out) | (with_reducible apply row_set) | (with_reducible apply row_drewN) | (with_reducible apply row_drew)))); rfl)
      have hne1 : w.heap.size ≠ sb := by omega
      have HY5 := Lib.hid (show w5.heap[w3.heap.size]? = some (.cells #[.int .u8 (U q.kind), .int .i64 q.cls, .int .i64 q.number, .int .i64 q.value, .slice ra q.pay.length rc] 24) by rw [hw5]; exact (Below.heap_setCell _ _ _ _ (by show w3.heap.size ≠ sb; have := HB3.out.size; omega)).trans HY4.out)
      have HQ5 := Lib.hid (show w5.heap[w.heap.size]? = some (.cells #[.int .u8 0, .int .i64 0, .int .i64 0, .int .i64 0, .slice none 0 0] 24) by rw [hw5]; exact (Below.heap_setCell _ _ _ _ hne1).trans HQ4.out)
      have HN5 := Lib.hid (show Nb w5 w2.heap.size (.slice ra q.pay.length rc) q.pay by rw [hw5]; exact Sl.keep HN4.out fun k hk _ => Below.heap_setCell _ _ _ _ (by show k ≠ sb; have hk' : w2.heap.size ≤ k := hk; have := HZ2.out; omega))
      have HW5 := Lib.hid hw5
      clear hw5
      go_upto_region 6 with (fail)
      rw [← HW5.out]
      clear c0 c1 c2 cf
      obtain ⟨y0, y1, y2, y3, y4⟩ := pk_cells HY5.out
      obtain ⟨z0, z1, z2, z3, z4⟩ := pk_cells HQ5.out
      have zf := fun i => blk_free HQ5.out i
      have hzl := lt_of_block HQ5.out
      go_wp2_with fail
      obtain ⟨q0, q1, q2, q3, q4⟩ := pk_cells (sts5 HQ5.out (.int .u8 (U q.kind)) (.int .i64 q.cls) (.int .i64 q.number) (.int .i64 q.value) (.slice ra q.pay.length rc))
      exact bodyPost_ret (v := .tuple #[.agg #[.int .u8 (U q.kind), .int .i64 q.cls, .int .i64 q.number, .int .i64 q.value, .slice ra q.pay.length rc], .bool true]) (by simp [results, Tryd.results52, go_sem, q0, q1, q2, q3, q4]) rfl
        ⟨q, true, ra, rc, rfl, Nb.lower (B := w2.heap.size) (Sl.keep HN5.out fun k hk _ => sts5_other (by have hk' : w2.heap.size ≤ k := hk; have := HZ2.out; omega) _ _ _ _ _) HB2.out.size,
          HFR.out.trans (show Fr (fun k => k = w.heap.size) w5 ((((((w5).setCell ⟨w.heap.size, 0, none⟩ _).setCell ⟨w.heap.size, 1, none⟩ _).setCell ⟨w.heap.size, 2, none⟩ _).setCell ⟨w.heap.size, 3, none⟩ _).setCell ⟨w.heap.size, 4, none⟩ _) from by (repeat (first | (with_reducible exact Fr.refl _ _) | exact Or.inl rfl | (with_reducible refine Fr.setCell ?_ ?_ _) | (with_reducible refine Fr.drewN ?_ _) | (with_reducible refine Fr.drew ?_)))) (fun k hk => .inr (by omega)), .inl ⟨rfl, by rw [← HR.out], by rw [← HR.out]; exact HP.out.symm, (sts5_other (Ne.symm hne1) _ _ _ _ _).trans HS5.out⟩⟩
    · have hqf : (qf == 0) = false := by simpa using hf
      have HBAD := Lib.hid (show ¬ ((decS ss).2.2 = 0 ∧ (decP (decS ss).1).2 = 0) from fun hh => hf (by have := hh.2; rw [← HR.out] at this; dsimp only at this; rw [← HP.out] at this; exact this))
      clear hf
      go_upto_region 7 with (fail)
      go_wp2_with fail; (refine (discard_any sb true _ b w4 HS4.out hb).mono ?_); rintro e w8 ⟨rfl, hs8, hf8⟩; have hne1 : w.heap.size ≠ sb := (by omega); have HS8 := Lib.hid hs8; have HQ8 := Lib.hid (hf8.keep HQ4.out (by show ¬ _ = _; exact hne1)); have HF8 := Lib.hid ((Fr.of_below (Fr.refl (fun k => k = sb) w) HB4.out).trans hf8 fun k hk => .inl hk); clear hs8 hf8; obtain ⟨z0, z1, z2, z3, z4⟩ := pk_cells HQ8.out; have zf := fun i => blk_free HQ8.out i; have hzl := lt_of_block HQ8.out; go_wp2_with fail; obtain ⟨q0, q1, q2, q3, q4⟩ := pk_cells (sts5 HQ8.out (.int .u8 0) (.int .i64 0) (.int .i64 0) (.int .i64 0) (.slice none 0 0)); exact bodyPost_ret (v := .tuple #[.agg #[.int .u8 0, .int .i64 0, .int .i64 0, .int .i64 0, .slice none 0 0], .bool false]) (by simp [results, Tryd.results52, go_sem, q0, q1, q2, q3, q4]) rfl ⟨Pk.zero, false, none, 0, rfl, Nb.nil _ _, HF8.out.trans (show Fr (fun k => k = w.heap.size) w8 ((((((w8).setCell ⟨w.heap.size, 0, none⟩ _).setCell ⟨w.heap.size, 1, none⟩ _).setCell ⟨w.heap.size, 2, none⟩ _).setCell ⟨w.heap.size, 3, none⟩ _).setCell ⟨w.heap.size, 4, none⟩ _) from by (repeat (first | (with_reducible exact Fr.refl _ _) | exact Or.inl rfl | (with_reducible refine Fr.setCell ?_ ?_ _) | (with_reducible refine Fr.drewN ?_ _) | (with_reducible refine Fr.drew ?_)))) (fun k hk => .inr (by have hk' : k = w.heap.size := hk; omega)), .inr ⟨rfl, rfl, rfl, rfl, HBAD.out, (sts5_other (Ne.symm hne1) _ _ _ _ _).trans HS8.out⟩⟩
  · have hqf : (e2 == 0) = false := by simpa using he
    have HBAD := Lib.hid (show ¬ ((decS ss).2.2 = 0 ∧ (decP (decS ss).1).2 = 0) from fun hh => he (by have := hh.1; rw [← HR.out] at this; exact this))
    clear he
    have HS2 := Lib.hid ((HB2.out.block _ hlt).trans H.out)
    go_upto_region 7 with (fail)
    go_wp2_with fail; (refine (discard_any sb true _ b w2 HS2.out hb).mono ?_); rintro e w8 ⟨rfl, hs8, hf8⟩; have hne1 : w.heap.size ≠ sb := (by omega); have HS8 := Lib.hid hs8; have HQ8 := Lib.hid (hf8.keep HQ2.out (by show ¬ _ = _; exact hne1)); have HF8 := Lib.hid ((Fr.of_below (Fr.refl (fun k => k = sb) w) HB2.out).trans hf8 fun k hk => .inl hk); clear hs8 hf8; obtain ⟨z0, z1, z2, z3, z4⟩ := pk_cells HQ8.out; have zf := fun i => blk_free HQ8.out i; have hzl := lt_of_block HQ8.out; go_wp2_with fail; obtain ⟨q0, q1, q2, q3, q4⟩ := pk_cells (sts5 HQ8.out (.int .u8 0) (.int .i64 0) (.int .i64 0) (.int .i64 0) (.slice none 0 0)); exact bodyPost_ret (v := .tuple #[.agg #[.int .u8 0, .int .i64 0, .int .i64 0, .int .i64 0, .slice none 0 0], .bool false]) (by simp [results, Tryd.results52, go_sem, q0, q1, q2, q3, q4]) rfl ⟨Pk.zero, false, none, 0, rfl, Nb.nil _ _, HF8.out.trans (show Fr (fun k => k = w.heap.size) w8 ((((((w8).setCell ⟨w.heap.size, 0, none⟩ _).setCell ⟨w.heap.size, 1, none⟩ _).setCell ⟨w.heap.size, 2, none⟩ _).setCell ⟨w.heap.size, 3, none⟩ _).setCell ⟨w.heap.size, 4, none⟩ _) from by (repeat (first | (with_reducible exact Fr.refl _ _) | exact Or.inl rfl | (with_reducible refine Fr.setCell ?_ ?_ _) | (with_reducible refine Fr.drewN ?_ _) | (with_reducible refine Fr.drew ?_)))) (fun k hk => .inr (by have hk' : k = w.heap.size := hk; omega)), .inr ⟨rfl, rfl, rfl, rfl, HBAD.out, (sts5_other (Ne.symm hne1) _ _ _ _ _).trans HS8.out⟩⟩
end Go.Proofs.YtdmfjmdnkfeljaaDoor
