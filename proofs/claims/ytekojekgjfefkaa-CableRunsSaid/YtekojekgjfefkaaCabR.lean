/- The reference's Send where the transmission flies. -/
import Derived.Test.YtekojekgjfefkaaCabZ
namespace Go.Proofs.Ytekojekgjfefkaa
open Go.RowKit

theorem sl_empty2 (w : World) (T : TypeId) : Sl (w.alloc (.cells #[] T)) (fun k => w.heap.size ≤ k) T 2 (.slice (some ⟨w.heap.size, 0, none⟩) 0 0) 0 [] := ⟨by simp, .inr ⟨_, 0, 0, #[], rfl, Nat.le_refl _, heap_alloc_new w _, Nat.le_refl _, by decide, by simp, by simp⟩⟩
theorem slFlB {w : World} (x y : Nat) (va : Option Addr) (n vc g : Nat) (hg : g = w.heap.size) : Rd (w.alloc (.cells #[.int .i64 ((x : Int) + (y : Int)), .slice va n vc] 71)) 2 (.slice (some ⟨g, 0, none⟩) 1 1) 1 [.int .i64 ((x : Int) + (y : Int)), .slice va n vc] := slFlA (x + y) va n vc g hg
def RSendPost (w : World) (F Z : BS) (r : Cab) (fv : Value) (e : Ending) (w' : World) : Prop := ∃ (va : Option Addr) (vc : Nat),
  e = .returned (.tuple #[refV r fv (.slice va r.flying.length vc), .int .i64 0]) ∧ Did w F Z [tSq eTr 71 (.slice va r.flying.length vc) r.flying] w'
set_option maxHeartbeats 16000000 in
set_option maxRecDepth 100000 in
theorem refSend_fly (w : World) (F Z : BS) (hd : Dj F Z) (c : Cab) (fa : Option Addr) (fc : Nat) (la : Option Addr) (lc : Nat) (a : Option Addr) (n cap : Nat) (d : Byt) (hv : ByZ w Z (.slice a n cap) d) (hdl : d.length ≤ 1000) (hlist : Sq eTr 71 w F Z (.slice la c.flying.length lc) c.flying)
    (hf : RdS eFlt w Z (.slice fa c.faults.length fc) c.faults) (hfl : c.faults.length ≤ 1000000) (hse : c.sent < 1000000000) (hti : c.ticks < 1000000000) (hde : c.delay ≤ 1000)
    (hk : c.up = true ∧ c.fault.kind ≠ 1) (harg : 0 ≤ c.fault.arg) (hfl64 : c.flying.length + c.copies ≤ 64) :
    Calls Try.prog 21 #[refV c (.slice fa c.faults.length fc) (.slice la c.flying.length lc), .slice a n cap] w (RSendPost w F Z (c.send d).2 (.slice fa c.faults.length fc)) := by
  have HF := Lib.hid hf
  have HV := Lib.hid hv
  have hsend : (c.send d).2 = { c with sent := c.sent + 1, flying := c.flying ++ List.replicate c.copies (c.ticks + c.delay, c.what d) } := by
    unfold Cab.send
    rw [if_neg (by rintro (h | h); rw [hk.1] at h; cases h; exact hk.2 h), if_neg (by omega)]
  have HSE := Lib.hid hsend
  clear hf hv hsend
  obtain ⟨u, hu⟩ : ∃ u, u = c.up := ⟨_, rfl⟩
  obtain ⟨f, hff⟩ : ∃ f, f = c.fault := ⟨_, rfl⟩
  rw [← hu, ← hff] at hk
  rw [← hff] at harg
  obtain ⟨rfl, hk1⟩ := hk
  have HFF : Hid (faultOf c.faults (c.sent : Int) = f) := Lib.hid hff.symm
  have HU := Lib.hid hu
  have HFQ := Lib.hid hff
  clear hu hff
  have hh := ((Held.start1 (T := tSq eTr 71 (.slice la c.flying.length lc) c.flying) hlist hd).addOld (T := tBy (.slice a n cap) d) (ByZ.mono HV.out fun k h => ⟨h, fun f => hd k f h⟩)).new (.cells #[.int .i64 (c.delay : Int), .slice fa c.faults.length fc, .bool false, .int .i64 (c.sent : Int), .int .i64 (c.ticks : Int), .slice la c.flying.length lc, .int .i64 (c.lost : Int)] 47)
  have hh2 := hh.new (.cells #[.int .i64 0, .slice none 0 0, .bool false, .int .i64 0, .int .i64 0, .slice none 0 0, .int .i64 0] 47)
  rw [heap_size_alloc] at hh2
  have H2 := Lib.hid hh2
  clear hh hh2
  unfold refV
  rw [← HU.out]
  simp only [Bool.not_true]
  go_enter Try.func21, Try.ntmps21
  go_wp2_with fail
  refine (refFault_any _ Z _ _ (HF.out.below (by (repeat (first | (with_reducible exact Below.refl _ _) | (with_reducible refine Bw.alloc ?_ _) | (with_reducible refine Bw.drewN ?_ _) | (with_reducible refine Bw.drew ?_))))) hfl _).mono ?_
  rintro e w1 ⟨rfl, hb⟩
  rw [HFF.out]
  have H3 := Lib.hid (H2.out.own hb)
  clear hb
  have H4 := Lib.hid (H3.out.new (.cells #[.int .i64 f.at', .int .i64 f.kind, .int .i64 f.arg] 39))
  have hrow := H4.out.blk 2 rfl
  have hrow2 := H4.out.blk 3 rfl
  have hrow3 := H4.out.blk 4 rfl
  have m1 := blk_cell (i := 1) hrow3 rfl
  have m2 := blk_cell (i := 2) hrow3 rfl
  have hs1 : w.heap.size + 1 < w1.heap.size := lt_of_block (H3.out.blk 3 rfl)
  have k0 := blk_cell (i := 0) hrow rfl
  have q0 := blk_cell (i := 0) hrow2 rfl
  have k1 := blk_cell (i := 1) hrow rfl
  have q1 := blk_cell (i := 1) hrow2 rfl
  have k2 := blk_cell (i := 2) hrow rfl
  have q2 := blk_cell (i := 2) hrow2 rfl
  have k3 := blk_cell (i := 3) hrow rfl
  have q3 := blk_cell (i := 3) hrow2 rfl
  have k4 := blk_cell (i := 4) hrow rfl
  have q4 := blk_cell (i := 4) hrow2 rfl
  have k5 := blk_cell (i := 5) hrow rfl
  have q5 := blk_cell (i := 5) hrow2 rfl
  have k6 := blk_cell (i := 6) hrow rfl
  have q6 := blk_cell (i := 6) hrow2 rfl
  have kf := fun i => blk_free hrow i
  have qf := fun i => blk_free hrow2 i
  have hs0 := lt_of_block hrow2
  clear hrow hrow2 hrow3
  have e1 : (f.kind == 1) = false := by simpa using hk1
  have hkk : f.kind = 2 ∨ f.kind = 3 ∨ (f.kind ≠ 2 ∧ f.kind ≠ 3) := by omega
  rcases hkk with h2 | h3 | ⟨h2, h3⟩
  case' inl =>
    have s2 : (f.kind == 2) = true := by simpa using h2
    have s3 : (f.kind == 3) = false := by rw [h2]; rfl
    have HC : Hid (c.copies = 1) := Lib.hid (by unfold Cab.copies; rw [← HFQ.out, h2]; rfl)
    have HWH : Hid (c.what d = flipB d f.arg) := Lib.hid (by unfold Cab.what; rw [← HFQ.out, h2]; rfl)
  case' inr.inl =>
    have s2 : (f.kind == 2) = false := by rw [h3]; rfl
    have s3 : (f.kind == 3) = true := by simpa using h3
    have HC : Hid (c.copies = 2) := Lib.hid (by unfold Cab.copies; rw [← HFQ.out, h3]; rfl)
    have HWH : Hid (c.what d = d) := Lib.hid (by unfold Cab.what; rw [← HFQ.out, h3]; rfl)
  case' inr.inr =>
    have s2 : (f.kind == 2) = false := by simpa using h2
    have s3 : (f.kind == 3) = false := by simpa using h3
    have HC : Hid (c.copies = 1) := Lib.hid (by unfold Cab.copies; rw [← HFQ.out, if_neg h3])
    have HWH : Hid (c.what d = d) := Lib.hid (by unfold Cab.what; rw [← HFQ.out, if_neg h2])
  all_goals
    first | clear h2 | skip
    first | clear h3 | skip
    rw [HC.out] at hfl64
    have hlen : c.flying.length ≤ 64 := by omega
    go_upto_region 12 with (fail)
    have HROW1 := Lib.hid (H4.out.blk 2 rfl)
    have h5 := H4.out.set 2 rfl (.cells #[.int .i64 (c.delay : Int), .slice fa c.faults.length fc, .bool false, .int .i64 ((c.sent : Int) + 1), .int .i64 (c.ticks : Int), .slice la c.flying.length lc, .int .i64 (c.lost : Int)] 47 (0, 0)) (w' := (w1.alloc (.cells #[.int .i64 f.at', .int .i64 f.kind, .int .i64 f.arg] 39)).setCell ⟨w.heap.size, 3, none⟩ (.int .i64 ((c.sent : Int) + 1))) (by (repeat (first | (with_reducible exact Fr.refl _ _) | exact Or.inl rfl | (with_reducible refine Fr.setCell ?_ ?_ _) | (with_reducible refine Fr.drewN ?_ _) | (with_reducible refine Fr.drew ?_)))) (by (apply row_trans; focus (repeat (first | (with_reducible exact HROW1.out) | (with_reducible apply row_set) | (with_reducible apply row_drewN) | (with_reducible apply row_drew)))); rfl)
    obtain ⟨w2, hw2⟩ : ∃ w2, w2 = (w1.alloc (.cells #[.int .i64 f.at', .int .i64 f.kind, .int .i64 f.arg] 39)).setCell ⟨w.heap.size, 3, none⟩ (.int .i64 ((c.sent : Int) + 1)) := ⟨_, rfl⟩
    rw [← hw2] at h5 ⊢
    have H5 := Lib.hid h5
    clear hw2 h5 HROW1 k0 k1 k2 k3 k4 k5 k6 q0 q1 q2 q3 q4 q5 q6 kf qf m1 m2 hs0 hs1 H4 H3 H2
    have hrow := H5.out.blk 2 rfl
    have k0 := blk_cell (i := 0) hrow rfl
    have k4 := blk_cell (i := 4) hrow rfl
    have k5 := blk_cell (i := 5) hrow rfl
    have hs2 := lt_of_block hrow
    have hrow3 := H5.out.blk 4 rfl
    have m1 := blk_cell (i := 1) hrow3 rfl
    have m2 := blk_cell (i := 2) hrow3 rfl
    have hs3 := lt_of_block hrow3
    clear hrow hrow3
    obtain ⟨G0, Y0, hby0⟩ := H5.out.get 1 rfl
    have HBY := Lib.hid (show By w2 (.slice a n cap) d from (show ByZ w2 Y0 (.slice a n cap) d from hby0).1)
    clear hby0
    have hn : n = d.length := by obtain ⟨_, _, e⟩ := HBY.out.slice; simpa using (congrArg (fun v => match v with | Value.slice _ n _ => n | _ => 0) e)
    have HN := Lib.hid hn
    clear hn
    go_upto_region 15 with (first
      | (at_builtin; refine wpList_app slU8 rfl _ _ rfl w2.heap.size _ 0 [] rfl (World.ownsRow_made _ _ 0 (Nat.le_refl _) (Nat.zero_le _) rfl) _ d.length (cu d) rfl (By.alloc HBY.out _) cu_one (by unfold maxLen; omega) (by omega) (by simp) ?_; intro v3 w3 hown3 hg3 _; have HB3 := Lib.hid (((Below.refl w2.heap.size w2).alloc (Nat.le_refl _) _).grown hg3 (by simp) (fun k e => by cases e; exact Nat.le_refl _)); have hO3 := (show Ow 5 w3 w2.heap.size v3 d by simpa [Ow] using hown3); obtain ⟨ya, yc, rfl⟩ := hO3.by.slice; have HO3 := Lib.hid hO3; have m1' := cell_later HB3.out m1; have m2' := cell_later HB3.out m2; have k5' := cell_later HB3.out k5; clear hown3 hg3 hO3)
      | (go_at_call 31; refine (refFlip_any w3 (.slice a n cap) d (HBY.out.below (HB3.out.mono (Nat.le_refl _))) hdl f.arg harg).mono ?_; rintro e w4 ⟨ya4, yc4, rfl, hb4, ho4⟩; have HB := Lib.hid (HB3.out.trans (hb4.mono HB3.out.size)); have HO := Lib.hid (show Ow 5 w4 w2.heap.size (.slice ya4 (c.what d).length yc4) (c.what d) by rw [HWH.out, flipB_length]; exact ho4.lower HB3.out.size); have HLW := Lib.hid (show (c.what d).length = d.length by rw [HWH.out, flipB_length]); clear hb4 ho4))
  all_goals first
    | (have tok := HB; clear tok; clear HB3 HO3 m1' m2' k5')
    | (have HB := HB3; have HO := Lib.hid (show Ow 5 w3 w2.heap.size (.slice ya (c.what d).length yc) (c.what d) by rw [HWH.out]; exact HO3.out); have HLW := Lib.hid (show (c.what d).length = d.length by rw [HWH.out]); clear HB3 HO3 m1' m2' k5'; obtain ⟨w4, rfl⟩ : ∃ w4, w4 = w3 := ⟨_, rfl⟩; obtain ⟨ya4, rfl⟩ : ∃ ya4, ya4 = ya := ⟨_, rfl⟩; obtain ⟨yc4, rfl⟩ : ∃ yc4, yc4 = yc := ⟨_, rfl⟩)
  all_goals
    have hsz4 := HB.out.size
    have hb4 : w.heap.size < w4.heap.size := by omega
    have k0' := cell_later HB.out k0
    have k4' := cell_later HB.out k4
    have k5' := cell_later HB.out k5
    clear k0 k4 k5 m1 m2
    obtain ⟨dd, hdd⟩ : ∃ dd, dd = c.what d := ⟨_, rfl⟩
    rw [← hdd] at HO HLW
    rw [← HLW.out]
    have HDD := Lib.hid hdd
    clear hdd
    have H6 := Lib.hid (H5.out.addZ (T := tBy (.slice ya4 dd.length yc4) dd) HB.out ⟨HO.out.by, fun _ b hb => (World.ownsRow.lt HO.out b hb).1⟩)
    obtain ⟨us, hr, hone, hcopy⟩ := H6.out.copyTr 71 0 rfl
    have HR := Lib.hid hr; have HONE := Lib.hid hone; have HCP := Lib.hid hcopy
    clear hr hone hcopy
    go_upto_region 17 with (at_builtin; refine wpList_apps slFl rfl _ _ rfl (fun k => w4.heap.size ≤ k) (.slice (some ⟨w4.heap.size, 0, none⟩) 0 0) 0 [] (by rfl) (by exact sl_empty2 w4 _) _ c.flying.length us rfl (Rd.below HR.out (by (repeat (first | (with_reducible exact Below.refl _ _) | (with_reducible refine Bw.alloc ?_ _) | (with_reducible refine Bw.drewN ?_ _) | (with_reducible refine Bw.drew ?_))))) HONE.out (by unfold maxLen; omega) (by omega) ?_; intro v5 w5 hs5 hf5; obtain ⟨v5a, v5c, rfl⟩ := hs5.shape; rw [Nat.zero_add] at hs5 ⊢; have HB5 := Lib.hid ((show Below w4.heap.size w4 _ by (repeat (first | (with_reducible exact Below.refl _ _) | (with_reducible refine Bw.alloc ?_ _) | (with_reducible refine Bw.drewN ?_ _) | (with_reducible refine Bw.drew ?_)))).trans (hf5.below (by simp) fun _ h => h)); have H7 := Lib.hid (HCP.out w5 _ HB5.out (hs5.mono (by rintro k (h | h); exact h; simp at h; omega))); clear hs5 hf5)
    go_loopw [10, 9] (fun i u9 wr => ∃ (j nn : Nat) (a9 : Option Addr) (c9 : Nat), j ≤ c.copies ∧ i = .int .i64 (j : Int) ∧ u9 = .slice a9 nn c9 ∧ Hid (nn = c.flying.length + j) ∧ nn ≤ 64 ∧ Hid (Held F Z w [tSq eTr 71 (.slice la c.flying.length lc) c.flying, tBy (.slice a n cap) d, tBlk w.heap.size (.cells #[.int .i64 (c.delay : Int), .slice fa c.faults.length fc, .bool false, .int .i64 ((c.sent : Int) + 1), .int .i64 (c.ticks : Int), .slice la c.flying.length lc, .int .i64 (c.lost : Int)] 47 (0, 0)), tBlk (w.heap.size + 1) (.cells #[.int .i64 0, .slice none 0 0, .bool false, .int .i64 0, .int .i64 0, .slice none 0 0, .int .i64 0] 47), tBlk w1.heap.size (.cells #[.int .i64 f.at', .int .i64 f.kind, .int .i64 f.arg] 39), tBy (.slice ya4 dd.length yc4) dd, tSq eTr 71 (.slice a9 nn c9) (c.flying ++ List.replicate j (c.ticks + c.delay, dd))] wr)) (fun i _ _ => c.copies - (intOf i).toNat)
    case atStart => exact ⟨0, c.flying.length, v5a, v5c, by omega, by go_num, rfl, Lib.hid (by omega), by omega, Lib.hid (by rw [List.replicate_zero, List.append_nil]; exact H7.out)⟩
    case round =>
      clear H7 H6 H5
      obtain ⟨j, nn, a9, c9, hj, rfl, rfl, HNN, hn64, HH⟩ := hrel
      have hrow := HH.out.blk 2 rfl
      have k0 := blk_cell (i := 0) hrow rfl
      have k1 := blk_cell (i := 1) hrow rfl
      have k2 := blk_cell (i := 2) hrow rfl
      have k3 := blk_cell (i := 3) hrow rfl
      have k4 := blk_cell (i := 4) hrow rfl
      have k5 := blk_cell (i := 5) hrow rfl
      have k6 := blk_cell (i := 6) hrow rfl
      have kf := fun i => blk_free hrow i
      have hrow2 := HH.out.blk 3 rfl
      have q0 := blk_cell (i := 0) hrow2 rfl
      have q1 := blk_cell (i := 1) hrow2 rfl
      have q2 := blk_cell (i := 2) hrow2 rfl
      have q3 := blk_cell (i := 3) hrow2 rfl
      have q4 := blk_cell (i := 4) hrow2 rfl
      have q5 := blk_cell (i := 5) hrow2 rfl
      have q6 := blk_cell (i := 6) hrow2 rfl
      have qf := fun i => blk_free hrow2 i
      have hs0 := lt_of_block hrow
      have hs1 := lt_of_block hrow2
      clear hrow hrow2
      rw [HC.out] at hj
      by_cases hlt : j < c.copies
      · rw [HC.out] at hlt
        have hn63 : nn + 1 ≤ 64 := by have := HNN.out; omega
        obtain ⟨K, us2, hsl, _, hback⟩ := HH.out.app 6 rfl
        have hll : (c.flying ++ List.replicate j (c.ticks + c.delay, dd)).length = nn := by have := HNN.out; simp; omega
        rw [hll] at hsl hback
        have HSL := Lib.hid (show Sl wr K 71 2 (.slice a9 nn c9) nn us2 from hsl); have HBK := Lib.hid hback; have HLL := Lib.hid hll
        clear hsl hback hll
        go_wp2_with (at_builtin; refine wpList_apps slFl rfl _ _ rfl K (.slice a9 nn c9) nn us2 (by rfl) (by (repeat (first | (with_reducible exact HSL.out) | (with_reducible refine Sl.alloc ?_ _) | (with_reducible refine Sl.drewN ?_ _) | (with_reducible refine Sl.drew ?_)))) _ 1 [.int .i64 ((c.ticks : Int) + (c.delay : Int)), .slice ya4 dd.length yc4] rfl (slFlB _ _ _ _ _ _ (by first | rfl | simp)) (by intro u hu; simp at hu; rcases hu with rfl | rfl <;> rfl) (by unfold maxLen; omega) (by omega) ?_; intro v6 w6 hsl2 hf2; obtain ⟨v6a, v6c, rfl⟩ := hsl2.shape; have H8 := Lib.hid (HBK.out _ w6 _ [(c.ticks + c.delay, dd)] _ (by (repeat (first | (with_reducible exact Below.refl _ _) | (with_reducible refine Bw.alloc ?_ _) | (with_reducible refine Bw.drewN ?_ _) | (with_reducible refine Bw.drew ?_)))) hsl2 hf2 (fun Y ho => ⟨fun _ => False, Y, fun _ f => f.elim, fun _ h => .inl h, fun _ f => f.elim, by obtain ⟨H, _, h2⟩ := ho 5 _ (by decide) rfl; exact Els.single (E := eTr) ⟨_, rfl, (show ByZ wr Y (.slice ya4 dd.length yc4) dd from h2).below (by (repeat (first | (with_reducible exact Below.refl _ _) | (with_reducible refine Bw.alloc ?_ _) | (with_reducible refine Bw.drewN ?_ _) | (with_reducible refine Bw.drew ?_))))⟩⟩)); clear hsl2 hf2)
        go_roundw
        case rel => exact ⟨j + 1, nn + 1, v6a, v6c, by rw [HC.out]; omega, by go_num, rfl, Lib.hid (by have := HNN.out; omega), hn63, Lib.hid (by rw [List.replicate_succ', ← List.append_assoc]; exact H8.out)⟩
        case measure => simp [intOf, HC.out]; omega
      · rw [HC.out] at hlt
        go_wp2_with fail
        have hj2 : j = c.copies := by rw [HC.out]; omega
        have HFN : Hid ((c.send d).2 = { c with sent := c.sent + 1, flying := c.flying ++ List.replicate j (c.ticks + c.delay, dd) }) := Lib.hid (by rw [HSE.out, hj2, HDD.out])
        have hfl2 : (c.flying ++ List.replicate j (c.ticks + c.delay, dd)).length = nn := by have := HNN.out; simp; omega
        have HFL := Lib.hid hfl2
        have HROW1 := Lib.hid (HH.out.blk 2 rfl)
        have h8 := HH.out.set 2 rfl (.cells #[.int .i64 (c.delay : Int), .slice fa c.faults.length fc, .bool false, .int .i64 ((c.sent : Int) + 1), .int .i64 (c.ticks : Int), .slice a9 nn c9, .int .i64 (c.lost : Int)] 47 (0, 0)) (w' := wr.setCell ⟨w.heap.size, 5, none⟩ (.slice a9 nn c9)) (by (repeat (first | (with_reducible exact Fr.refl _ _) | exact Or.inl rfl | (with_reducible refine Fr.setCell ?_ ?_ _) | (with_reducible refine Fr.drewN ?_ _) | (with_reducible refine Fr.drew ?_)))) (by (apply row_trans; focus (repeat (first | (with_reducible exact HROW1.out) | (with_reducible apply row_set) | (with_reducible apply row_drewN) | (with_reducible apply row_drew)))); rfl)
        have HROW2 := Lib.hid (h8.blk 3 rfl)
        refine bodyPost_ret (v := .tuple #[.agg #[.int .i64 (c.delay : Int), .slice fa c.faults.length fc, .bool false, .int .i64 ((c.sent : Int) + 1), .int .i64 (c.ticks : Int), .slice a9 nn c9, .int .i64 (c.lost : Int)], .int .i64 0]) (by simp [results, Try.results21, go_sem, q0, q1, q2, q3, q4, q5, q6]) rfl ⟨a9, c9, ?_, ?_⟩
        · rw [HFN.out]
          simp only [refV]
          rw [HFL.out, ← HU.out]
          rfl
        · rw [HFN.out]
          show Did w F Z [tSq eTr _ (.slice a9 (c.flying ++ List.replicate j (c.ticks + c.delay, dd)).length c9) (c.flying ++ List.replicate j (c.ticks + c.delay, dd))] _
          rw [HFL.out]
          refine (Held.pick (Held.set h8 3 rfl (.cells #[.int .i64 (c.delay : Int), .slice fa c.faults.length fc, .bool false, .int .i64 ((c.sent : Int) + 1), .int .i64 (c.ticks : Int), .slice a9 nn c9, .int .i64 (c.lost : Int)] 47 (0, 0)) ?_ ?_) [6] [_] (by simp) rfl).did
          · (repeat (first | (with_reducible exact Fr.refl _ _) | exact Or.inl rfl | (with_reducible refine Fr.setCell ?_ ?_ _) | (with_reducible refine Fr.drewN ?_ _) | (with_reducible refine Fr.drew ?_)))
          · (apply row_trans; focus (repeat (first | (with_reducible exact HROW2.out) | (with_reducible apply row_set) | (with_reducible apply row_drewN) | (with_reducible apply row_drew))))
            simp
end Go.Proofs.Ytekojekgjfefkaa
