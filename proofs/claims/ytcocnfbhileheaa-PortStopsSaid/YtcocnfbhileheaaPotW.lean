/- The law's awake. -/
import Derived.Test.YtcocnfbhileheaaPotS
import Derived.Test.YtcocnfbhileheaaPorV
namespace Go.Proofs.Ytcocnfbhileheaa
open Go.RowKit

/-- a list that nobody writes any more -/
theorem Held.freeze {F Z : BS} {W w : World} {ts : List Th} {α : Type} {E : El α} {T : TypeId} {v : Value} {xs : List α} (h : Held F Z W ts w) (i : Nat) (hi : ts[i]? = some (tSq E T v xs)) (hc : ∀ {w A B cs a}, E.rd w A B cs a → E.rd w (fun _ => False) (fun k => A k ∨ B k) cs a) :
    Held F Z W (ts.set i (tRd E v xs)) w := by
  obtain ⟨G, Y, hon, _, _, _, hback⟩ := h.use i hi
  have := hback w (tRd E v xs) [] ⟨Fr.refl _ _, fun k => G k ∨ Y k, fun k hk => hk.elim (fun g => .inr (.inl g)) .inl, Star.one (F := fun k => (G k ∨ w.heap.size ≤ k) ∧ ¬ (G k ∨ Y k)) (T := tRd E v xs) (RdS.mono (Sq.rd (show Sq E T w G Y v xs from hon) hc) fun _ h => h)⟩
  rwa [List.append_nil] at this
abbrev awk0 : Prt := newPrt 5 [2, 1] 4 3 5
theorem awk_1 : (awk0.tick []).1 = [⟨1#8, 0, 5, 0, []⟩] := by rfl
theorem awk_2 : ((awk0.tick []).2.tick [⟨1#8, 0, 9, 5, []⟩]).1 = [⟨1#8, 0, 5, 9, []⟩, ⟨3#8, 0, 0, 5, []⟩, ⟨4#8, 0, 2, 5, []⟩, ⟨4#8, 1, 1, 5, []⟩] := by rfl
theorem awk_3 : ((awk0.tick []).2.tick [⟨1#8, 0, 9, 5, []⟩]).2.side.state = 2 := by rfl
theorem awk_ok : awk0.Ok 200 := newPrt_ok (by decide) (by decide) (by decide) (by decide) (by decide) (by decide) (by decide) (by decide) (by decide) (by decide) (by decide)
set_option maxRecDepth 100000 in
set_option maxHeartbeats 16000000 in
theorem awake_any (w : World) : Calls Try.prog 12 #[] w fun e w' => e = .returned (.bool true) ∧ Below w.heap.size w w' := by
  go_enter Try.func12, Try.ntmps12
  go_wp2_with fail
  have hrow := heap_alloc_new w (.cells #[.int .i64 2, .int .i64 1] 3)
  refine (pnew_any (inc := 5) (wi := 4) (ti := 3) (de := 5) (rooms := [2, 1]) (rb := w.heap.size) (ro := 0) (rc := 2) (w.alloc (.cells #[.int .i64 2, .int .i64 1] 3)) ⟨by decide, by decide, by decide, by decide, by decide, by decide, by decide, by decide, by decide, by decide, by decide⟩ (by decide) (by decide) (fun k x hk => by
    match k, hk with
    | 0, hk => obtain rfl : 2 = x := by simpa using hk
               exact blk_cell (i := 0) hrow rfl
    | 1, hk => obtain rfl : 1 = x := by simpa using hk
               exact blk_cell (i := 1) hrow rfl
    | k + 2, hk => simp at hk)).mono ?_
  rintro e w1 ⟨p, rfl, hm⟩
  have h1 := ((Held.start0 (fun _ => False) (fun _ => False) (fun _ f => f.elim) w).alloc (.cells #[.int .i64 2, .int .i64 1] 3)).made hm
  have H1 := Lib.hid (show Held (fun _ => False) (fun _ => False) w (tPort p awk0 :: [tRd ePt (.slice none 0 0) []]) w1 from h1.add (Below.refl _ _) (T := tRd ePt (.slice none 0 0) []) (RdS.nil _ _ _))
  clear hm h1 hrow
  go_wp2_with fail
  refine (tick_c [] (.slice none 0 0) awk_ok rfl (by decide) (by simp) H1.out 0 rfl).mono ?_
  rintro e w2 ⟨sa, sc, rfl, hh⟩
  rw [awk_1] at hh ⊢
  have H2 := Lib.hid hh
  clear hh H1
  have H3 := Lib.hid (show Held (fun _ => False) (fun _ => False) w (tPort p (awk0.tick []).2 :: [tRd ePt (.slice (some ⟨w2.heap.size, 0, none⟩) 1 1) [(⟨1#8, 0, 9, 5, []⟩ : Pt)], tRd ePt (.slice sa 1 sc) [(⟨1#8, 0, 5, 0, []⟩ : Pt)]]) (w2.alloc (ptCells (⟨1#8, 0, 9, 5, []⟩ : Pt) (.slice none 0 0))) from
    ((((H2.out.lit_pt (x := (⟨1#8, 0, 9, 5, []⟩ : Pt)) (v := .slice none 0 0) fun Y => ByZ.nil _ Y).freeze 0 rfl ePt_rd).freeze 1 rfl ePt_rd).pick [2, 0, 1] _ (by decide) rfl))
  rw [show [(⟨1#8, 0, 5, 0, []⟩ : Pt)].length = 1 from rfl]
  clear H2
  go_wp2_with fail
  refine (tick_c [(⟨1#8, 0, 9, 5, []⟩ : Pt)] (.slice (some ⟨w2.heap.size, 0, none⟩) 1 1) (awk_ok.tick (l := []) (by simp)) (by rfl) (by decide) (by simp) H3.out 0 rfl).mono ?_
  rintro e w3 ⟨ta, tc, rfl, hh⟩
  rw [awk_2] at hh ⊢
  have hh' := hh.freeze 0 rfl ePt_rd
  have H4 := Lib.hid hh'
  obtain ⟨_, _, hA⟩ := hh'.get 3 rfl
  obtain ⟨_, _, hB⟩ := hh'.get 0 rfl
  have hA' := show RdS ePt w3 _ (.slice sa 1 sc) [(⟨1#8, 0, 5, 0, []⟩ : Pt)] from hA
  have hB' := show RdS ePt w3 _ (.slice ta 4 tc) [(⟨1#8, 0, 5, 9, []⟩ : Pt), ⟨3#8, 0, 0, 5, []⟩, ⟨4#8, 0, 2, 5, []⟩, ⟨4#8, 1, 1, 5, []⟩] from hB
  obtain ⟨ab, ao, pa, pc, q1, hy1, a0, a1, a2, a3, a4⟩ := pt_at hA' (i := 0) rfl
  obtain ⟨bb, bo, ea, ec, q2, hy2, e0, e1, e2, e3, e4⟩ := pt_at hB' (i := 0) rfl
  obtain ⟨bb1, bo1, fa, fc, q3, hy3, f0, f1, f2, f3, f4⟩ := pt_at hB' (i := 1) rfl
  obtain ⟨bb2, bo2, ga, gc, q4, hy4, g0, g1, g2, g3, g4⟩ := pt_at hB' (i := 3) rfl
  subst q1 q2
  obtain ⟨rfl, rfl⟩ : bb = bb1 ∧ bo = bo1 := by simpa using q3
  obtain ⟨rfl, rfl⟩ : bb = bb2 ∧ bo = bo2 := by simpa using q4
  have hab := World.block_lt_of_cell? w3 _ a0
  have hbb := World.block_lt_of_cell? w3 _ e0
  have CE := Lib.hid (fun (w' : World) (hb : Below w3.heap.size w3 w') => show (w'.cell? ⟨ab, ao, none⟩ = some (.int .u8 1) ∧ w'.cell? ⟨ab, ao + 1, none⟩ = some (.int .i64 0) ∧ w'.cell? ⟨ab, ao + 2, none⟩ = some (.int .i64 5) ∧ w'.cell? ⟨ab, ao + 3, none⟩ = some (.int .i64 0) ∧ w'.cell? ⟨ab, ao + 4, none⟩ = some (.slice pa 0 pc)) ∧ (w'.cell? ⟨bb, bo, none⟩ = some (.int .u8 1) ∧ w'.cell? ⟨bb, bo + 1, none⟩ = some (.int .i64 0) ∧ w'.cell? ⟨bb, bo + 2, none⟩ = some (.int .i64 5) ∧ w'.cell? ⟨bb, bo + 3, none⟩ = some (.int .i64 9) ∧ w'.cell? ⟨bb, bo + 4, none⟩ = some (.slice ea 0 ec)) ∧ (w'.cell? ⟨bb, bo + 5, none⟩ = some (.int .u8 3) ∧ w'.cell? ⟨bb, bo + 6, none⟩ = some (.int .i64 0) ∧ w'.cell? ⟨bb, bo + 7, none⟩ = some (.int .i64 0) ∧ w'.cell? ⟨bb, bo + 8, none⟩ = some (.int .i64 5) ∧ w'.cell? ⟨bb, bo + 9, none⟩ = some (.slice fa 0 fc)) ∧ (w'.cell? ⟨bb, bo + 15, none⟩ = some (.int .u8 4) ∧ w'.cell? ⟨bb, bo + 16, none⟩ = some (.int .i64 1) ∧ w'.cell? ⟨bb, bo + 17, none⟩ = some (.int .i64 1) ∧ w'.cell? ⟨bb, bo + 18, none⟩ = some (.int .i64 5) ∧ w'.cell? ⟨bb, bo + 19, none⟩ = some (.slice ga 0 gc)) from
    have ka := fun {o : Nat} {v : Value} (h : w3.cell? ⟨ab, o, none⟩ = some v) => (World.cell?_of_block (hb.block ab hab)).trans h
    have kb := fun {o : Nat} {v : Value} (h : w3.cell? ⟨bb, o, none⟩ = some v) => (World.cell?_of_block (hb.block bb hbb)).trans h
    ⟨⟨ka a0, ka a1, ka a2, ka a3, ka a4⟩, ⟨kb e0, kb e1, kb e2, kb e3, kb e4⟩, ⟨kb f0, kb f1, kb f2, kb f3, kb f4⟩, kb g0, kb g1, kb g2, kb g3, kb g4⟩)
  have BYS := Lib.hid (fun (w' : World) (hb : Below w3.heap.size w3 w') => show By w' (.slice pa 0 pc) [] ∧ By w' (.slice ea 0 ec) [] ∧ By w' (.slice fa 0 fc) [] ∧ By w' (.slice ga 0 gc) [] from
    ⟨hy1.1.below hb, hy2.1.below hb, hy3.1.below hb, hy4.1.below hb⟩)
  have HB := Lib.hid (Below.refl w3.heap.size w3)
  have HUP := Lib.hid awk_3
  clear hh hh' hA hB hA' hB' hy1 hy2 hy3 hy4 q3 q4 H3
  rw [show [(⟨1#8, 0, 5, 9, []⟩ : Pt), ⟨3#8, 0, 0, 5, []⟩, ⟨4#8, 0, 2, 5, []⟩, ⟨4#8, 1, 1, 5, []⟩].length = 4 from rfl]
  clear a0 a1 a2 a3 a4 e0 e1 e2 e3 e4 f0 f1 f2 f3 f4 g0 g1 g2 g3 g4
  obtain ⟨⟨a0, a1, a2, a3, a4⟩, ⟨e0, e1, e2, e3, e4⟩, ⟨f0, f1, f2, f3, f4⟩, g0, g1, g2, g3, g4⟩ := CE.out _ HB.out
  go_wp2_with fail
  refine (sameP_refl ⟨1#8, 0, 5, 0, []⟩ pa none pc 0 _ (BYS.out _ HB.out).1 (By.of_nil _)).mono ?_
  rintro e w' ⟨rfl, hb⟩
  have HB' := Lib.hid (HB.out.trans (hb.mono HB.out.size))
  clear HB hb; have HB := HB'; clear HB'
  clear a0 a1 a2 a3 a4 e0 e1 e2 e3 e4 f0 f1 f2 f3 f4 g0 g1 g2 g3 g4; obtain ⟨⟨a0, a1, a2, a3, a4⟩, ⟨e0, e1, e2, e3, e4⟩, ⟨f0, f1, f2, f3, f4⟩, g0, g1, g2, g3, g4⟩ := CE.out _ HB.out
  go_wp2_with fail
  refine (up_any (H4.out.own HB.out) 1 rfl).mono ?_
  rintro e w' ⟨rfl, rfl⟩
  rw [decide_eq_true HUP.out]
  go_wp2_with fail
  refine (sameP_refl ⟨1#8, 0, 5, 9, []⟩ ea none ec 0 _ (BYS.out _ HB.out).2.1 (By.of_nil _)).mono ?_
  rintro e w' ⟨rfl, hb⟩
  have HB' := Lib.hid (HB.out.trans (hb.mono HB.out.size))
  clear HB hb; have HB := HB'; clear HB'
  clear a0 a1 a2 a3 a4 e0 e1 e2 e3 e4 f0 f1 f2 f3 f4 g0 g1 g2 g3 g4; obtain ⟨⟨a0, a1, a2, a3, a4⟩, ⟨e0, e1, e2, e3, e4⟩, ⟨f0, f1, f2, f3, f4⟩, g0, g1, g2, g3, g4⟩ := CE.out _ HB.out
  go_wp2_with fail
  refine (sameP_refl ⟨3#8, 0, 0, 5, []⟩ fa none fc 0 _ (BYS.out _ HB.out).2.2.1 (By.of_nil _)).mono ?_
  rintro e w' ⟨rfl, hb⟩
  have HB' := Lib.hid (HB.out.trans (hb.mono HB.out.size))
  clear HB hb; have HB := HB'; clear HB'
  clear a0 a1 a2 a3 a4 e0 e1 e2 e3 e4 f0 f1 f2 f3 f4 g0 g1 g2 g3 g4; obtain ⟨⟨a0, a1, a2, a3, a4⟩, ⟨e0, e1, e2, e3, e4⟩, ⟨f0, f1, f2, f3, f4⟩, g0, g1, g2, g3, g4⟩ := CE.out _ HB.out
  go_wp2_with fail
  refine (sameP_refl ⟨4#8, 1, 1, 5, []⟩ ga none gc 0 _ (BYS.out _ HB.out).2.2.2 (By.of_nil _)).mono ?_
  rintro e w' ⟨rfl, hb⟩
  have HB' := Lib.hid (HB.out.trans (hb.mono HB.out.size))
  clear HB hb; have HB := HB'; clear HB'
  clear a0 a1 a2 a3 a4 e0 e1 e2 e3 e4 f0 f1 f2 f3 f4 g0 g1 g2 g3 g4; obtain ⟨⟨a0, a1, a2, a3, a4⟩, ⟨e0, e1, e2, e3, e4⟩, ⟨f0, f1, f2, f3, f4⟩, g0, g1, g2, g3, g4⟩ := CE.out _ HB.out
  go_wp2_with fail
  go_ret
  exact ⟨rfl, H4.out.below.trans (HB.out.mono H4.out.below.size)⟩
end Go.Proofs.Ytcocnfbhileheaa
