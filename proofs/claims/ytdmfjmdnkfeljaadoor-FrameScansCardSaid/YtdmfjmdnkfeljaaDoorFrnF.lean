/- The contract of the line code's reference: Decode. -/
import Derived.Test.YtdmfjmdnkfeljaaDoorFrmZ
import Derived.Test.YtdmfjmdnkfeljaaDoorFrmM
namespace Go.Proofs.YtdmfjmdnkfeljaaDoor
open Go.RowKit

theorem idxI_data {x : Byte} (h : isData x = true) : idxI x = (idx x : Int) ∧ idx x < 16 := by
  have h16 : idx x < 16 := by simpa [isData] using h
  unfold idxI; rw [if_pos (by omega)]; exact ⟨rfl, h16⟩
theorem idxI_bad {x : Byte} (h : isData x = false) : idxI x < 0 ∨ 15 < idxI x := by
  have h16 : 16 ≤ idx x := by simpa [isData] using h
  unfold idxI
  by_cases h20 : idx x < 20
  · rw [if_pos h20]; right; omega
  · rw [if_neg h20]; left; decide
set_option maxRecDepth 100000 in
set_option maxHeartbeats 8000000 in
theorem refDecS_any (v : Value) (ss : List Byte) (w : World) (hb : By w v ss) (hm : ss.length ≤ 100000) :
    Calls Tryd.prog 55 #[v] w (DecP w ss) := by
  have HB := Lib.hid hb
  obtain ⟨a, cap, rfl⟩ := hb.slice
  clear hb
  go_enter Tryd.func55, Tryd.ntmps55
  go_wp2_with fail
  go_loopw [5] (fun i wr => ∃ k : Nat, k ≤ ss.length ∧ i = .int .i64 (k : Int) ∧ Hid (∀ j, j < k → isData (ss.getD j 0) = true) ∧ Hid (Below w.heap.size w wr)) (fun i _ => ss.length - (intOf i).toNat)
  case atStart => exact ⟨0, by omega, by go_num, Lib.hid (fun j hj => by omega), Lib.hid (Below.refl _ _)⟩
  case round =>
    obtain ⟨k, hk, rfl, HDA, HBW⟩ := hrel
    by_cases hlt : k < ss.length
    · obtain ⟨_, ⟨h0, _⟩ | ⟨bb, off, cp, e, _, _, _, hc⟩⟩ := (HB.out.below HBW.out).cases
      · rw [h0] at hlt; simp at hlt
      · obtain ⟨rfl, rfl⟩ : a = some ⟨bb, off, none⟩ ∧ cap = cp := by simpa using e
        have hck := hc k hlt
        clear hc e
        obtain ⟨x, hx⟩ : ∃ x, x = ss.getD k 0 := ⟨_, rfl⟩
        rw [← hx] at hck
        have HX := Lib.hid hx
        clear hx
        go_wp2_with fail
        refine (refIndex_any x wr).mono ?_
        rintro e w' ⟨rfl, hbx⟩
        have HBX := Lib.hid (HBW.out.trans (hbx.mono HBW.out.size))
        clear hbx hck
        cases hd : isData x with
        | true =>
          obtain ⟨hi, hi16⟩ := idxI_data hd
          rw [hi]
          generalize idx x = n at *
          have HDA2 : Hid (∀ j, j < k + 1 → isData (ss.getD j 0) = true) := Lib.hid (fun j hj => by
            by_cases hjk : j = k
            · rw [hjk, ← HX.out]; exact hd
            · exact HDA.out j (by omega))
          clear hi hd
          have hn0 : (0 : Int) ≤ (n : Int) ∧ (n : Int) ≤ 15 := by omega
          go_wp2_with fail
          go_roundw
          case rel => exact ⟨k + 1, by omega, by go_num, HDA2, HBX⟩
          case measure => simp [intOf]; omega
        | false =>
          have HFB := Lib.hid (decS_bad (find_bad HDA.out hlt (by rw [← HX.out]; exact hd)))
          have hi := idxI_bad hd
          generalize idxI x = n at *
          clear hd
          by_cases hn : n < 0
          · clear hi
            go_wp2_with fail
            go_ret3
            exact DecP.mk HFB.out (Nb.nil _ _) HBX.out
          · have hn2 : 15 < n := hi.resolve_left hn
            clear hi
            go_wp2_with fail
            go_ret3
            exact DecP.mk HFB.out (Nb.nil _ _) HBX.out
    · have hkl : k = ss.length := by omega
      have HAD := Lib.hid (all_data (ss := ss) (by rw [← hkl]; exact HDA.out))
      clear hkl
      by_cases hev : ss.length % 2 = 0
      · have htt : ((ss.length : Int) % 2 != 0) = false := by simp; omega
        have HEV := Lib.hid hev
        have HDS := Lib.hid (decS_good HAD.out hev)
        clear hev
        go_wp2_with fail
        go_loopw [7, 8] (fun u i w2 => ∃ m : Nat, 2 * m ≤ ss.length ∧ i = .int .i64 ((2 * m : Nat) : Int) ∧ (∃ a' c', u = .slice a' (decB (ss.take (2 * m))).length c') ∧ Hid (Nb w2 w.heap.size u (decB (ss.take (2 * m)))) ∧ Hid (Below w.heap.size w w2)) (fun _ i _ => ss.length - (intOf i).toNat)
        case atStart => exact ⟨0, by omega, by go_num, ⟨none, 0, rfl⟩, Lib.hid (Nb.nil _ _), HBW⟩
        case round =>
          obtain ⟨m, hm2, rfl, ⟨ua, uc, rfl⟩, HO, HBV⟩ := hrel
          by_cases hl2 : 2 * m < ss.length
          · have hl3 : 2 * m + 1 < ss.length := by have := HEV.out; omega
            obtain ⟨_, ⟨h0, _⟩ | ⟨bb, off, cp, e, _, _, _, hc⟩⟩ := HB.out.cases
            · rw [h0] at hl2; simp at hl2
            · obtain ⟨rfl, rfl⟩ : a = some ⟨bb, off, none⟩ ∧ cap = cp := by simpa using e
              have c0 := hc (2 * m) hl2; have c1 := hc (2 * m + 1) hl3
              clear hc e
              have HTK := Lib.hid (dec_take2 ss m hl3)
              have hdx := HAD.out (ss.getD (2 * m) 0) (by simp [List.getD, hl2])
              have hdy := HAD.out (ss.getD (2 * m + 1) 0) (by simp [List.getD, hl3])
              obtain ⟨x, hx⟩ : ∃ x, x = ss.getD (2 * m) 0 := ⟨_, rfl⟩
              obtain ⟨y, hy⟩ : ∃ y, y = ss.getD (2 * m + 1) 0 := ⟨_, rfl⟩
              rw [← hx] at c0 hdx HTK
              rw [← hy] at c1 hdy HTK
              clear hx hy
              obtain ⟨hix, hix16⟩ := idxI_data hdx
              obtain ⟨hiy, hiy16⟩ := idxI_data hdy
              clear hdx hdy
              have HIX := Lib.hid hix; have HIY := Lib.hid hiy
              clear hix hiy
              have hxl : (decB (ss.take (2 * m))).length ≤ 100000 := by rw [decB_length, List.length_take]; omega
              obtain ⟨bt, hbt⟩ : ∃ bt : Byte, bt = BitVec.ofNat 8 (16 * idx x + idx y) := ⟨_, rfl⟩
              rw [← hbt] at HTK
              have HBT := Lib.hid (show (16 * (idx x : Int) + (idx y : Int)) = U bt by rw [hbt]; unfold U; rw [BitVec.toNat_ofNat]; omega)
              clear hbt
              generalize decB (ss.take (2 * m)) = xs at *
              obtain ⟨kk, hkk⟩ : ∃ kk, kk = 2 * m := ⟨_, rfl⟩
              rw [← hkk] at c0 c1 hl2 hl3 hm2
              rw [← hkk]
              have HKK := Lib.hid hkk
              clear hkk
              have hs1 : IntKind.i64.wrap ((kk : Int) + 1) = (kk : Int) + 1 := IntWalk.i64_in _ (by omega)
              have hs2 : (0 : Int) ≤ (kk : Int) + 1 ∧ (kk : Int) + 1 < (ss.length : Int) := by omega
              have hs3 : ((kk : Int) + 1).toNat = kk + 1 := by omega
              have hs4 : (0 : Int) ≤ (kk : Int) ∧ (kk : Int) < (ss.length : Int) := by omega
              generalize hnx : idx x = nx at *
              generalize hny : idx y = ny at *
              have hs5 : IntKind.i64.wrap (16 * (nx : Int)) = 16 * (nx : Int) := IntWalk.i64_in _ (by omega)
              have hs6 : IntKind.i64.wrap (16 * (nx : Int) + (ny : Int)) = 16 * (nx : Int) + (ny : Int) := IntWalk.i64_in _ (by omega)
              have hs7 : IntKind.u8.wrap (16 * (nx : Int) + (ny : Int)) = 16 * (nx : Int) + (ny : Int) := by rw [IntKind.wrap_u8]; omega
              have HNX := Lib.hid hnx; have HNY := Lib.hid hny
              clear hnx hny
              go_wp2_with fail
              refine wp_region_held_drew (S := Below w.heap.size w) (by kernel_rfl) (Bw.drew HBV.out) (fun hS0 => ?_)
              change wpAnyH _ _ _ _ _ (13 + 5) _ _ _
              refine wpAnyH_take_n 0 5 (by kernel_rfl) hS0 (fun _ _ _ _ _ h => h) ?_
              simp only [List.drop_zero, List.take_succ_cons, List.take_zero]
              iterate 5 (refine wpFirst_val (v := ?_) (by rfl) ?_ ?_; rotate_left 1; (focus ((intro w' hS'; have h0 := cell_later hS' c0; have h1 := cell_later hS' c1; go_simp); try with_reducible rfl)); simp only [Act.put, List.setIfInBounds_toArray, List.set_cons_zero, List.set_cons_succ])
              refine wpFirst_nil ?_
              change wpAnyH _ _ _ _ _ (8 + 5) _ _ _
              refine wpAnyH_take_n 7 5 (by kernel_rfl) hS0 (fun _ _ _ _ _ h => h) ?_
              simp only [List.drop_succ_cons, List.drop_zero, List.take_succ_cons, List.take_zero]
              iterate 5 (refine wpFirst_val (v := ?_) (by rfl) ?_ ?_; rotate_left 1; (focus ((intro w' hS'; have h0 := cell_later hS' c0; have h1 := cell_later hS' c1; go_simp); try with_reducible rfl)); simp only [Act.put, List.setIfInBounds_toArray, List.set_cons_zero, List.set_cons_succ])
              refine wpFirst_nil ?_
              refine wpAnyH_one 5 (by kernel_rfl) rfl (fun K hK => ?_)
              (refine step_call (f := ?_) (args := ?_) (by rfl) ?_ ?_; rotate_left 2; (focus (go_simp; first | (with_reducible rfl) | (refine ⟨?_, ?_⟩ <;> with_reducible rfl))); (refine ((refIndex_any x _)).mono ?_); rintro e' w'' ⟨rfl, hbx⟩)
              rw [HIX.out]
              refine ⟨_, rfl, ?_⟩
              simp only [Act.put, List.setIfInBounds_toArray, List.set_cons_zero, List.set_cons_succ]
              have hS1 := hS0.trans (hbx.mono hS0.size)
              refine hK.out _ _ hS1 ?_
              clear hK K
              change wpAnyH _ _ _ _ _ (6 + 1) _ _ _
              refine wpAnyH_take_n 6 1 (by kernel_rfl) hS1 (fun _ _ _ _ _ h => h) ?_
              simp only [List.drop_succ_cons, List.drop_zero, List.take_succ_cons, List.take_zero]
              (refine wpFirst_val (v := ?_) (by rfl) ?_ ?_; rotate_left 1; (focus ((intro w' hS'; go_simp); try with_reducible rfl)); simp only [Act.put, List.setIfInBounds_toArray, List.set_cons_zero, List.set_cons_succ])
              refine wpFirst_nil ?_
              refine wpAnyH_one 12 (by kernel_rfl) rfl (fun K hK => ?_)
              (refine step_call (f := ?_) (args := ?_) (by rfl) ?_ ?_; rotate_left 2; (focus (go_simp; first | (with_reducible rfl) | (refine ⟨?_, ?_⟩ <;> with_reducible rfl))); (refine ((refIndex_any y _)).mono ?_); rintro e' w'' ⟨rfl, hby⟩)
              rw [HIY.out]
              refine ⟨_, rfl, ?_⟩
              simp only [Act.put, List.setIfInBounds_toArray, List.set_cons_zero, List.set_cons_succ]
              have hS2 := hS1.trans (hby.mono hS1.size)
              refine hK.out _ _ hS2 ?_
              clear hK K
              change wpAnyH _ _ _ _ _ (3 + 2) _ _ _
              refine wpAnyH_take_n 13 2 (by kernel_rfl) hS2 (fun _ _ _ _ _ h => h) ?_
              simp only [List.drop_succ_cons, List.drop_zero, List.take_succ_cons, List.take_zero]
              iterate 2 (refine wpFirst_val (v := ?_) (by rfl) ?_ ?_; rotate_left 1; (focus ((intro w' hS'; go_simp); try with_reducible rfl)); simp only [Act.put, List.setIfInBounds_toArray, List.set_cons_zero, List.set_cons_succ])
              refine wpFirst_nil ?_
              refine wpAnyH_one 15 (by kernel_rfl) rfl (fun K hK => ?_)
              go_simp
              refine hK.out _ _ (show Below w.heap.size w _ from hS2.trans ((below_alloc _ _).mono hS2.size)) ?_
              clear hK K
              refine wpAnyH_one 16 (by kernel_rfl) rfl (fun K hK => ?_)
              have hwsz := HBV.out.size
              have hw2 : Below wr.heap.size wr _ := (below_drew wr 1).trans (hbx.trans (hby.mono hbx.size))
              have hS2s := hS2.size
              refine step_nb (by rfl) _ _ (by rfl) w.heap.size (.slice ua xs.length uc) xs (by rfl) (HO.out.below (hw2.trans ((below_alloc _ _).mono hw2.size))) _ [bt] (by rfl) (By_lit _ _ _ _ [bt] 1 1 rfl (by rw [HBT.out]; rfl) rfl (Nat.le_refl _) (by decide)) (by show xs.length + 1 ≤ _; omega) (by simp; omega) ?_
              intro xa xc w3 hn3 hb3
              simp only [Act.put, List.setIfInBounds_toArray, List.set_cons_zero, List.set_cons_succ]
              have hS3 := hS2.trans (((below_alloc _ _).mono hS2.size).trans hb3)
              refine hK.out _ _ hS3 ?_
              clear hK K
              have HN3 := Lib.hid hn3; have HB3 := Lib.hid hS3
              clear hn3 hb3 hS3 hS2 hS1 hS0 hbx hby hw2
              refine wpAnyH_one 17 (by kernel_rfl) rfl (fun K hK => ?_)
              go_simp
              refine hK.out _ _ HB3.out ?_
              clear hK K
              refine wpAnyH_done (by kernel_rfl) ?_ _
              go_wp2_with fail
              go_roundw
              case rel => exact ⟨m + 1, by have := HKK.out; omega, by have := HKK.out; go_num, ⟨xa, xc, by rw [HTK.out, List.length_append]; rfl⟩, Lib.hid (by rw [HTK.out]; exact HN3.out), HB3⟩
              case measure => simp [intOf]; omega
          · go_wp2_with fail
            go_ret3
            exact DecP.mk HDS.out (by have := HO.out; rw [List.take_of_length_le (by omega)] at this ⊢; exact this) HBV.out
      · have htt : ((ss.length : Int) % 2 != 0) = true := by simp; omega
        have HDS := Lib.hid (decS_odd HAD.out hev)
        clear hev
        go_wp2_with fail
        go_ret3
        exact DecP.mk HDS.out (Nb.nil _ _) HBW.out
end Go.Proofs.YtdmfjmdnkfeljaaDoor
