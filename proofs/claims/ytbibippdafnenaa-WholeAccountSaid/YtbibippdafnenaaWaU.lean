/- Bytes are read from a store. -/
import Derived.Test.YtbibippdafnenaaWaT
import Derived.Test.YtbibippdafnenaaWaA
namespace Go.Proofs.Ytbibippdafnenaa
open Go.RowKit Go.Maps
set_option maxRecDepth 100000

theorem St.read_next (S : St) (i : Nat) : (fun j : Int => if j = ((S.off + i : Nat) : Int) then none else (S.read i).m j) = (S.read (i + 1)).m := by
  funext j
  unfold St.read
  dsimp only
  by_cases hj : j = ((S.off + i : Nat) : Int)
  · rw [if_pos hj, if_pos (by omega)]
  · rw [if_neg hj]
    by_cases hq : (S.off : Int) ≤ j ∧ j < ((S.off + i : Nat) : Int)
    · rw [if_pos hq, if_pos (by omega)]
    · rw [if_neg hq, if_neg (by omega)]
theorem St.read_zero (S : St) : S.read 0 = S := by
  unfold St.read
  have : (fun j : Int => if (S.off : Int) ≤ j ∧ j < ((S.off + 0 : Nat) : Int) then none else S.m j) = S.m := by
    funext j; rw [if_neg (by omega)]
  rw [this, Nat.add_zero]
section
variable {F Z : BS} {W w : World} {ts : List Th} {p : Nat} {S : St}
set_option maxHeartbeats 16000000 in
theorem readS_c (h : Held F Z W (tSt p S :: ts) w) (hl : S.Low) (hle : S.off ≤ S.next) (most : Nat) (hm1 : 1 ≤ most) (hm2 : most ≤ 100000) (n : Nat) (hn : n = min most (S.next - S.off)) (d : List Byte) (hd : d.length = n) (hb : ∀ i x, d[i]? = some x → S.m ((S.off + i : Nat) : Int) = some x) :
    Calls Try.prog 29 #[.pointer (some ⟨p, 0, none⟩), .int .i64 (most : Int)] w fun e w' => ∃ a c, e = .returned (.slice a d.length c) ∧ Held F Z W (tSt p (S.read n) :: (ts ++ [tSq eU8 5 (.slice a d.length c) d])) w' := by
  obtain ⟨b, h1⟩ := Held.opens h
  have H1 := Lib.hid h1
  obtain ⟨l1, l2, l3, l4, l5, l6⟩ := hl
  have hrow := h1.blk 0 rfl
  obtain ⟨c0, c1, c2, c3, c4, c5⟩ := st_cells hrow
  have hmn : min (most : Int) ((S.next : Int) - (S.off : Int)) = (n : Int) := by omega
  have hwr : IntKind.i64.wrap ((S.next : Int) - (S.off : Int)) = (S.next : Int) - (S.off : Int) := by rw [IntKind.wrap_i64]; omega
  have hn1 : n ≤ 100000 := by omega
  have HB := Lib.hid hb
  have HD := Lib.hid hd
  have hn2 : S.off + n ≤ 100000 := by omega
  clear h h1 hrow l6 hb hd hn
  go_enter Try.func29, Try.ntmps29
  go_upto_region 3 with fail
  go_quiet (fail)
  generalize hw3 : World.drewN _ _ = w3
  have H3 := Lib.hid (show Held F Z W (stThs p S b ++ ts) w3 by rw [← hw3]; exact H1.out.drewN _)
  clear hw3 H1 c0 c1 c2 c3 c4 c5 hwr hmn
  go_wp2_with (at_make; refine wpList_mk0 (E := eU8) slB rfl _ _ rfl n rfl rfl (by omega) (by unfold maxLen; omega) ?_; intro w4 hb4 hs4; have H4 := Lib.hid (H3.out.add hb4 (T := tSq eU8 5 (.slice (some ⟨w3.heap.size, 0, none⟩) 0 n) []) hs4))
  clear hb4 hs4
  go_loopw [6, 27] (fun x y wr => ∃ (i : Nat) (a : Option Addr) (c : Nat), i ≤ n ∧ x = .slice a i c ∧ y = .int .i64 (i : Int) ∧ Hid (Held F Z W (tSq eU8 5 (.slice a i c) (d.take i) :: tBlk p (stRow (S.read i) b) :: tMap mU8 b S.n (S.read i).m :: ts) wr)) (fun _ y _ => n - (intOf y).toNat)
  case atStart => exact ⟨0, _, _, Nat.zero_le _, rfl, rfl, Lib.hid (by rw [St.read_zero]; exact H4.out.front)⟩
  case round =>
    obtain ⟨i, sa, sc, hi, rfl, rfl, HH⟩ := hrel
    by_cases hlt : i < n
    · obtain ⟨x, hx⟩ : ∃ x, d[i]? = some x := ⟨d[i]'(by have := HD.out; omega), List.getElem?_eq_getElem (by have := HD.out; omega)⟩
      have hm : (S.read i).m ((S.off : Int) + (i : Int)) = some x := by
        unfold St.read
        dsimp only
        rw [if_neg (by omega)]
        exact HB.out i x hx
      have hrow := HH.out.blk 1 rfl
      obtain ⟨c0, c1, c2, c3, c4, c5⟩ := st_cells hrow
      have hup := blk_free hrow
      have c1' : wr.cell? ⟨p, 1, none⟩ = some (.int .i64 ((S.off : Int) + (i : Int))) := c1
      have HF := Lib.hid (show ∀ w' : World, Held F Z W (tBlk p (stRow (S.read i) b) :: tMap mU8 b S.n (S.read i).m :: ts) w' → w'.cell? ⟨p, 3, none⟩ = some (.map (some b)) ∧ w'.cell? ⟨p, 1, none⟩ = some (.int .i64 ((S.off : Int) + (i : Int))) ∧ (Instr.lookup 105 (.map (some b)) (.int .i64 ((S.off : Int) + (i : Int))) false).run Try.prog w' = .ok (.int .u8 (U x)) w' from fun w' hw' => by
        obtain ⟨c0, c1, c2, c3, c4, c5⟩ := st_cells (hw'.blk 0 rfl)
        refine ⟨c3, c1, ?_⟩
        have q := hw'.mapLook1 1 rfl Try.underlying105 (zv := .int .u8 0) (z0 := 0) (zU8 w') rfl trivial (k := (S.off : Int) + (i : Int)) (by simp [Lit.wf, IntKind.min, IntKind.max, IntKind.signed, IntKind.bits]; omega)
        rw [hm] at q
        exact q)
      have HX := Lib.hid hx
      clear hm hx c0 c1 c2 c3 c4 c5 hrow hup
      go_upto_region 7 with fail
      have hS0 := HH.out.drew.tail
      refine wp_region_held_drew (S := Held F Z W (tBlk p (stRow (S.read i) b) :: tMap mU8 b S.n (S.read i).m :: ts)) (by kernel_rfl) hS0 (fun hS0 => ?_)
      change wpAnyH _ _ _ _ _ (3 + 10) _ _ _
      refine wpAnyH_take_n 0 10 (by kernel_rfl) hS0 (fun _ _ _ _ _ h => h) ?_
      simp only [List.drop_zero, List.take_succ_cons, List.take_zero]
      iterate 10 (refine wpFirst_val (v := ?_) (by rfl) ?_ ?_; rotate_left 1; (focus ((intro w' hS'; obtain ⟨e0, e1, e2⟩ := HF.out w' hS'; go_simp); try with_reducible rfl)); simp only [Act.put, List.setIfInBounds_toArray, List.set_cons_zero, List.set_cons_succ])
      refine wpFirst_nil ?_
      refine wpAnyH_one 10 (by kernel_rfl) rfl (fun K hK => ?_)
      go_simp
      refine hK.out _ _ (show Held F Z W (tBlk p (stRow (S.read i) b) :: tMap mU8 b S.n (S.read i).m :: ts) _ from hS0.alloc _) ?_
      clear hK K
      refine wpAnyH_one 11 (by kernel_rfl) rfl (fun K hK => ?_)
      refine step_appE (E := eU8) slB (by decide) rfl _ _ rfl (HH.out.drew.alloc _) 0 rfl (by rw [List.length_take]; omega) rfl _ [x] (by show 1 ≤ 100000; decide) [.int .u8 (U x)] rfl (rd_one _ _ _ _ rfl) (by intro u hu; obtain rfl := List.mem_singleton.1 hu; rfl) (fun Y _ => ⟨fun _ => False, fun _ f => f.elim, els_cu [x]⟩) ?_
      intro a' c' w5 h5
      have ex : d.take i ++ [x] = d.take (i + 1) := by rw [List.take_add_one, HX.out]; rfl
      have el : (d.take (i + 1)).length = i + 1 := by rw [List.length_take]; have := HD.out; omega
      rw [ex, el] at h5
      rw [ex, el]
      have H5 := Lib.hid (show Held F Z W (tSq eU8 5 (.slice a' (i + 1) c') (d.take (i + 1)) :: tBlk p (stRow (S.read i) b) :: tMap mU8 b S.n (S.read i).m :: ts) w5 from h5)
      clear h5 hS0 ex el HH
      refine hK.out _ _ H5.out.tail ?_
      clear hK K
      change wpAnyH _ _ _ _ _ (0 + 1) _ _ _
      refine wpAnyH_take_n 12 1 (by kernel_rfl) H5.out.tail (fun _ _ _ _ _ h => h) ?_
      simp only [List.drop_succ_cons, List.drop_zero, List.take_succ_cons, List.take_zero]
      (refine wpFirst_val (v := ?_) (by rfl) ?_ ?_; rotate_left 1; (focus ((intro w' hS'; go_simp); try with_reducible rfl)); simp only [Act.put, List.setIfInBounds_toArray, List.set_cons_zero, List.set_cons_succ])
      refine wpFirst_nil ?_
      refine wpAnyH_done (by kernel_rfl) ?_ _
      have hrow := H5.out.blk 1 rfl
      obtain ⟨c0, c1, c2, c3, c4, c5⟩ := st_cells hrow
      have c1' : w5.cell? ⟨p, 1, none⟩ = some (.int .i64 ((S.off : Int) + (i : Int))) := c1
      clear c1 hrow
      go_wp2_with fail
      refine wp_region_still_tail 8 (by kernel_rfl) (by kernel_rfl) ?_
      simp only [List.take_succ_cons, List.take_zero, List.drop_succ_cons, List.drop_zero]
      change wpStill _ _ (World.drew _) (fun a' => wpList _ _ _ _ a' (World.drew _)) _ _
      repeat still_step
      refine wpStill_nil ?_
      refine wpList_mdel rfl _ _ 105 rfl 5 Try.underlying105 H5.out.drew 2 rfl ((S.off : Int) + (i : Int)) rfl rfl (by simp [Lit.wf, IntKind.min, IntKind.max, IntKind.signed, IntKind.bits]; omega) ?_
      intro w6 h6 _
      have H6 := Lib.hid (show Held F Z W (tSq eU8 5 (.slice a' (i + 1) c') (d.take (i + 1)) :: tBlk p (stRow (S.read i) b) :: tMap mU8 b S.n (S.read (i + 1)).m :: ts) w6 by
        rw [← St.read_next S i]; exact h6)
      clear h6 H5 c0 c1' c2 c3 c4 c5
      have hrow := H6.out.blk 1 rfl
      obtain ⟨c0, c1, c2, c3, c4, c5⟩ := st_cells hrow
      have c1' : w6.cell? ⟨p, 1, none⟩ = some (.int .i64 ((S.off : Int) + (i : Int))) := c1
      have hup := blk_free hrow
      clear c1 hrow
      go_wp2_with fail
      have H7 := Lib.hid (show Held F Z W (tSq eU8 5 (.slice a' (i + 1) c') (d.take (i + 1)) :: tBlk p (stRow (S.read (i + 1)) b) :: tMap mU8 b S.n (S.read (i + 1)).m :: ts) (w6.setCell ⟨p, 1, none⟩ (.int .i64 ((S.off : Int) + (i : Int) + 1))) from
        H6.out.set 1 rfl (stRow (S.read (i + 1)) b) ((Fr.refl (fun k => k = p) w6).setCell (p := ⟨p, 1, none⟩) (.inl rfl) _) (by have hr := H6.out.blk 1 rfl; rw [show stRow (S.read (i + 1)) b = .cells #[.int .i64 (S.win : Int), .int .i64 ((S.off : Int) + (i : Int) + 1), .int .i64 (S.next : Int), .map (some b), .int .i64 (S.fin : Int), .bool S.known] 107 by simp [St.read]; omega]; (apply row_trans; focus (repeat (first | (with_reducible exact hr) | (with_reducible apply row_set) | (with_reducible apply row_drewN) | (with_reducible apply row_drew) | (with_reducible apply row_alloc) | (apply row_set_other (by first | omega | (simp <;> omega)))))); rfl))
      go_roundw
      case rel => exact ⟨i + 1, a', c', by omega, rfl, by go_num, H7⟩
      case measure => simp only [intOf]; omega
    · obtain rfl : i = n := by omega
      have HE := Lib.hid (show Held F Z W (tSq eU8 5 (.slice sa d.length sc) d :: tBlk p (stRow (S.read i) b) :: tMap mU8 b S.n (S.read i).m :: ts) wr by
        have := HH.out
        rw [List.take_of_length_le (by have := HD.out; omega)] at this
        rw [HD.out]; exact this)
      clear HH
      go_wp2_with fail
      go_ret
      refine ⟨sa, sc, by rw [HD.out]; rfl, ?_⟩
      have := HE.out.rear
      exact Held.shut (f := stThs p (S.read i)) (i := b) this
end
end Go.Proofs.Ytbibippdafnenaa
