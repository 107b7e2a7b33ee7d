/- A port in memory: begin (a new session): the walk. -/
import Derived.Test.YtcocnfbhileheaaPorS
import Derived.StillTailTactics
namespace Go.Proofs.Ytcocnfbhileheaa
open Go.RowKit

theorem Held.adds0 {F Z : BS} {W w : World} {ts : List Th} {α : Type} {E : El α} {T : TypeId} (h : Held F Z W ts w) : Held F Z W (tSq E T (.slice none 0 0) [] :: ts) w :=
  (h.add (Below.refl _ _) (T := tSq E T (.slice none 0 0) []) (Sq.nil _ _ _ _ _)).front
set_option maxRecDepth 100000 in
set_option maxHeartbeats 16000000 in
theorem begin_h {F Z : BS} {W w : World} {ts : List Th} {p N : Nat} {a : Prt} {x : PV} {v10 v11 v12 v13 : Value} (hok : a.Beg N) (hN : N ≤ 1000000000) (peer : Nat) (h : Held F Z W (begThs p a x v10 v11 v12 v13 ++ ts) w) :
    Calls Try.prog 42 #[.pointer (some ⟨p, 0, none⟩), .int .i64 (peer : Int)] w (BegPost F Z W ts p a x peer) := by
  obtain ⟨rv, sp, ap, wv, bv, snp, rcp, tkp, gvp, bsv, kv, acv, rev, tav⟩ := x
  have n1 := hok.n1; have n4 := hok.n4; have wl := hok.wl; have bl := hok.bl; have sl := hok.sl; have hkl := hok.kl
  obtain ⟨_, _, hr⟩ := h.get 1 rfl
  obtain ⟨rb, ro, rc, e1, _, _⟩ := sq_some (show Sq eNat 3 w _ _ rv a.rooms from hr) n1
  obtain ⟨_, _, hwt⟩ := h.get 2 rfl
  obtain ⟨wb, wo, wk, e2, w1', _⟩ := sq_some (show Sq (eSq eBy 31) 48 w _ _ wv a.waiting from hwt) (by omega)
  obtain ⟨_, _, hbf⟩ := h.get 3 rfl
  obtain ⟨bb, bo, bc, e3, b1', _⟩ := sq_some (show Sq (eSq eBy 31) 48 w _ _ bv a.buffer from hbf) (by omega)
  obtain ⟨_, _, hbs⟩ := h.get 4 rfl
  obtain ⟨sb, so, sc, e4, s1', _⟩ := sq_some (show Sq eNat 3 w _ _ bsv a.base from hbs) (by omega)
  obtain ⟨_, _, hkp⟩ := h.get 5 rfl
  obtain ⟨ka, kc, e5, hk1, hk2, hk3⟩ := Sq.le (show Sq eKept 134 w _ _ kv a.kept from hkp)
  subst e1 e2 e3 e4 e5
  clear hr hwt hbf hbs hkp
  have HOK := Lib.hid hok
  have HWL := Lib.hid wl; have HBL := Lib.hid bl; have HSL := Lib.hid sl; have HKL := Lib.hid hkl
  have HH := Lib.hid h
  have hrow := h.blk 0 rfl
  have c7 := (portG_cells hrow).2.2.2.1
  dsimp only at c7
  rw [wl] at c7
  unfold maxLen at hk2
  clear hrow h hok
  go_enter Try.func42, Try.ntmps42
  go_upto_block 0 with fail
  go_cut [] from 4 (fun wx => Hid (Held F Z W (begThs p { a with waiting := waitTo a a.waiting.length } ⟨.slice (some ⟨rb, ro, none⟩) a.rooms.length rc, sp, ap, .slice (some ⟨wb, wo, none⟩) a.waiting.length wk, .slice (some ⟨bb, bo, none⟩) a.buffer.length bc, snp, rcp, tkp, gvp, .slice (some ⟨sb, so, none⟩) a.base.length sc, .slice ka a.kept.length kc, acv, rev, tav⟩ v10 v11 v12 v13 ++ ts) wx))
  case first =>
    go_wp2_with fail
    go_loopw [15] (fun i wr => ∃ j : Nat, j ≤ a.rooms.length ∧ i = .int .i64 (j : Int) ∧ Hid (Held F Z W (begThs p { a with waiting := waitTo a j } ⟨.slice (some ⟨rb, ro, none⟩) a.rooms.length rc, sp, ap, .slice (some ⟨wb, wo, none⟩) a.waiting.length wk, .slice (some ⟨bb, bo, none⟩) a.buffer.length bc, snp, rcp, tkp, gvp, .slice (some ⟨sb, so, none⟩) a.base.length sc, .slice ka a.kept.length kc, acv, rev, tav⟩ v10 v11 v12 v13 ++ ts) wr)) (fun i _ => a.rooms.length - (intOf i).toNat)
    case atStart => exact ⟨0, Nat.zero_le _, rfl, Lib.hid (by rw [waitTo_zero]; exact HH.out)⟩
    case round =>
      clear HH c7
      obtain ⟨j, hj, rfl, HJ⟩ := hrel
      by_cases hlt : j < a.rooms.length
      · have hrow := HJ.out.blk 0 rfl
        have c15 := (portG_cells hrow).2.2.2.2.2.2.2.2.2.2.2
        dsimp only at c15
        clear hrow
        go_upto_block 2 with fail
        have HN := Lib.hid (show Held F Z W (tSq eBy 31 (.slice none 0 0) [] :: (begThs p { a with waiting := waitTo a j } ⟨.slice (some ⟨rb, ro, none⟩) a.rooms.length rc, sp, ap, .slice (some ⟨wb, wo, none⟩) a.waiting.length wk, .slice (some ⟨bb, bo, none⟩) a.buffer.length bc, snp, rcp, tkp, gvp, .slice (some ⟨sb, so, none⟩) a.base.length sc, .slice ka a.kept.length kc, acv, rev, tav⟩ v10 v11 v12 v13 ++ ts)) wr from HJ.out.adds0)
        go_cut [5, 7, 15] from 15 to 52 (fun u5 u7 u15 wy => u15 = .int .i64 (j : Int) ∧ ∃ (a5 : Option Addr) (c5 : Nat), u5 = .slice a5 (again a.kept j).length c5 ∧ Hid (Held F Z W (tSq eBy 31 (.slice a5 (again a.kept j).length c5) (again a.kept j) :: (begThs p { a with waiting := waitTo a j } ⟨.slice (some ⟨rb, ro, none⟩) a.rooms.length rc, sp, ap, .slice (some ⟨wb, wo, none⟩) a.waiting.length wk, .slice (some ⟨bb, bo, none⟩) a.buffer.length bc, snp, rcp, tkp, gvp, .slice (some ⟨sb, so, none⟩) a.base.length sc, .slice ka a.kept.length kc, acv, rev, tav⟩ v10 v11 v12 v13 ++ ts)) wy))
        case first =>
          go_wp2_with fail
          go_loopw [23, 5, 7] (fun i u5 _ wy => ∃ (k : Nat) (a5 : Option Addr) (c5 : Nat), k ≤ a.kept.length ∧ i = .int .i64 (k : Int) ∧ u5 = .slice a5 (again (a.kept.take k) j).length c5 ∧ Hid (Held F Z W (tSq eBy 31 (.slice a5 (again (a.kept.take k) j).length c5) (again (a.kept.take k) j) :: (begThs p { a with waiting := waitTo a j } ⟨.slice (some ⟨rb, ro, none⟩) a.rooms.length rc, sp, ap, .slice (some ⟨wb, wo, none⟩) a.waiting.length wk, .slice (some ⟨bb, bo, none⟩) a.buffer.length bc, snp, rcp, tkp, gvp, .slice (some ⟨sb, so, none⟩) a.base.length sc, .slice ka a.kept.length kc, acv, rev, tav⟩ v10 v11 v12 v13 ++ ts)) wy)) (fun i _ _ _ => a.kept.length - (intOf i).toNat)
          case atStart => exact ⟨0, none, 0, Nat.zero_le _, rfl, rfl, HN⟩
          case round =>
            clear HN c15
            obtain ⟨k, a5, c5, hk, rfl, rfl, HK⟩ := hrel
            by_cases hlk : k < a.kept.length
            · obtain ⟨⟨fc, fd⟩, hx⟩ : ∃ f, a.kept[k]? = some f := ⟨_, List.getElem?_eq_getElem hlk⟩
              have hsn := again_snoc (c := j) hx
              have hal := again_le (a.kept.take k) j
              rw [List.length_take, Nat.min_eq_left hk] at hal
              obtain ⟨_, _, hkp⟩ := HK.out.get 6 rfl
              obtain ⟨kb, ko, kcc, e5, _, _⟩ := sq_some (show Sq eKept 134 wr _ _ (.slice ka a.kept.length kc) a.kept from hkp) (by omega)
              obtain ⟨rfl, rfl⟩ : ka = some ⟨kb, ko, none⟩ ∧ kc = kcc := by simpa using e5
              obtain ⟨v, k0, k1, hby⟩ := kept_at hkp hx
              obtain ⟨va, vc, rfl⟩ := hby.slice
              obtain ⟨ys, hys⟩ : ∃ ys, ys = again (a.kept.take k) j := ⟨_, rfl⟩
              rw [← hys] at HK hal hsn
              have HYS := Lib.hid hys
              have HX := Lib.hid hx
              have HSN := Lib.hid hsn
              rw [← hys]
              clear hkp hby e5 hys hx hsn
              by_cases hfj : fc = j
              · subst hfj
                have hbox := below_alloc wr (.cells #[.int .i64 (fc : Int), .slice va fd.length vc] 134)
                obtain ⟨Kx, us, Yx, hsl, _, hoth, hback⟩ := HK.out.appY 0 rfl
                have hby2 : ByZ wr Yx (.slice va fd.length vc) fd := by
                  obtain ⟨H, _, hh⟩ := hoth 6 _ (by decide) rfl
                  obtain ⟨v', _, e, hb⟩ := kept_at (show Sq eKept 134 wr H Yx (.slice (some ⟨kb, ko, none⟩) a.kept.length kc) a.kept from hh) HX.out
                  rw [k1] at e
                  cases e
                  exact hb
                have HARM := Lib.hid (fun (v2 : Value) (w2 : World) (w1 : World) (hb : Below wr.heap.size wr w1) (hsl2 : Sl w2 (fun k => Kx k ∨ w1.heap.size ≤ k) 31 1 v2 (ys.length + 1) (us ++ [.slice va fd.length vc])) (hfr2 : Fr Kx w1 w2) =>
                  show ∃ a2 c2, v2 = .slice a2 (ys.length + 1) c2 ∧ Hid (Held F Z W (tSq eBy 31 (.slice a2 (ys.length + 1) c2) (ys ++ [fd]) :: (begThs p { a with waiting := waitTo a fc } ⟨.slice (some ⟨rb, ro, none⟩) a.rooms.length rc, sp, ap, .slice (some ⟨wb, wo, none⟩) a.waiting.length wk, .slice (some ⟨bb, bo, none⟩) a.buffer.length bc, snp, rcp, tkp, gvp, .slice (some ⟨sb, so, none⟩) a.base.length sc, .slice (some ⟨kb, ko, none⟩) a.kept.length kc, acv, rev, tav⟩ v10 v11 v12 v13 ++ ts)) w2) from by
                    obtain ⟨a2, c2, rfl⟩ := hsl2.shape
                    exact ⟨a2, c2, rfl, Lib.hid (hback _ _ [.slice va fd.length vc] [fd] _ hb hsl2 hfr2 ⟨fun _ => False, Yx, fun _ f => f.elim, fun _ y => .inl y, fun _ f => f.elim, Els.single (E := eBy) ⟨_, rfl, hby2.below hb⟩⟩)⟩)
                have HSL := Lib.hid hsl
                clear hsl hoth hback hby2 hbox
                go_wp2_with (at_builtin; refine wpList_apps slBB rfl _ _ rfl Kx (.slice a5 ys.length c5) ys.length us rfl ((HSL.out.alloc _).alloc _) _ 1 [.slice va fd.length vc] rfl (rd_one _ _ _ _ (by simp)) (by intro u hu; simp at hu; subst hu; rfl) (by unfold maxLen; omega) (by omega) ?_; intro v2 w2 hsl2 hfr2; obtain ⟨a2, c2, rfl, HS2⟩ := HARM.out v2 w2 _ ((below_alloc wr _).trans ((below_alloc _ _).mono (by simp))) hsl2 hfr2; clear hsl2 hfr2)
                go_roundw
                case rel =>
                  have e : again (a.kept.take (k + 1)) fc = ys ++ [fd] := by rw [HSN.out, if_pos (by simp)]
                  exact ⟨k + 1, a2, c2, by omega, by go_num, by rw [e, List.length_append]; rfl, by rw [e, List.length_append]; exact HS2⟩
                case measure => simp [intOf]; omega
              · have hne : ((fc : Int) == (j : Int)) = false := by rw [beq_eq_false_iff_ne]; omega
                have HNE := Lib.hid hfj
                clear hfj
                go_wp2_with fail
                go_roundw
                case rel =>
                  have e : again (a.kept.take (k + 1)) j = ys := by rw [HSN.out, if_neg (by simpa using HNE.out), List.append_nil]
                  exact ⟨k + 1, a5, c5, by omega, by go_num, by rw [e], by rw [e]; exact Lib.hid (HK.out.alloc _)⟩
                case measure => simp [intOf]; omega
            · obtain rfl : a.kept.length = k := by omega
              rw [List.take_length] at HK ⊢
              go_wp2_with fail
              go_meet
              exact ⟨rfl, a5, c5, rfl, HK⟩
        case rest =>
          obtain ⟨rfl, a5, c5, rfl, HA⟩ := hcut
          have hag := again_le a.kept j
          obtain ⟨ys, hys⟩ : ∃ ys, ys = again a.kept j := ⟨_, rfl⟩
          have HYS := Lib.hid hys
          rw [← hys] at HA hag ⊢
          clear hys c15 HN
          have hrow := HA.out.blk 1 rfl
          have c7 := (portG_cells hrow).2.2.2.1
          dsimp only at c7
          rw [HWL.out] at c7
          go_upto_region 10 with fail
          obtain ⟨vcw, hvc, hout⟩ := HA.out.out 3 rfl (waitTo_get (p := a) (j := j) (by rw [HWL.out]; exact hlt))
          obtain ⟨_, _, hsq⟩ := hout.front.get 0 rfl
          obtain ⟨xa, xc, e9, hx1, hx2, _⟩ := Sq.le hsq
          subst e9
          have hxl := HOK.out.wln _ (List.mem_of_getElem? (getD_of (d := []) (show j < a.waiting.length by rw [HWL.out]; exact hlt)))
          obtain ⟨xs, hxs⟩ : ∃ xs, xs = a.waiting.getD j [] := ⟨_, rfl⟩
          have HXS := Lib.hid hxs
          rw [← hxs] at hvc hxl hx1 hout
          have hpb : p ≠ wb := hout.front.apart 2 4 (by decide) rfl rfl (fun _ _ h => h.2) fun _ _ h => (Sq.free (show Sq _ _ _ _ _ _ _ from h)).2.1
          have hfz : ∀ k, wc.frozen? ⟨wb, k, none⟩ = false := by
            obtain ⟨_, _, hh⟩ := hout.front.get 4 rfl
            exact (Sq.free (show Sq _ _ _ _ _ (.slice (some ⟨wb, wo, none⟩) a.waiting.length wk) _ from hh)).2.2.2
          obtain ⟨Kx, us, Yx, hsl, hKn, hoth, hback⟩ := hout.front.appY 1 rfl
          have hKp : ¬ Kx p := hKn p 2 _ (by decide) rfl fun H Y h => .inl h.2
          have hKb : ¬ Kx wb := hKn wb 4 _ (by decide) rfl fun H Y h => .inl (Sq.free (show Sq _ _ _ H Y _ _ from h)).2.1
          obtain ⟨Hx, _, K', D', us', _, _, _, hsl', hel'⟩ := hoth 0 _ (by decide) rfl
          have hp1 : p < wc.heap.size := World.block_lt_of_cell? wc _ c7
          have hl1 : wb < wc.heap.size := World.block_lt_of_cell? wc _ hvc
          have HARM := Lib.hid (fun (v2 : Value) (w2 : World) (hsl2 : Sl w2 (fun k => Kx k ∨ wc.drew.heap.size ≤ k) 31 1 v2 (ys.length + xs.length) (us ++ us')) (hfr2 : Fr Kx wc.drew w2) =>
            show ∃ a2 c2, v2 = .slice a2 (ys.length + xs.length) c2 ∧ w2.cell? ⟨p, 7, none⟩ = some (.slice (some ⟨wb, wo, none⟩) a.rooms.length wk) ∧ w2.cell? ⟨wb, wo + j, none⟩ = some (.slice xa xs.length xc) ∧ (∀ k, w2.frozen? ⟨wb, k, none⟩ = false) ∧ Hid (Held F Z W (begThs p { a with waiting := waitTo a (j + 1) } ⟨.slice (some ⟨rb, ro, none⟩) a.rooms.length rc, sp, ap, .slice (some ⟨wb, wo, none⟩) a.waiting.length wk, .slice (some ⟨bb, bo, none⟩) a.buffer.length bc, snp, rcp, tkp, gvp, .slice (some ⟨sb, so, none⟩) a.base.length sc, .slice ka a.kept.length kc, acv, rev, tav⟩ v10 v11 v12 v13 ++ ts) (w2.setCell ⟨wb, wo + j, none⟩ (.slice a2 (ys.length + xs.length) c2))) from by
              obtain ⟨a2, c2, rfl⟩ := hsl2.shape
              have hb := below_drew wc 1
              have h1 := hback wc.drew w2 us' xs _ hb hsl2 hfr2 ⟨fun _ => False, Yx, fun _ f => f.elim, fun _ y => .inl y, fun _ f => f.elim, els_by (hel'.later hb)⟩
              have h2 := Held.back (c := j) (yss := waitTo a (j + 1)) (Held.rear (Held.tail h1)) 2 rfl (by rw [List.length_set, List.length_map, waitTo_length, HWL.out]; exact hlt) (by rw [set_gap, HYS.out, HXS.out, waitTo_set])
              exact ⟨a2, c2, rfl, (World.cell?_of_block (hfr2.block p hp1 hKp)).trans c7, (World.cell?_of_block (hfr2.block wb hl1 hKb)).trans hvc, fun k => (World.frozen?_of_block (hfr2.block wb hl1 hKb)).trans (hfz k), Lib.hid h2⟩)
          have HSL := Lib.hid hsl
          have HRD := Lib.hid hsl'.rd
          have HONE := Lib.hid hel'.one
          clear hsl hKn hoth hback hsl' hel' hsq hout hKp hKb hx1 hxs hp1 hl1 HA
          refine wp_region_held_drew (S := fun w' => w'.cell? ⟨p, 7, none⟩ = some (.slice (some ⟨wb, wo, none⟩) a.rooms.length wk)) (by kernel_rfl) c7 (fun hS0 => ?_)
          change wpAnyH _ _ _ _ _ (4 + 12) _ _ _
          refine wpAnyH_take_n 0 12 (by kernel_rfl) hS0 (fun _ _ _ _ _ h => h) ?_
          simp only [List.drop_zero, List.take_succ_cons, List.take_zero]
          iterate 12 (refine wpFirst_val (v := ?_) (by rfl) ?_ ?_; rotate_left 1; (focus ((intro w' hS'; go_simp); try with_reducible rfl)); simp only [Act.put, List.setIfInBounds_toArray, List.set_cons_zero, List.set_cons_succ])
          refine wpFirst_nil ?_
          refine wpAnyH_one 12 (by kernel_rfl) rfl (fun K hK => ?_)
          go_simp
          refine hK.out _ _ c7 ?_
          clear hK K
          refine wpAnyH_one 13 (by kernel_rfl) rfl (fun K hK => ?_)
          refine step_app_sl slBB rfl _ _ rfl Kx (.slice a5 ys.length c5) ys.length us rfl HSL.out.drew (.slice xa xs.length xc) xs.length us' rfl (HRD.out.keep fun _ _ _ => rfl) HONE.out (by unfold maxLen; omega) (by omega) ?_
          intro v2 w2 hsl2 hfr2
          obtain ⟨a2, c2, rfl, kp, k0, kf, HS2⟩ := HARM.out v2 w2 hsl2 hfr2
          clear hsl2 hfr2
          refine hK.out _ _ kp ?_
          clear hK K
          simp only [Act.put, List.setIfInBounds_toArray, List.set_cons_zero, List.set_cons_succ]
          refine wpAnyH_one 14 (by kernel_rfl) rfl (fun K hK => ?_)
          go_simp
          refine hK.out _ _ kp ?_
          clear hK K
          refine wpAnyH_one 15 (by kernel_rfl) rfl (fun K hK => ?_)
          go_simp
          refine hK.out _ _ (cell_ne hpb kp) ?_
          clear hK K
          refine wpAnyH_done (by kernel_rfl) ?_ _
          go_wp2_with fail
          go_roundw
          case rel => exact ⟨j + 1, by omega, by go_num, HS2⟩
          case measure => simp [intOf]; omega
      · obtain rfl : a.rooms.length = j := by omega
        go_wp2_with fail
        go_meet
        rw [show waitTo a a.waiting.length = waitTo a a.rooms.length by rw [HWL.out]]
        exact HJ
  case rest =>
    clear HH c7
    have hrow := hcut.out.blk 0 rfl
    have hp1 := lt_of_block hrow
    have c15 := (portG_cells hrow).2.2.2.2.2.2.2.2.2.2.2
    have c9 := (portG_cells hrow).2.2.2.2.2.1
    have cf := fun i => blk_free hrow i
    have h1 := hcut.out.set 0 rfl (portRowG { a with waiting := waitTo a a.waiting.length, peer := peer, kept := [] } ⟨.slice (some ⟨rb, ro, none⟩) a.rooms.length rc, sp, ap, .slice (some ⟨wb, wo, none⟩) a.waiting.length wk, .slice (some ⟨bb, bo, none⟩) a.buffer.length bc, snp, rcp, tkp, gvp, .slice (some ⟨sb, so, none⟩) a.base.length sc, .slice none 0 0, acv, rev, tav⟩ v10 v11 v12 v13) (w' := (wc.setCell ⟨p, 15, none⟩ (.slice none 0 0)).setCell ⟨p, 9, none⟩ (.int .i64 (peer : Int))) (by (repeat (first | (with_reducible exact Fr.refl _ _) | exact Or.inl rfl | (with_reducible refine Fr.setCell ?_ ?_ _) | (with_reducible refine Fr.drewN ?_ _) | (with_reducible refine Fr.drew ?_)))) (by (apply row_trans; focus (repeat (first | (with_reducible exact hrow) | (with_reducible apply row_set) | (with_reducible apply row_drewN) | (with_reducible apply row_drew)))); rfl)
    have H1 := Lib.hid (show Held F Z W (begThs p { a with waiting := waitTo a a.waiting.length, peer := peer, kept := [] } ⟨.slice (some ⟨rb, ro, none⟩) a.rooms.length rc, sp, ap, .slice (some ⟨wb, wo, none⟩) a.waiting.length wk, .slice (some ⟨bb, bo, none⟩) a.buffer.length bc, snp, rcp, tkp, gvp, .slice (some ⟨sb, so, none⟩) a.base.length sc, .slice none 0 0, acv, rev, tav⟩ v10 v11 v12 v13 ++ ts) ((wc.setCell ⟨p, 15, none⟩ (.slice none 0 0)).setCell ⟨p, 9, none⟩ (.int .i64 (peer : Int))) from
      h1.upd 5 rfl (T' := tSq eKept 134 (.slice none 0 0) []) fun G Y _ _ => ⟨Sq.nil _ _ _ _ _, Fr.refl _ _⟩)
    clear h1 hrow
    go_upto_region 14 with fail
    generalize hw1 : (wc.setCell ⟨p, 15, none⟩ (.slice none 0 0)).setCell ⟨p, 9, none⟩ (.int .i64 (peer : Int)) = w1 at H1 ⊢
    clear hw1 c15 c9 cf hp1 hcut
    have hrow := H1.out.blk 0 rfl
    obtain ⟨c1, c2, c3, _, _, _, c10, _⟩ := portG_cells hrow
    have hp1 := lt_of_block hrow
    have cf := fun i => blk_free hrow i
    clear hrow
    refine wp_region_held_drew (S := fun w' => w'.cell? ⟨p, 2, none⟩ = some (.int .i64 (a.window : Int)) ∧ w'.cell? ⟨p, 3, none⟩ = some (.int .i64 (a.timeout : Int))) (by kernel_rfl) ⟨c2, c3⟩ (fun hS0 => ?_)
    change wpAnyH _ _ _ _ _ (7 + 11) _ _ _
    refine wpAnyH_take_n 0 11 (by kernel_rfl) hS0 (fun _ _ _ _ _ h => h) ?_
    simp only [List.drop_zero, List.take_succ_cons, List.take_zero]
    iterate 11 (refine wpFirst_val (v := ?_) (by rfl) ?_ ?_; rotate_left 1; (focus ((intro w' hS'; obtain ⟨l0, l1⟩ := hS'; go_simp); try with_reducible rfl)); simp only [Act.put, List.setIfInBounds_toArray, List.set_cons_zero, List.set_cons_succ])
    refine wpFirst_nil ?_
    refine wpAnyH_one 11 (by kernel_rfl) rfl (fun K hK => ?_)
    (refine step_call (f := ?_) (args := ?_) (by rfl) ?_ ?_; rotate_left 2; (focus (go_simp; first | (with_reducible rfl) | (refine ⟨?_, ?_⟩ <;> with_reducible rfl))); (refine (new_o a.window a.timeout w1.drew HOK.out.w1 HOK.out.w2 HOK.out.t1 HOK.out.t2).mono ?_); rintro e' w2 ⟨rfl, hsn, hb⟩)
    refine ⟨_, rfl, ?_⟩
    simp only [Act.put, List.setIfInBounds_toArray, List.set_cons_zero, List.set_cons_succ]
    have H2 := Lib.hid (H1.out.drew.add hb (T := tSnd w1.drew.heap.size (newSnd a.window a.timeout)) ((SnO.thing _ _).mono hsn fun k hk => by have hk' : k = w1.drew.heap.size := hk; omega)).front
    refine hK.out _ _ ⟨(World.cell?_of_block (hb.block p hp1)).trans c2, (World.cell?_of_block (hb.block p hp1)).trans c3⟩ ?_
    clear hK K
    have k2 := (World.cell?_of_block (hb.block p hp1)).trans c2
    have k3 := (World.cell?_of_block (hb.block p hp1)).trans c3
    clear c1 c2 c3 c10 cf hS0 hsn
    change wpAnyH _ _ _ _ _ (1 + 5) _ _ _
    refine wpAnyH_take_n 12 5 (by kernel_rfl) ⟨k2, k3⟩ (fun _ _ _ _ _ h => h) ?_
    simp only [List.drop_succ_cons, List.drop_zero, List.take_succ_cons, List.take_zero]
    iterate 5 (refine wpFirst_val (v := ?_) (by rfl) ?_ ?_; rotate_left 1; (focus ((intro w' hS'; go_simp); try with_reducible rfl)); simp only [Act.put, List.setIfInBounds_toArray, List.set_cons_zero, List.set_cons_succ])
    refine wpFirst_nil ?_
    have hr2 := H2.out.blk 1 rfl
    have k10 := (portG_cells hr2).2.2.2.2.2.2.1
    have kf := fun i => blk_free hr2 i
    obtain ⟨sq, hsq⟩ : ∃ sq, sq = w1.drew.heap.size := ⟨_, rfl⟩
    have H3 := Lib.hid (H2.out.set 1 rfl (portRowG { a with waiting := waitTo a a.waiting.length, peer := peer, kept := [] } ⟨.slice (some ⟨rb, ro, none⟩) a.rooms.length rc, sp, ap, .slice (some ⟨wb, wo, none⟩) a.waiting.length wk, .slice (some ⟨bb, bo, none⟩) a.buffer.length bc, snp, rcp, tkp, gvp, .slice (some ⟨sb, so, none⟩) a.base.length sc, .slice none 0 0, acv, rev, tav⟩ (.pointer (some ⟨w1.drew.heap.size, 0, none⟩)) v11 v12 v13) (w' := w2.setCell ⟨p, 10, none⟩ (.pointer (some ⟨w1.drew.heap.size, 0, none⟩))) (by (repeat (first | (with_reducible exact Fr.refl _ _) | exact Or.inl rfl | (with_reducible refine Fr.setCell ?_ ?_ _) | (with_reducible refine Fr.drewN ?_ _) | (with_reducible refine Fr.drew ?_)))) (by (apply row_trans; focus (repeat (first | (with_reducible exact hr2) | (with_reducible apply row_set) | (with_reducible apply row_drewN) | (with_reducible apply row_drew)))); rfl))
    obtain ⟨_, m2, m3, _⟩ := portG_cells (H3.out.blk 1 rfl)
    clear H1 H2 hb hr2
    refine wpAnyH_one 17 (by kernel_rfl) rfl (fun K hK => ?_)
    go_simp
    refine hK.out _ _ ⟨m2, m3⟩ ?_
    clear hK K k2 k3 k10 kf m2 m3
    refine wpAnyH_done (by kernel_rfl) ?_ _
    have h3 := H3.out
    clear H3
    rw [← hsq] at h3
    change Exit.then _ _ _ _ (w2.setCell ⟨p, 10, none⟩ (.pointer (some ⟨w1.drew.heap.size, 0, none⟩)))
    rw [← hsq]
    generalize w2.setCell ⟨p, 10, none⟩ (.pointer (some ⟨sq, 0, none⟩)) = w3 at h3 ⊢
    clear hsq
    have H3 := Lib.hid (show Held F Z W (tSnd sq (newSnd a.window a.timeout) :: begThs p { a with waiting := waitTo a a.waiting.length, peer := peer, kept := [] } ⟨.slice (some ⟨rb, ro, none⟩) a.rooms.length rc, sp, ap, .slice (some ⟨wb, wo, none⟩) a.waiting.length wk, .slice (some ⟨bb, bo, none⟩) a.buffer.length bc, snp, rcp, tkp, gvp, .slice (some ⟨sb, so, none⟩) a.base.length sc, .slice none 0 0, acv, rev, tav⟩ (.pointer (some ⟨sq, 0, none⟩)) v11 v12 v13 ++ ts) w3 from h3)
    clear h3
    go_upto_region 15 with fail
    go_wp2_with fail
    refine (newReceiver_ok w3).mono ?_
    rintro e' w4 ⟨rfl, hrc, hb⟩
    have H4 := Lib.hid (H3.out.add hb (T := tRcv w3.heap.size 0) ⟨hrc, Nat.le_refl _⟩).front
    have hrow := H4.out.blk 2 rfl
    have c11 := (portG_cells hrow).2.2.2.2.2.2.2.1
    have cf := fun i => blk_free hrow i
    have hp1 := lt_of_block hrow
    obtain ⟨rq, hrq⟩ : ∃ rq, rq = w3.heap.size := ⟨_, rfl⟩
    rw [← hrq] at H4 ⊢
    have h5 := H4.out.set 2 rfl (portRowG { a with waiting := waitTo a a.waiting.length, peer := peer, kept := [] } ⟨.slice (some ⟨rb, ro, none⟩) a.rooms.length rc, sp, ap, .slice (some ⟨wb, wo, none⟩) a.waiting.length wk, .slice (some ⟨bb, bo, none⟩) a.buffer.length bc, snp, rcp, tkp, gvp, .slice (some ⟨sb, so, none⟩) a.base.length sc, .slice none 0 0, acv, rev, tav⟩ (.pointer (some ⟨sq, 0, none⟩)) (.pointer (some ⟨rq, 0, none⟩)) v12 v13) (w' := w4.setCell ⟨p, 11, none⟩ (.pointer (some ⟨rq, 0, none⟩))) (by (repeat (first | (with_reducible exact Fr.refl _ _) | exact Or.inl rfl | (with_reducible refine Fr.setCell ?_ ?_ _) | (with_reducible refine Fr.drewN ?_ _) | (with_reducible refine Fr.drew ?_)))) (by (apply row_trans; focus (repeat (first | (with_reducible exact hrow) | (with_reducible apply row_set) | (with_reducible apply row_drewN) | (with_reducible apply row_drew)))); rfl)
    clear hrow hrc hb H3 hrq
    go_upto_region 16 with fail
    generalize w4.setCell ⟨p, 11, none⟩ (.pointer (some ⟨rq, 0, none⟩)) = w5 at h5 ⊢
    have H5 := Lib.hid (show Held F Z W (tRcv rq 0 :: tSnd sq (newSnd a.window a.timeout) :: begThs p { a with waiting := waitTo a a.waiting.length, peer := peer, kept := [] } ⟨.slice (some ⟨rb, ro, none⟩) a.rooms.length rc, sp, ap, .slice (some ⟨wb, wo, none⟩) a.waiting.length wk, .slice (some ⟨bb, bo, none⟩) a.buffer.length bc, snp, rcp, tkp, gvp, .slice (some ⟨sb, so, none⟩) a.base.length sc, .slice none 0 0, acv, rev, tav⟩ (.pointer (some ⟨sq, 0, none⟩)) (.pointer (some ⟨rq, 0, none⟩)) v12 v13 ++ ts) w5 from h5)
    clear h5 H4 c11 cf hp1
    have hrow := H5.out.blk 2 rfl
    have c1 := (portG_cells hrow).1
    dsimp only at c1
    clear hrow
    go_wp2_with fail
    refine (newTak_any a.rooms.length w5 n1 n4).mono ?_
    rintro e' w6 ⟨tq, rfl, hm⟩
    have H6 := Lib.hid (H5.out.made hm).front
    have hrow := H6.out.blk 3 rfl
    have c12 := (portG_cells hrow).2.2.2.2.2.2.2.2.1
    have cf := fun i => blk_free hrow i
    have hp1 := lt_of_block hrow
    have h7 := H6.out.set 3 rfl (portRowG { a with waiting := waitTo a a.waiting.length, peer := peer, kept := [] } ⟨.slice (some ⟨rb, ro, none⟩) a.rooms.length rc, sp, ap, .slice (some ⟨wb, wo, none⟩) a.waiting.length wk, .slice (some ⟨bb, bo, none⟩) a.buffer.length bc, snp, rcp, tkp, gvp, .slice (some ⟨sb, so, none⟩) a.base.length sc, .slice none 0 0, acv, rev, tav⟩ (.pointer (some ⟨sq, 0, none⟩)) (.pointer (some ⟨rq, 0, none⟩)) (.pointer (some ⟨tq, 0, none⟩)) v13) (w' := w6.setCell ⟨p, 12, none⟩ (.pointer (some ⟨tq, 0, none⟩))) (by (repeat (first | (with_reducible exact Fr.refl _ _) | exact Or.inl rfl | (with_reducible refine Fr.setCell ?_ ?_ _) | (with_reducible refine Fr.drewN ?_ _) | (with_reducible refine Fr.drew ?_)))) (by (apply row_trans; focus (repeat (first | (with_reducible exact hrow) | (with_reducible apply row_set) | (with_reducible apply row_drewN) | (with_reducible apply row_drew)))); rfl)
    clear hrow hm H5
    go_upto_region 17 with fail
    generalize w6.setCell ⟨p, 12, none⟩ (.pointer (some ⟨tq, 0, none⟩)) = w7 at h7 ⊢
    have H7 := Lib.hid (show Held F Z W (tTak tq (List.replicate a.rooms.length ⟨0, 0⟩) :: tRcv rq 0 :: tSnd sq (newSnd a.window a.timeout) :: begThs p { a with waiting := waitTo a a.waiting.length, peer := peer, kept := [] } ⟨.slice (some ⟨rb, ro, none⟩) a.rooms.length rc, sp, ap, .slice (some ⟨wb, wo, none⟩) a.waiting.length wk, .slice (some ⟨bb, bo, none⟩) a.buffer.length bc, snp, rcp, tkp, gvp, .slice (some ⟨sb, so, none⟩) a.base.length sc, .slice none 0 0, acv, rev, tav⟩ (.pointer (some ⟨sq, 0, none⟩)) (.pointer (some ⟨rq, 0, none⟩)) (.pointer (some ⟨tq, 0, none⟩)) v13 ++ ts) w7 from h7)
    clear h7 H6 c12 cf hp1 c1
    have hrow := H7.out.blk 3 rfl
    have c1 := (portG_cells hrow).1
    dsimp only at c1
    clear hrow
    go_wp2_with fail
    have hrooms : ∀ (k y : Nat), a.rooms[k]? = some y → w7.cell? ⟨rb, ro + k, none⟩ = some (.int .i64 (y : Int)) := fun k y hk => by
      obtain ⟨_, _, hr⟩ := H7.out.get 4 rfl
      exact nat_cell (show Sq eNat 3 w7 _ _ (.slice (some ⟨rb, ro, none⟩) a.rooms.length rc) a.rooms from hr) hk
    refine (newGiv_any w7 n1 n4 HOK.out.rm hrooms).mono ?_
    rintro e' w8 ⟨gq, rfl, hm⟩
    have H8 := Lib.hid (H7.out.made hm).front
    have hrow := H8.out.blk 4 rfl
    have c13 := (portG_cells hrow).2.2.2.2.2.2.2.2.2.1
    have cf := fun i => blk_free hrow i
    have hp1 := lt_of_block hrow
    have h9 := H8.out.set 4 rfl (portRowG { a with waiting := waitTo a a.waiting.length, peer := peer, kept := [] } ⟨.slice (some ⟨rb, ro, none⟩) a.rooms.length rc, sp, ap, .slice (some ⟨wb, wo, none⟩) a.waiting.length wk, .slice (some ⟨bb, bo, none⟩) a.buffer.length bc, snp, rcp, tkp, gvp, .slice (some ⟨sb, so, none⟩) a.base.length sc, .slice none 0 0, acv, rev, tav⟩ (.pointer (some ⟨sq, 0, none⟩)) (.pointer (some ⟨rq, 0, none⟩)) (.pointer (some ⟨tq, 0, none⟩)) (.pointer (some ⟨gq, 0, none⟩))) (w' := w8.setCell ⟨p, 13, none⟩ (.pointer (some ⟨gq, 0, none⟩))) (by (repeat (first | (with_reducible exact Fr.refl _ _) | exact Or.inl rfl | (with_reducible refine Fr.setCell ?_ ?_ _) | (with_reducible refine Fr.drewN ?_ _) | (with_reducible refine Fr.drew ?_)))) (by (apply row_trans; focus (repeat (first | (with_reducible exact hrow) | (with_reducible apply row_set) | (with_reducible apply row_drewN) | (with_reducible apply row_drew)))); rfl)
    clear hrow hm H7 hrooms c1
    go_upto_region 18 with fail
    generalize w8.setCell ⟨p, 13, none⟩ (.pointer (some ⟨gq, 0, none⟩)) = w9 at h9 ⊢
    have H9 := Lib.hid (show Held F Z W (tGiv gq (a.rooms.map fun r => ⟨r, 0, 0⟩) :: tTak tq (List.replicate a.rooms.length ⟨0, 0⟩) :: tRcv rq 0 :: tSnd sq (newSnd a.window a.timeout) :: begThs p { a with waiting := waitTo a a.waiting.length, peer := peer, kept := [] } ⟨.slice (some ⟨rb, ro, none⟩) a.rooms.length rc, sp, ap, .slice (some ⟨wb, wo, none⟩) a.waiting.length wk, .slice (some ⟨bb, bo, none⟩) a.buffer.length bc, snp, rcp, tkp, gvp, .slice (some ⟨sb, so, none⟩) a.base.length sc, .slice none 0 0, acv, rev, tav⟩ (.pointer (some ⟨sq, 0, none⟩)) (.pointer (some ⟨rq, 0, none⟩)) (.pointer (some ⟨tq, 0, none⟩)) (.pointer (some ⟨gq, 0, none⟩)) ++ ts) w9 from h9)
    clear h9 H8 c13 cf hp1
    have hrow := H9.out.blk 4 rfl
    have c8 := (portG_cells hrow).2.2.2.2.1
    dsimp only at c8
    rw [HBL.out] at c8
    clear hrow
    go_wp2_with fail
    go_loopw [111] (fun i wr => ∃ j : Nat, j ≤ a.rooms.length ∧ i = .int .i64 (j : Int) ∧ Hid (Held F Z W (tGiv gq (givB a j) :: tTak tq (List.replicate a.rooms.length ⟨0, 0⟩) :: tRcv rq 0 :: tSnd sq (newSnd a.window a.timeout) :: begThs p { a with waiting := waitTo a a.waiting.length, peer := peer, kept := [], base := baseB a j } ⟨.slice (some ⟨rb, ro, none⟩) a.rooms.length rc, sp, ap, .slice (some ⟨wb, wo, none⟩) a.waiting.length wk, .slice (some ⟨bb, bo, none⟩) a.buffer.length bc, snp, rcp, tkp, gvp, .slice (some ⟨sb, so, none⟩) a.base.length sc, .slice none 0 0, acv, rev, tav⟩ (.pointer (some ⟨sq, 0, none⟩)) (.pointer (some ⟨rq, 0, none⟩)) (.pointer (some ⟨tq, 0, none⟩)) (.pointer (some ⟨gq, 0, none⟩)) ++ ts) wr)) (fun i _ => a.rooms.length - (intOf i).toNat)
    case atStart => exact ⟨0, Nat.zero_le _, rfl, Lib.hid (by rw [givB_zero, baseB_zero HSL.out]; exact H9.out)⟩
    case round =>
      clear H9 c8
      obtain ⟨j, hj, rfl, HJ⟩ := hrel
      by_cases hlt : j < a.rooms.length
      · have hrow := HJ.out.blk 4 rfl
        have c14 := (portG_cells hrow).2.2.2.2.2.2.2.2.2.2.1
        have c13 := (portG_cells hrow).2.2.2.2.2.2.2.2.2.1
        dsimp only at c14
        rw [HSL.out] at c14
        obtain ⟨_, _, hbf⟩ := HJ.out.get 7 rfl
        have hx := getD_of (d := []) (show j < a.buffer.length by rw [HBL.out]; exact hlt)
        have hxl := HOK.out.bln _ (List.mem_of_getElem? hx)
        obtain ⟨v, A, hv, hsq, _⟩ := sqsq_at (show Sq (eSq eBy 31) 48 wr _ _ (.slice (some ⟨bb, bo, none⟩) a.buffer.length bc) a.buffer from hbf) hx
        obtain ⟨va, vc, rfl⟩ := hsq.shape
        obtain ⟨_, _, hbs⟩ := HJ.out.get 8 rfl
        have hsb := show Sq eNat 3 wr _ _ (.slice (some ⟨sb, so, none⟩) a.base.length sc) (baseB a j) from hbs
        have hsf := (Sq.free hsb).2.2.2
        have hbc := nat_cell hsb (upTo_get hlt)
        obtain ⟨l, hl⟩ : ∃ l, l = (a.buffer.getD j []).length := ⟨_, rfl⟩
        have HL := Lib.hid hl
        rw [← hl] at hv hxl
        have h1 := HJ.out.putN (xs := baseB a j) 8 rfl (c := j) (y := l) (u := (l : Int)) (by rw [upTo_length]; exact hlt) rfl
        have hsx : (baseB a j).set j l = baseB a (j + 1) := by rw [hl]; exact upTo_set (f := fun i => (a.buffer.getD i []).length)
        rw [hsx] at h1
        have H1 := Lib.hid (show Held F Z W (tGiv gq (givB a j) :: tTak tq (List.replicate a.rooms.length ⟨0, 0⟩) :: tRcv rq 0 :: tSnd sq (newSnd a.window a.timeout) :: begThs p { a with waiting := waitTo a a.waiting.length, peer := peer, kept := [], base := baseB a (j + 1) } ⟨.slice (some ⟨rb, ro, none⟩) a.rooms.length rc, sp, ap, .slice (some ⟨wb, wo, none⟩) a.waiting.length wk, .slice (some ⟨bb, bo, none⟩) a.buffer.length bc, snp, rcp, tkp, gvp, .slice (some ⟨sb, so, none⟩) a.base.length sc, .slice none 0 0, acv, rev, tav⟩ (.pointer (some ⟨sq, 0, none⟩)) (.pointer (some ⟨rq, 0, none⟩)) (.pointer (some ⟨tq, 0, none⟩)) (.pointer (some ⟨gq, 0, none⟩)) ++ ts) (wr.setCell ⟨sb, so + j, none⟩ (.int .i64 (l : Int))) from h1)
        clear hrow hbf hx hsq hbs hsb hl h1 hsx
        go_wp2_with fail
        go_loopw [126] (fun i wr => ∃ k : Nat, k ≤ l ∧ i = .int .i64 (k : Int) ∧ Hid (Held F Z W (tGiv gq ((givB a j).set j ⟨a.rooms.getD j 0, min k (a.rooms.getD j 0), 0⟩) :: tTak tq (List.replicate a.rooms.length ⟨0, 0⟩) :: tRcv rq 0 :: tSnd sq (newSnd a.window a.timeout) :: begThs p { a with waiting := waitTo a a.waiting.length, peer := peer, kept := [], base := baseB a (j + 1) } ⟨.slice (some ⟨rb, ro, none⟩) a.rooms.length rc, sp, ap, .slice (some ⟨wb, wo, none⟩) a.waiting.length wk, .slice (some ⟨bb, bo, none⟩) a.buffer.length bc, snp, rcp, tkp, gvp, .slice (some ⟨sb, so, none⟩) a.base.length sc, .slice none 0 0, acv, rev, tav⟩ (.pointer (some ⟨sq, 0, none⟩)) (.pointer (some ⟨rq, 0, none⟩)) (.pointer (some ⟨tq, 0, none⟩)) (.pointer (some ⟨gq, 0, none⟩)) ++ ts) wr)) (fun i _ => l - (intOf i).toNat)
        case atStart =>
          refine ⟨0, Nat.zero_le _, rfl, Lib.hid ?_⟩
          rw [Nat.zero_min, set_same' (upTo_get hlt)]
          exact H1.out
        case round =>
          clear H1 c13 c14 hsf hbc hv
          obtain ⟨k, hk, rfl, HK⟩ := hrel
          by_cases hlk : k < l
          · have c13 := (portG_cells (HK.out.blk 4 rfl)).2.2.2.2.2.2.2.2.2.1
            have hc : ((givB a j).set j ⟨a.rooms.getD j 0, min k (a.rooms.getD j 0), 0⟩)[j]? = some ⟨a.rooms.getD j 0, min k (a.rooms.getD j 0), 0⟩ := List.getElem?_set_self (by rw [upTo_length]; exact hlt)
            have hrm := HOK.out.rm _ (List.mem_of_getElem? (getD_of (d := 0) hlt))
            have HQ := Lib.hid (receiveG_h HK.out 0 rfl (by rw [List.length_set, upTo_length]; exact n4) hc (by dsimp only; omega) (by dsimp only; omega) (by dsimp only; omega))
            have HR := Lib.hid (show (Giv.receive ⟨a.rooms.getD j 0, min k (a.rooms.getD j 0), 0⟩).2 = ⟨a.rooms.getD j 0, min (k + 1) (a.rooms.getD j 0), 0⟩ by rw [← held_eq _ k, ← held_eq _ (k + 1)]; rfl)
            clear hc hrm
            go_wp2_with fail
            refine HQ.out.mono ?_
            rintro e' w' ⟨rfl, hh⟩
            have HH := Lib.hid hh
            clear hh HQ
            go_wp2_with fail
            go_roundw
            case rel =>
              refine ⟨k + 1, by omega, by go_num, Lib.hid ?_⟩
              have := HH.out
              rw [List.set_set, HR.out] at this
              exact this
            case measure => simp [intOf]; omega
          · obtain rfl : l = k := by omega
            go_wp2_with fail
            go_roundw
            case rel =>
              refine ⟨j + 1, by omega, by go_num, Lib.hid ?_⟩
              have := HK.out
              rw [HL.out, upTo_set (f := fun i => (⟨a.rooms.getD i 0, min (a.buffer.getD i []).length (a.rooms.getD i 0), 0⟩ : Giv))] at this
              exact this
            case measure => simp [intOf]; omega
      · obtain rfl : a.rooms.length = j := by omega
        go_wp2_with fail
        go_end0
        refine ⟨rfl, sq, rq, tq, gq, ?_⟩
        have h1 := HJ.out
        rw [givB_all a peer, baseB_all HBL.out peer] at h1
        have e1 : waitTo a a.waiting.length = (a.begin peer).waiting := waitTo_all a
        rw [e1] at h1
        exact Held.pickL (us := [tGiv gq (a.begin peer).giv, tTak tq (List.replicate a.rooms.length ⟨0, 0⟩), tRcv rq 0, tSnd sq (newSnd a.window a.timeout),
          tBlk p (portRow (a.begin peer) ⟨.slice (some ⟨rb, ro, none⟩) a.rooms.length rc, sp, ap, .slice (some ⟨wb, wo, none⟩) a.waiting.length wk, .slice (some ⟨bb, bo, none⟩) a.buffer.length bc, sq, rq, tq, gq, .slice (some ⟨sb, so, none⟩) a.base.length sc, .slice none 0 0, acv, rev, tav⟩), tSq eNat 3 (.slice (some ⟨rb, ro, none⟩) a.rooms.length rc) a.rooms,
          tSq (eSq eBy 31) 48 (.slice (some ⟨wb, wo, none⟩) a.waiting.length wk) (a.begin peer).waiting, tSq (eSq eBy 31) 48 (.slice (some ⟨bb, bo, none⟩) a.buffer.length bc) a.buffer, tSq eNat 3 (.slice (some ⟨sb, so, none⟩) a.base.length sc) (a.begin peer).base, tSq eKept 134 (.slice none 0 0) []]) h1 [4, 5, 6, 7, 8, 9, 3, 2, 1, 0] (by decide) rfl
end Go.Proofs.Ytcocnfbhileheaa
