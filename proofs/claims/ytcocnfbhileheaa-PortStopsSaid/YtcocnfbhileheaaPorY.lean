/- A port in memory: receive. -/
import Derived.Test.YtcocnfbhileheaaPorX
namespace Go.Proofs.Ytcocnfbhileheaa
open Go.RowKit

section
variable {F Z : BS} {W w : World} {ts : List Th} {p N : Nat} {a : Prt}
theorem rcv_h {rp k : Nat} (h : Held F Z W ts w) (i j : Nat) (hi : ts[i]? = some (tRcv rp k)) (hk : k < 1000000000000) (v : Value) (d : Bytes) (hj : ts[j]? = some (tBy v d)) (hij : j ≠ i) (hd : d.length ≤ 1048576) :
    Calls Try.prog 98 #[.pointer (some ⟨rp, 0, none⟩), .int .i64 ((k : Int) % 256), v] w fun e w' => ∃ v', e = .returned (.tuple #[v', .bool true]) ∧ Held F Z W (ts.set i (tRcv rp (k + 1)) ++ [tBy v' d]) w' := by
  obtain ⟨G, Y, hon, hdj, _, hoth, hb⟩ := h.use i hi
  obtain ⟨H, h1, h2, hby⟩ := hoth j _ hij hj
  by_cases h0 : 0 < d.length
  · refine (receive_yes rp k v d w hon.1 hk hby.1 hd fun b hb e => ?_).mono fun e w' ⟨v', he, ho, hr, hf⟩ => ⟨v', he, hb w' _ [_] ⟨hf.mono fun x hx => by subst hx; exact hon.2, fun x => (Y x ∧ x < w.heap.size) ∨ w.heap.size ≤ x, fun x hx => hx.imp (·.1) .inr, Star.two (G := fun x => x = rp) (H := fun _ => False) ⟨hr, rfl⟩ ?_ (fun _ _ f => f) (fun x hx => ⟨.inl (by have hx' : x = rp := hx; subst hx'; exact hon.2), ?_⟩) fun _ f => f.elim⟩⟩
    · subst e; exact hdj b hon.2 (hby.2 h0 b hb)
    · exact ⟨ho.by, fun _ b hb => .inr (ho.byD.2 b hb).1⟩
    · have hx' : x = rp := hx
      subst hx'
      have := lt_of_block hon.1
      rintro (⟨y, _⟩ | hl)
      · exact hdj x hon.2 y
      · omega
  · have hd0 : d = [] := List.eq_nil_of_length_eq_zero (by omega)
    subst hd0
    refine (receive_yes' rp k v [] w hon.1 hk (Rd.stay hby.1 fun h => by rw [cu_length] at h; simp at h) hd).mono fun e w' ⟨v', he, ho, hr, hf⟩ => ⟨v', he, hb w' _ [_] ⟨hf.mono fun x hx => by subst hx; exact hon.2, fun x => (Y x ∧ x < w.heap.size) ∨ w.heap.size ≤ x, fun x hx => hx.imp (·.1) .inr, Star.two (G := fun x => x = rp) (H := fun _ => False) ⟨hr, rfl⟩ ?_ (fun _ _ f => f) (fun x hx => ⟨.inl (by have hx' : x = rp := hx; subst hx'; exact hon.2), ?_⟩) fun _ f => f.elim⟩⟩
    · exact ⟨ho.by, fun _ b hb => .inr (ho.byD.2 b hb).1⟩
    · have hx' : x = rp := hx
      subst hx'
      have := lt_of_block hon.1
      rintro (⟨y, _⟩ | hl)
      · exact hdj x hon.2 y
      · omega
theorem Held.lastBlk {us : List Th} {b : Nat} {o : Obj} (h : Held F Z W (us ++ (ts ++ [tBlk b o])) w) : w.heap[b]? = some o := by
  rw [← List.append_assoc] at h
  exact h.front.blk 0 rfl
theorem get_last' {us : List Th} {B : Th} : (us ++ (ts ++ [B]))[us.length + ts.length]? = some B := by
  rw [List.getElem?_append_right (by omega), Nat.add_sub_cancel_left]; simp
theorem get_later {us : List Th} {T B : Th} {j : Nat} (hj : ts[j]? = some T) : (us ++ (ts ++ [B]))[us.length + j]? = some T := by
  rw [List.getElem?_append_right (by omega), Nat.add_sub_cancel_left, List.getElem?_append_left (lt_of_get hj), hj]
set_option maxRecDepth 100000 in
set_option maxHeartbeats 16000000 in
theorem receive_c (x : Pt) (pv : Value) (hok : a.Ok N) (hN : N ≤ 1000000000) (h : Held F Z W (tPort p a :: ts) w) (j : Nat) (hj : ts[j]? = some (tBy pv x.pay)) (hpl : x.pay.length ≤ 1000) :
    Calls Try.prog 74 #[.pointer (some ⟨p, 0, none⟩), ptV x pv] w fun e w' => e = .returned (.tuple #[]) ∧ Held F Z W (tPort p (a.receive x) :: ts) w' := by
  obtain ⟨y, hst⟩ := h.port'
  have h1 := (hst.new (ptCells x pv))
  obtain ⟨rv, sp, ap, wv, bv, snp, rcp, tkp, gvp, bsv, kv, acv, rev, tav⟩ := y
  obtain ⟨_, _, hby⟩ := h.get (j + 1) (T := tBy pv x.pay) (by simpa using hj)
  obtain ⟨pa, pc, rfl⟩ := ByZ.slice hby
  have H1 := Lib.hid (show Held F Z W (portThs p a ⟨rv, sp, ap, wv, bv, snp, rcp, tkp, gvp, bsv, kv, acv, rev, tav⟩ ++ (ts ++ [tBlk w.heap.size (ptCells x (.slice pa x.pay.length pc))])) (w.alloc (ptCells x (.slice pa x.pay.length pc))) by rw [← List.append_assoc]; exact h1)
  have hrow := h1.blk 0 rfl
  obtain ⟨_, c1, _, _, _, _, _, _, _, _, _, c11, _, c13, _⟩ := port_cells hrow
  obtain ⟨k0, k1, k2, k3, k4⟩ := pt_cells (heap_alloc_new w (ptCells x (.slice pa x.pay.length pc)))
  obtain ⟨_, _, hr⟩ := h1.get 1 rfl
  obtain ⟨rb, ro, rc, e1, _, _⟩ := sq_some (show Sq eNat 3 _ _ _ rv a.rooms from hr) hok.n1
  subst e1
  have HOK := Lib.hid hok
  have HJ := Lib.hid hj
  have n4 := hok.n4
  dsimp only at c1 c11 c13
  clear hst h1 hrow h hok hr hby hj c13 k0 k3
  go_enter Try.func74, Try.ntmps74
  go_wp2_with fail
  generalize w.alloc (ptCells x (.slice pa x.pay.length pc)) = w1 at *
  by_cases hc : 0 ≤ x.cls ∧ x.cls < a.rooms.length
  · obtain ⟨c, hcc⟩ : ∃ c : Nat, x.cls = (c : Int) := ⟨x.cls.toNat, by omega⟩
    have hcl : c < a.rooms.length := by omega
    have HHAS := Lib.hid (show a.has x.cls from hc)
    have HQ := Lib.hid (exists_yes (p := p) (w := w1) c (some ⟨rb, ro, none⟩) rc hcl c1)
    have HCC := Lib.hid hcc
    rw [hcc] at k1 ⊢
    clear hc hcc
    refine HQ.out.mono ?_
    rintro e w' ⟨rfl, rfl⟩
    clear HQ
    by_cases hn : x.number = ((a.rcv % 256 : Nat) : Int)
    · have HQ2 := Lib.hid (rcv_h H1.out.drew 7 (15 + j) rfl (by have := HOK.out.rcv; omega) (.slice pa x.pay.length pc) x.pay (get_later (us := portThs p a ⟨.slice (some ⟨rb, ro, none⟩) a.rooms.length rc, sp, ap, wv, bv, snp, rcp, tkp, gvp, bsv, kv, acv, rev, tav⟩) HJ.out) (by omega) (by omega))
      have HNM := Lib.hid hn
      have hn' : x.number = (a.rcv : Int) % 256 := by omega
      rw [hn'] at k2
      clear hn hn'
      go_wp2_with fail
      refine wp_region_held_drew (S := fun w' => w'.cell? ⟨p, 11, none⟩ = some (.pointer (some ⟨rcp, 0, none⟩)) ∧ w'.cell? ⟨w.heap.size, 2, none⟩ = some (.int .i64 ((a.rcv : Int) % 256)) ∧ w'.cell? ⟨w.heap.size, 4, none⟩ = some (.slice pa x.pay.length pc)) (by kernel_rfl) ⟨c11, k2, k4⟩ (fun hS0 => ?_)
      change wpAnyH _ _ _ _ _ (6 + 8) _ _ _
      refine wpAnyH_take_n 0 8 (by kernel_rfl) hS0 (fun _ _ _ _ _ h => h) ?_
      simp only [List.drop_zero, List.take_succ_cons, List.take_zero]
      iterate 8 (refine wpFirst_val (v := ?_) (by rfl) ?_ ?_; rotate_left 1; (focus ((intro w' hS'; obtain ⟨l0, l1, l2⟩ := hS'; go_simp); try with_reducible rfl)); simp only [Act.put, List.setIfInBounds_toArray, List.set_cons_zero, List.set_cons_succ])
      refine wpFirst_nil ?_
      refine wpAnyH_one 8 (by kernel_rfl) rfl (fun K hK => ?_)
      (refine step_call (f := ?_) (args := ?_) (by rfl) ?_ ?_; rotate_left 2; (focus (go_simp; first | (with_reducible rfl) | (refine ⟨?_, ?_⟩ <;> with_reducible rfl))); (refine (HQ2.out).mono ?_); rintro e w2 ⟨v', rfl, hh⟩)
      refine ⟨_, rfl, ?_⟩
      simp only [Act.put, List.setIfInBounds_toArray, List.set_cons_zero, List.set_cons_succ]
      obtain ⟨_, _, hby⟩ := (Held.front hh).get 0 rfl
      obtain ⟨va, vc, rfl⟩ := ByZ.slice hby
      have H2 := Lib.hid (show Held F Z W (tBy (.slice va x.pay.length vc) x.pay :: (portThs p { a with rcv := a.rcv + 1 } ⟨.slice (some ⟨rb, ro, none⟩) a.rooms.length rc, sp, ap, wv, bv, snp, rcp, tkp, gvp, bsv, kv, acv, rev, tav⟩ ++ (ts ++ [tBlk w.heap.size (ptCells x (.slice pa x.pay.length pc))]))) w2 from hh.front)
      clear hh hby HQ2 H1 c1 c11 k1 k2 k4 hS0
      have hrow := H2.out.blk 1 rfl
      have c13 := (port_cells hrow).2.2.2.2.2.2.2.2.2.2.2.2.2.1
      have c11 := (port_cells hrow).2.2.2.2.2.2.2.2.2.2.2.1
      have hp1 := lt_of_block hrow
      have hbox := H2.out.lastBlk (us := tBy (.slice va x.pay.length vc) x.pay :: portThs p { a with rcv := a.rcv + 1 } ⟨.slice (some ⟨rb, ro, none⟩) a.rooms.length rc, sp, ap, wv, bv, snp, rcp, tkp, gvp, bsv, kv, acv, rev, tav⟩)
      have k1 := (pt_cells hbox).2.1
      have k2 := (pt_cells hbox).2.2.1
      have k4 := (pt_cells hbox).2.2.2.2
      rw [HCC.out] at k1
      rw [HNM.out] at k2
      dsimp only at c13 c11
      have hSx : w2.cell? ⟨p, 11, none⟩ = some (.pointer (some ⟨rcp, 0, none⟩)) ∧ w2.cell? ⟨w.heap.size, 2, none⟩ = some (.int .i64 ((a.rcv : Int) % 256)) ∧ w2.cell? ⟨w.heap.size, 4, none⟩ = some (.slice pa x.pay.length pc) := ⟨c11, by rw [k2]; simp, k4⟩
      clear c11 k2 k4
      refine hK.out _ _ hSx ?_
      clear hK K
      change wpAnyH _ _ _ _ _ (0 + 5) _ _ _
      refine wpAnyH_take_n 9 5 (by kernel_rfl) hSx (fun _ _ _ _ _ h => h) ?_
      simp only [List.drop_succ_cons, List.drop_zero, List.take_succ_cons, List.take_zero]
      iterate 5 (refine wpFirst_val (v := ?_) (by rfl) ?_ ?_; rotate_left 1; (focus ((intro w' hS'; go_simp); try with_reducible rfl)); simp only [Act.put, List.setIfInBounds_toArray, List.set_cons_zero, List.set_cons_succ])
      refine wpFirst_nil ?_
      refine wpAnyH_done (by kernel_rfl) ?_ _
      clear hSx
      have hg := getD_of (d := (⟨0, 0, 0⟩ : Giv)) (show c < a.giv.length by rw [HOK.out.gl]; exact hcl)
      have hgb := HOK.out.giv _ (List.mem_of_getElem? hg)
      have HR := Lib.hid (receiveG_h H2.out.drew 10 rfl (by rw [HOK.out.gl]; exact n4) hg (by omega) (by omega) (by omega))
      clear hrow hbox hg hgb
      go_wp2_with fail
      refine wp_region_still_tail 6 (by kernel_rfl) (by kernel_rfl) ?_
      simp only [List.take_succ_cons, List.take_zero, List.drop_succ_cons, List.drop_zero]
      change wpStill _ _ (World.drew _) (fun a' => wpList _ _ _ _ a' (World.drew _)) _ _
      repeat still_step
      refine wpStill_nil ?_
      go_wp2_with fail
      refine HR.out.mono ?_
      rintro e w3 ⟨rfl, hh⟩
      have H3 := Lib.hid (show Held F Z W (tBy (.slice va x.pay.length vc) x.pay :: (portThs p { a with rcv := a.rcv + 1, giv := a.giv.set c (a.giv.getD c ⟨0, 0, 0⟩).receive.2 } ⟨.slice (some ⟨rb, ro, none⟩) a.rooms.length rc, sp, ap, wv, bv, snp, rcp, tkp, gvp, bsv, kv, acv, rev, tav⟩ ++ (ts ++ [tBlk w.heap.size (ptCells x (.slice pa x.pay.length pc))]))) w3 from hh)
      clear hh HR H2 c13 k1
      have hrow := H3.out.blk 1 rfl
      have hp1 := lt_of_block hrow
      cases hrv : (a.giv.getD c ⟨0, 0, 0⟩).receive.1 with
      | false =>
        have HG := Lib.hid (show a.receive x = { a with rcv := a.rcv + 1, giv := a.giv.set c (a.giv.getD c ⟨0, 0, 0⟩).receive.2, overflows := a.overflows + 1 } by
          have hg := getD_of (d := (⟨0, 0, 0⟩ : Giv)) (show c < a.giv.length by rw [HOK.out.gl]; exact hcl)
          have e : (a.giv.getD c ⟨0, 0, 0⟩).receive.2 = a.giv.getD c ⟨0, 0, 0⟩ := by
            revert hrv
            unfold Giv.receive
            split
            · intro _; rfl
            · intro h; cases h
          unfold Prt.receive
          rw [if_neg (by rintro (h | h); exact h HHAS.out; exact h HNM.out), HCC.out]
          dsimp only [Int.toNat_natCast]
          rw [if_pos hrv, e, set_same' hg])
        have c19 := (port_cells hrow).2.2.2.2.2.2.2.2.2.2.2.2.2.2.2.2.2.2.2
        have cf := fun i => blk_free hrow i
        have hov := HOK.out.ovn
        have HS := Lib.hid (H3.out.set 1 rfl (portRow { a with rcv := a.rcv + 1, giv := a.giv.set c (a.giv.getD c ⟨0, 0, 0⟩).receive.2, overflows := a.overflows + 1 } ⟨.slice (some ⟨rb, ro, none⟩) a.rooms.length rc, sp, ap, wv, bv, snp, rcp, tkp, gvp, bsv, kv, acv, rev, tav⟩) (w' := w3.setCell ⟨p, 19, none⟩ (.int .i64 ((a.overflows : Int) + 1))) (by (repeat (first | (with_reducible exact Fr.refl _ _) | exact Or.inl rfl | (with_reducible refine Fr.setCell ?_ ?_ _) | (with_reducible refine Fr.drewN ?_ _) | (with_reducible refine Fr.drew ?_)))) (by (apply row_trans; focus (repeat (first | (with_reducible exact hrow) | (with_reducible apply row_set) | (with_reducible apply row_drewN) | (with_reducible apply row_drew)))); rfl))
        clear hrow hrv
        go_wp2_with fail
        refine bodyPost_ret (v := .tuple #[]) (by simp [results, Try.results74, go_sem]) rfl ?_
        refine ⟨rfl, ?_⟩
        rw [HG.out]
        exact HS.out.tail.dropLast.port_shut
      | true =>
        have HRV := Lib.hid hrv
        obtain ⟨_, _, hb⟩ := H3.out.get 6 rfl
        obtain ⟨b1, o1, k1, e2, m1, m1'⟩ := sq_some (show Sq (eSq eBy 31) 48 w3 _ _ bv a.buffer from hb) (by rw [HOK.out.bl]; omega)
        subst e2
        have hbf := (Sq.free (show Sq (eSq eBy 31) 48 w3 _ _ (.slice (some ⟨b1, o1, none⟩) a.buffer.length k1) a.buffer from hb)).2.2.2
        have hx := getD_of (d := []) (show c < a.buffer.length by rw [HOK.out.bl]; exact hcl)
        have hln := HOK.out.bln _ (List.mem_of_getElem? hx)
        have hpb : p ≠ b1 := H3.out.apart 1 6 (by decide) rfl rfl (fun _ _ h => h.2) fun _ _ h => (Sq.free (show Sq _ _ _ _ _ _ _ from h)).2.1
        have hbox := H3.out.lastBlk (us := tBy (.slice va x.pay.length vc) x.pay :: portThs p { a with rcv := a.rcv + 1, giv := a.giv.set c (a.giv.getD c ⟨0, 0, 0⟩).receive.2 } ⟨.slice (some ⟨rb, ro, none⟩) a.rooms.length rc, sp, ap, wv, .slice (some ⟨b1, o1, none⟩) a.buffer.length k1, snp, rcp, tkp, gvp, bsv, kv, acv, rev, tav⟩)
        obtain ⟨vb, hvc, hout0⟩ := H3.out.out 6 rfl hx
        have hout := hout0.front
        obtain ⟨xs, hxs⟩ : ∃ xs, xs = a.buffer.getD c [] := ⟨_, rfl⟩
        have HXS := Lib.hid hxs
        rw [← hxs] at hln hout
        obtain ⟨_, _, hsq⟩ := hout.get 0 rfl
        obtain ⟨va2, k2, e3⟩ := Sq.shape (show Sq eBy 31 w3 _ _ vb xs from hsq)
        subst e3
        have hbb : w.heap.size ≠ b1 := (show Held F Z W ((tSq eBy 31 (.slice va2 xs.length k2) xs :: tBy (.slice va x.pay.length vc) x.pay :: (portThs p { a with rcv := a.rcv + 1, giv := a.giv.set c (a.giv.getD c ⟨0, 0, 0⟩).receive.2 } ⟨.slice (some ⟨rb, ro, none⟩) a.rooms.length rc, sp, ap, wv, .slice (some ⟨b1, o1, none⟩) a.buffer.length k1, snp, rcp, tkp, gvp, bsv, kv, acv, rev, tav⟩).set 5 (tSq (eOpt (eSq eBy 31)) 48 (.slice (some ⟨b1, o1, none⟩) a.buffer.length k1) ((a.buffer.map some).set c none))) ++ (ts ++ [tBlk w.heap.size (ptCells x (.slice pa x.pay.length pc))])) w3 from hout).apart (17 + ts.length) 7 (by omega) (get_last' (us := tSq eBy 31 (.slice va2 xs.length k2) xs :: tBy (.slice va x.pay.length vc) x.pay :: (portThs p { a with rcv := a.rcv + 1, giv := a.giv.set c (a.giv.getD c ⟨0, 0, 0⟩).receive.2 } ⟨.slice (some ⟨rb, ro, none⟩) a.rooms.length rc, sp, ap, wv, .slice (some ⟨b1, o1, none⟩) a.buffer.length k1, snp, rcp, tkp, gvp, bsv, kv, acv, rev, tav⟩).set 5 (tSq (eOpt (eSq eBy 31)) 48 (.slice (some ⟨b1, o1, none⟩) a.buffer.length k1) ((a.buffer.map some).set c none)))) rfl (fun _ _ h => h.2) fun _ _ h => (Sq.free (show Sq _ _ _ _ _ _ _ from h)).2.1
        obtain ⟨Kx, us, Yx, hsl, hKn, hoth, hback⟩ := hout.appY 0 rfl
        have hKp : ¬ Kx p := hKn p 2 _ (by decide) rfl fun H Y h => .inl h.2
        have hKb : ¬ Kx b1 := hKn b1 7 _ (by decide) rfl fun H Y h => .inl (Sq.free (show Sq _ _ _ H Y _ _ from h)).2.1
        have hKx : ¬ Kx w.heap.size := hKn _ (17 + ts.length) (tBlk w.heap.size (ptCells x (.slice pa x.pay.length pc))) (by omega) (get_last' (us := tSq eBy 31 (.slice va2 xs.length k2) xs :: tBy (.slice va x.pay.length vc) x.pay :: (portThs p { a with rcv := a.rcv + 1, giv := a.giv.set c (a.giv.getD c ⟨0, 0, 0⟩).receive.2 } ⟨.slice (some ⟨rb, ro, none⟩) a.rooms.length rc, sp, ap, wv, .slice (some ⟨b1, o1, none⟩) a.buffer.length k1, snp, rcp, tkp, gvp, bsv, kv, acv, rev, tav⟩).set 5 (tSq (eOpt (eSq eBy 31)) 48 (.slice (some ⟨b1, o1, none⟩) a.buffer.length k1) ((a.buffer.map some).set c none)))) fun H Y h => .inl h.2
        obtain ⟨Hx, _, hby⟩ := hoth 1 _ (by decide) rfl
        have hrow := H3.out.blk 1 rfl
        have c8 := (port_cells hrow).2.2.2.2.2.2.2.2.1
        have k1' := (pt_cells hbox).2.1
        rw [HCC.out] at k1'
        dsimp only at c8
        rw [HOK.out.bl] at c8 m1
        have hbl1 : b1 < w3.heap.size := World.block_lt_of_cell? w3 _ hvc
        have hxl := lt_of_block hbox
        have hbd := below_drew w3 1
        have hba := below_alloc w3.drew (.cells #[.slice va x.pay.length vc] 31)
        have hS2 : (w3.drew.alloc (.cells #[.slice va x.pay.length vc] 31)).cell? ⟨p, 8, none⟩ = some (.slice (some ⟨b1, o1, none⟩) a.rooms.length k1) ∧ (w3.drew.alloc (.cells #[.slice va x.pay.length vc] 31)).cell? ⟨w.heap.size, 1, none⟩ = some (.int .i64 (c : Int)) := ⟨alloc_cell _ _ c8, alloc_cell _ _ k1'⟩
        have hv2 : (w3.drew.alloc (.cells #[.slice va x.pay.length vc] 31)).cell? ⟨b1, o1 + c, none⟩ = some (.slice va2 xs.length k2) := alloc_cell _ _ hvc
        have HARM := Lib.hid (fun (v2 : Value) (w2 : World) (hsl2 : Sl w2 (fun k => Kx k ∨ (w3.drew.alloc (.cells #[.slice va x.pay.length vc] 31)).heap.size ≤ k) 31 1 v2 (xs.length + 1) (us ++ [.slice va x.pay.length vc])) (hfr2 : Fr Kx (w3.drew.alloc (.cells #[.slice va x.pay.length vc] 31)) w2) =>
          show ∃ a2 c2, v2 = .slice a2 (xs.length + 1) c2 ∧ w2.cell? ⟨p, 8, none⟩ = some (.slice (some ⟨b1, o1, none⟩) a.rooms.length k1) ∧ w2.cell? ⟨w.heap.size, 1, none⟩ = some (.int .i64 (c : Int)) ∧ w2.cell? ⟨b1, o1 + c, none⟩ = some (.slice va2 xs.length k2) ∧ (∀ k, w2.frozen? ⟨b1, k, none⟩ = false) ∧
            Hid (Held F Z W (portThs p { a with rcv := a.rcv + 1, giv := a.giv.set c (a.giv.getD c ⟨0, 0, 0⟩).receive.2, buffer := a.buffer.set c (xs ++ [x.pay]) } ⟨.slice (some ⟨rb, ro, none⟩) a.rooms.length rc, sp, ap, wv, .slice (some ⟨b1, o1, none⟩) a.buffer.length k1, snp, rcp, tkp, gvp, bsv, kv, acv, rev, tav⟩ ++ (ts ++ [tBlk w.heap.size (ptCells x (.slice pa x.pay.length pc))])) (w2.setCell ⟨b1, o1 + c, none⟩ (.slice a2 (xs.length + 1) c2))) from by
          obtain ⟨a2, c2, rfl⟩ := hsl2.shape
          have h1 := hback (w3.drew.alloc (.cells #[.slice va x.pay.length vc] 31)) w2 [.slice va x.pay.length vc] [x.pay] _ (hbd.trans hba) hsl2 hfr2 ⟨fun _ => False, Yx, fun _ f => f.elim, fun _ y => .inl y, fun _ f => f.elim, Els.single (E := eBy) ⟨_, rfl, ByZ.below hby (hbd.trans hba)⟩⟩
          have h2 := Held.back (c := c) (yss := a.buffer.set c (xs ++ [x.pay])) (Held.rear h1) 6 rfl (by rw [List.length_set, List.length_map, HOK.out.bl]; exact hcl) set_gap
          have hlA : ∀ k, k < w3.heap.size → k < (w3.drew.alloc (.cells #[.slice va x.pay.length vc] 31)).heap.size := fun k hk => by rw [World.size_alloc]; exact Nat.lt_succ_of_lt hk
          exact ⟨a2, c2, rfl, (World.cell?_of_block (hfr2.block p (hlA p hp1) hKp)).trans hS2.1, (World.cell?_of_block (hfr2.block _ (hlA _ hxl) hKx)).trans hS2.2, (World.cell?_of_block (hfr2.block b1 (hlA b1 hbl1) hKb)).trans hv2, fun k => (World.frozen?_of_block (hfr2.block b1 (hlA b1 hbl1) hKb)).trans ((World.frozen?_of_block ((hbd.trans hba).block b1 hbl1)).trans (hbf k)), Lib.hid h2.tail⟩)
        have HSL := Lib.hid hsl
        have w8 := hS2.1
        have w9 := hS2.2
        clear hb hx hout hout0 hsq hxs hKn hoth hback hsl hKp hKb hKx hby hrow hbox m1' hba hbd hS2 hbf hrv
        go_wp2_with fail
        refine wp_region_held_drew (S := fun w' => w'.cell? ⟨p, 8, none⟩ = some (.slice (some ⟨b1, o1, none⟩) a.rooms.length k1) ∧ w'.cell? ⟨w.heap.size, 1, none⟩ = some (.int .i64 (c : Int))) (by kernel_rfl) ⟨c8, k1'⟩ (fun hS0 => ?_)
        change wpAnyH _ _ _ _ _ (6 + 13) _ _ _
        refine wpAnyH_take_n 0 13 (by kernel_rfl) hS0 (fun _ _ _ _ _ h => h) ?_
        simp only [List.drop_zero, List.take_succ_cons, List.take_zero]
        iterate 13 (refine wpFirst_val (v := ?_) (by rfl) ?_ ?_; rotate_left 1; (focus ((intro w' hS'; obtain ⟨l0, l1⟩ := hS'; go_simp); try with_reducible rfl)); simp only [Act.put, List.setIfInBounds_toArray, List.set_cons_zero, List.set_cons_succ])
        refine wpFirst_nil ?_
        change wpAnyH _ _ _ _ _ (5 + 1) _ _ _
        refine wpAnyH_take_n 14 1 (by kernel_rfl) hS0 (fun _ _ _ _ _ h => h) ?_
        simp only [List.drop_succ_cons, List.drop_zero, List.take_succ_cons, List.take_zero]
        (refine wpFirst_val (v := ?_) (by rfl) ?_ ?_; rotate_left 1; (focus ((intro w' hS'; go_simp); try with_reducible rfl)); simp only [Act.put, List.setIfInBounds_toArray, List.set_cons_zero, List.set_cons_succ])
        refine wpFirst_nil ?_
        clear hS0
        refine wpAnyH_two 13 15 (by kernel_rfl) rfl rfl (fun K hK => ?_) (fun K hK => ?_)
        focus
          go_simp
          refine hK.out _ _ ⟨c8, k1'⟩ ?_
          clear hK K
          refine wpAnyH_one 15 (by kernel_rfl) rfl (fun K hK => ?_)
          go_simp
          refine hK.out _ _ ⟨w8, w9⟩ ?_
          clear hK K
        rotate_left
        focus
          go_simp
          refine hK.out _ _ ⟨w8, w9⟩ ?_
          clear hK K
          refine wpAnyH_one 13 (by kernel_rfl) rfl (fun K hK => ?_)
          go_simp
          refine hK.out _ _ ⟨w8, w9⟩ ?_
          clear hK K
        all_goals
          refine wpAnyH_one 16 (by kernel_rfl) rfl (fun K hK => ?_)
          refine step_app_sl slBB rfl _ _ rfl Kx (.slice va2 xs.length k2) xs.length us rfl (HSL.out.drew.alloc _) _ 1 [.slice va x.pay.length vc] rfl (rd_one _ _ _ _ rfl) (by intro u hu; simp at hu; subst hu; rfl) (by unfold maxLen; omega) (by omega) ?_
          intro v2 w4 hsl2 hfr2
          obtain ⟨a2, c2, rfl, q1, q2, q3, qf, HS4⟩ := HARM.out v2 w4 hsl2 hfr2
          clear hsl2 hfr2
          refine hK.out _ _ ⟨q1, q2⟩ ?_
          clear hK K
          simp only [Act.put, List.setIfInBounds_toArray, List.set_cons_zero, List.set_cons_succ]
          refine wpAnyH_one 17 (by kernel_rfl) rfl (fun K hK => ?_)
          go_simp
          refine hK.out _ _ ⟨q1, q2⟩ ?_
          clear hK K
          refine wpAnyH_one 18 (by kernel_rfl) rfl (fun K hK => ?_)
          go_simp
          refine hK.out _ _ ⟨cell_ne hpb q1, cell_ne hbb q2⟩ ?_
          clear hK K
          refine wpAnyH_done (by kernel_rfl) ?_ _
          clear q1 q2 q3 qf w8 w9 hv2 c8 k1' HARM HSL hvc
          generalize w4.setCell ⟨b1, o1 + c, none⟩ (.slice a2 (xs.length + 1) c2) = w5 at HS4 ⊢
          obtain ⟨_, _, hre⟩ := HS4.out.get 13 rfl
          obtain ⟨b3, o3, k3, e3, m3, m3'⟩ := sq_some (show Sq eNat 3 w5 _ _ rev a.received from hre) (by rw [HOK.out.rl]; omega)
          subst e3
          have hz := getD_of (d := 0) (show c < a.received.length by rw [HOK.out.rl]; exact hcl)
          have hzb := HOK.out.ren _ (List.mem_of_getElem? hz)
          have hzc := nat_cell hre hz
          have hzf := (Sq.free (show Sq eNat 3 w5 _ _ (.slice (some ⟨b3, o3, none⟩) a.received.length k3) a.received from hre)).2.2.2
          have hrow := HS4.out.blk 0 rfl
          have c17 := (port_cells hrow).2.2.2.2.2.2.2.2.2.2.2.2.2.2.2.2.2.1
          have hbox := HS4.out.lastBlk (us := portThs p { a with rcv := a.rcv + 1, giv := a.giv.set c (a.giv.getD c ⟨0, 0, 0⟩).receive.2, buffer := a.buffer.set c (xs ++ [x.pay]) } ⟨.slice (some ⟨rb, ro, none⟩) a.rooms.length rc, sp, ap, wv, .slice (some ⟨b1, o1, none⟩) a.buffer.length k1, snp, rcp, tkp, gvp, bsv, kv, acv, .slice (some ⟨b3, o3, none⟩) a.received.length k3, tav⟩)
          have k1' := (pt_cells hbox).2.1
          rw [HCC.out] at k1'
          dsimp only at c17
          rw [HOK.out.rl] at c17 m3
          have HS5 := Lib.hid (show Held F Z W (portThs p { a with rcv := a.rcv + 1, giv := a.giv.set c (a.giv.getD c ⟨0, 0, 0⟩).receive.2, buffer := a.buffer.set c (xs ++ [x.pay]), received := a.received.set c (a.received.getD c 0 + 1) } ⟨.slice (some ⟨rb, ro, none⟩) a.rooms.length rc, sp, ap, wv, .slice (some ⟨b1, o1, none⟩) a.buffer.length k1, snp, rcp, tkp, gvp, bsv, kv, acv, .slice (some ⟨b3, o3, none⟩) a.received.length k3, tav⟩ ++ (ts ++ [tBlk w.heap.size (ptCells x (.slice pa x.pay.length pc))])) ((w5.setCell ⟨b3, o3 + c, none⟩ (.int .i64 ((a.received.getD c 0 : Int) + 1))).drew) from
            (HS4.out.putN (xs := a.received) 13 rfl (c := c) (y := a.received.getD c 0 + 1) (u := (a.received.getD c 0 : Int) + 1) (by rw [HOK.out.rl]; exact hcl) (by omega)).drew)
          obtain ⟨z, hzz⟩ : ∃ z, z = a.received.getD c 0 := ⟨_, rfl⟩
          have HZ := Lib.hid hzz
          rw [← hzz] at hzb hzc
          clear hre hz hrow hbox hzz HS4 m1 m3'
          have hw1 : IntKind.i64.wrap ((z : Int) + 1) = (z : Int) + 1 := IntWalk.i64_in _ (by omega)
          go_upto_region 7 with fail
          refine wp_region_still_tail 10 (by kernel_rfl) (by kernel_rfl) ?_
          simp only [List.take_succ_cons, List.take_zero, List.drop_succ_cons, List.drop_zero]
          change wpStill _ _ (World.drew _) (fun a' => wpList _ _ _ _ a' (World.drew _)) _ _
          repeat still_step
          refine wpStill_nil ?_
          go_wp2_with fail
          go_end0
          have HG : a.receive x = { a with rcv := a.rcv + 1, giv := a.giv.set c (a.giv.getD c ⟨0, 0, 0⟩).receive.2, buffer := a.buffer.set c (xs ++ [x.pay]), received := a.received.set c (a.received.getD c 0 + 1) } := by
            unfold Prt.receive
            rw [if_neg (by rintro (h | h); exact h HHAS.out; exact h HNM.out), HCC.out]
            dsimp only [Int.toNat_natCast]
            rw [if_neg (by rw [HRV.out]; decide), ← HXS.out]
          refine ⟨rfl, ?_⟩
          rw [HG]
          have hz := HZ.out
          subst hz
          exact HS5.out.dropLast.port_shut
    · have HG := Lib.hid (show a.receive x = a by
        unfold Prt.receive
        rw [if_pos (.inr hn)])
      have hne : x.number ≠ (a.rcv : Int) % 256 := by omega
      obtain ⟨_, _, hby⟩ := H1.out.drew.get (15 + j) (get_later (us := portThs p a ⟨.slice (some ⟨rb, ro, none⟩) a.rooms.length rc, sp, ap, wv, bv, snp, rcp, tkp, gvp, bsv, kv, acv, rev, tav⟩) HJ.out)
      obtain ⟨_, _, hrcv⟩ := H1.out.drew.get 7 rfl
      have HQ2 := Lib.hid (receive_no rcp a.rcv x.number (.slice pa x.pay.length pc) x.pay w1.drew hrcv.1 hby.1 hne)
      clear hn hne hby hrcv
      go_wp2_with fail
      refine wp_region_held_drew (S := fun w' => w'.cell? ⟨p, 11, none⟩ = some (.pointer (some ⟨rcp, 0, none⟩)) ∧ w'.cell? ⟨w.heap.size, 2, none⟩ = some (.int .i64 (x.number)) ∧ w'.cell? ⟨w.heap.size, 4, none⟩ = some (.slice pa x.pay.length pc)) (by kernel_rfl) ⟨c11, k2, k4⟩ (fun hS0 => ?_)
      change wpAnyH _ _ _ _ _ (6 + 8) _ _ _
      refine wpAnyH_take_n 0 8 (by kernel_rfl) hS0 (fun _ _ _ _ _ h => h) ?_
      simp only [List.drop_zero, List.take_succ_cons, List.take_zero]
      iterate 8 (refine wpFirst_val (v := ?_) (by rfl) ?_ ?_; rotate_left 1; (focus ((intro w' hS'; obtain ⟨l0, l1, l2⟩ := hS'; go_simp); try with_reducible rfl)); simp only [Act.put, List.setIfInBounds_toArray, List.set_cons_zero, List.set_cons_succ])
      refine wpFirst_nil ?_
      refine wpAnyH_one 8 (by kernel_rfl) rfl (fun K hK => ?_)
      (refine step_call (f := ?_) (args := ?_) (by rfl) ?_ ?_; rotate_left 2; (focus (go_simp; first | (with_reducible rfl) | (refine ⟨?_, ?_⟩ <;> with_reducible rfl))); (refine (HQ2.out).mono ?_); rintro e w' ⟨rfl, rfl⟩)
      refine ⟨_, rfl, ?_⟩
      simp only [Act.put, List.setIfInBounds_toArray, List.set_cons_zero, List.set_cons_succ]
      have hSx := hS0
      refine hK.out _ _ hSx ?_
      clear hK K
      change wpAnyH _ _ _ _ _ (0 + 5) _ _ _
      refine wpAnyH_take_n 9 5 (by kernel_rfl) hSx (fun _ _ _ _ _ h => h) ?_
      simp only [List.drop_succ_cons, List.drop_zero, List.take_succ_cons, List.take_zero]
      iterate 5 (refine wpFirst_val (v := ?_) (by rfl) ?_ ?_; rotate_left 1; (focus ((intro w' hS'; go_simp); try with_reducible rfl)); simp only [Act.put, List.setIfInBounds_toArray, List.set_cons_zero, List.set_cons_succ])
      refine wpFirst_nil ?_
      refine wpAnyH_done (by kernel_rfl) ?_ _
      go_wp2_with fail
      refine bodyPost_ret (v := .tuple #[]) (by simp [results, Try.results74, go_sem]) rfl ?_
      refine ⟨rfl, ?_⟩
      rw [HG.out]
      exact H1.out.drew.dropLast.port_shut
  · have HG := Lib.hid (show a.receive x = a by
      unfold Prt.receive
      rw [if_pos (show ¬ a.has x.cls ∨ _ from .inl hc)])
    have HQ := Lib.hid (exists_no (p := p) (w := w1) x.cls (some ⟨rb, ro, none⟩) rc (n := a.rooms.length) (by omega) c1)
    clear hc
    refine HQ.out.mono ?_
    rintro e w' ⟨rfl, rfl⟩
    go_wp2_with fail
    refine bodyPost_ret (v := .tuple #[]) (by simp [results, Try.results74, go_sem]) rfl ?_
    refine ⟨rfl, ?_⟩
    rw [HG.out]
    exact H1.out.dropLast.port_shut
end
end Go.Proofs.Ytcocnfbhileheaa
