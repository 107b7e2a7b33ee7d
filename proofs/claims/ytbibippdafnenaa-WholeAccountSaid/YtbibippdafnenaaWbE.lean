/- A writer takes a confirmation. -/
import Derived.Test.YtbibippdafnenaaWbC
import Derived.Test.YtbibippdafnenaaSti
import Derived.Deep.CutRange
namespace Go.Proofs.Ytbibippdafnenaa
open Go.RowKit
set_option maxRecDepth 100000

section
variable {F Z : BS} {W w : World} {ts : List Th} {p : Nat} {x : Wr}
set_option maxHeartbeats 64000000 in
theorem ackW_c (h : Held F Z W (tWr p x :: ts) w) (hx : x.Ok) (o r : Nat) (dn : Bool) (ho : o ≤ x.top) (hr : r ≤ 1000) (hd : dn = true → x.closed = true ∧ o = x.all.length ∧ x.marked = true) :
    Calls Try.prog 16 #[.pointer (some ⟨p, 0, none⟩), .int .i64 (o : Int), .int .i64 (r : Int), .bool dn] w fun e w' => e = .returned (.int .i64 0) ∧ Held F Z W (tWr p (x.ack o r dn) :: ts) w' := by
  obtain ⟨v, h1⟩ := Held.opens h
  obtain ⟨x1, x2, x3, x4, x5, x6, x7, x8⟩ := hx
  obtain ⟨_, _, hsq⟩ := h1.get 1 rfl
  obtain ⟨ka, kc, e1, hle1, hle2, hnil⟩ := Sq.le (show Sq eU8 5 w _ _ v (x.all.drop x.base) from hsq)
  subst e1
  obtain ⟨T, hT⟩ : ∃ T, T = x.all.length := ⟨_, rfl⟩
  obtain ⟨tp, htp⟩ : ∃ tp, tp = x.top := ⟨_, rfl⟩
  obtain ⟨bs, hbs⟩ : ∃ bs, bs = x.base := ⟨_, rfl⟩
  obtain ⟨nx, hnx⟩ : ∃ nx, nx = x.next := ⟨_, rfl⟩
  obtain ⟨rm, hrm⟩ : ∃ rm, rm = x.room := ⟨_, rfl⟩
  obtain ⟨kn, hkn⟩ : ∃ kn, kn = (x.all.drop x.base).length := ⟨_, rfl⟩
  rw [← hkn] at h1 hle1 hnil
  have hkn2 : kn = T - bs := by rw [hkn, List.length_drop, hT, hbs]
  obtain ⟨c0, c1, c2, c3, c4, c5, c6, c7, c8, c9, c10, c11, c12⟩ := wr_cells (h1.blk 0 rfl)
  have hup := blk_free (h1.blk 0 rfl)
  have hpl := lt_of_block (h1.blk 0 rfl)
  rw [← hT] at c3 x2 x5 x8 hd
  rw [← htp] at c6 x4 x5 ho
  rw [← hbs] at c4 x2 x3
  rw [← hnx] at c5 x3 x4
  rw [← hrm] at c7 x6
  have H1 := Lib.hid h1
  have HT := Lib.hid hT; have HTP := Lib.hid htp; have HBS := Lib.hid hbs; have HNX := Lib.hid hnx; have HRM := Lib.hid hrm; have HKN := Lib.hid hkn; have HK2 := Lib.hid hkn2
  have hno : dn = false ∨ (dn = true ∧ x.closed = true ∧ o = T ∧ x.marked = true) := by cases dn <;> simp_all
  have ho' : ¬ (tp : Int) < (o : Int) := by omega
  clear h h1 hsq hT htp hbs hnx hrm hkn hkn2 hd
  have HNIL := Lib.hid hnil
  clear hnil
  have HA1 := Lib.hid (show o < bs → x.ack o r dn = x from fun h => by unfold Wr.ack; rw [← HBS.out, if_pos h])
  have HA2 := Lib.hid (show o = bs → x.ack o r dn = { x with room := max x.room r, done := x.done || dn } from fun h => by unfold Wr.ack; rw [← HBS.out, if_neg (by omega), if_pos h])
  have HA3 := Lib.hid (show bs < o → x.ack o r dn = { x with base := o, room := r, next := max x.next o, idle := 0, done := x.done || dn } from fun h => by unfold Wr.ack; rw [← HBS.out, if_neg (by omega), if_neg (by omega)])
  go_enter Try.func16, Try.ntmps16
  go_upto_region 5 with fail
  go_cut [51] from 29 to 51 (fun u wc => u = .bool false ∧ w = wc)
  case first =>
    rcases hno with hdn | ⟨hdn, hcl, hoT, hmk⟩
    case' inl => subst hdn
    case' inr =>
      subst hdn
      rw [hcl] at c9
      rw [hmk] at c11
      have q1 : ((o : Int) != (T : Int)) = false := by simp; omega
      clear hcl hmk hoT
    all_goals
      go_wp2_with fail
      go_meet
      case rel => exact ⟨rfl, rfl⟩
  case rest =>
    obtain ⟨rfl, rfl⟩ := hcut
    go_upto_region 12 with fail
    by_cases d1 : o < bs
    case pos =>
      have d2 : (o : Int) < (bs : Int) := by omega
      have HA := Lib.hid (HA1.out d1)
      clear d1 hno
      go_wp2_with fail
      go_ret
      rw [HA.out]
      exact ⟨rfl, Held.shut (f := wrThs p x) (i := .slice ka kn kc) H1.out⟩
    case neg =>
      have d2 : ¬ (o : Int) < (bs : Int) := by omega
      by_cases d3 : o = bs
      case pos =>
        have d4 : ((o : Int) == (bs : Int)) = true := by simp; omega
        have HA := Lib.hid (HA2.out d3)
        obtain ⟨rx, hrx⟩ : ∃ rx, rx = max rm r := ⟨_, rfl⟩
        have hmx : max (rm : Int) (r : Int) = (rx : Int) := by omega
        have HRX := Lib.hid hrx
        clear d1 d3 hrx hno
        go_upto_region 16 with fail
        cases hdx : x.done
        case false =>
          have HDX := Lib.hid hdx
          rw [hdx] at c12
          clear hdx
          cases dn
          case false => have H2 := Lib.hid (H1.out.set 0 rfl (wrRow { x with room := max x.room r, done := x.done || false } (.slice ka kn kc)) (((Fr.refl (fun k => k = p) w).setCell (p := ⟨p, 7, none⟩) (.inl rfl) (.int .i64 (rx : Int))).setCell (p := ⟨p, 12, none⟩) (.inl rfl) (.bool false)) (by have hr := H1.out.blk 0 rfl; rw [show wrRow { x with room := max x.room r, done := x.done || false } (.slice ka kn kc) = .cells #[.int .i64 (x.win : Int), .int .i64 2, .slice ka kn kc, .int .i64 (x.all.length : Int), .int .i64 (x.base : Int), .int .i64 (x.next : Int), .int .i64 (x.top : Int), .int .i64 (rx : Int), .int .i64 (x.idle : Int), .bool x.closed, .bool x.ended, .bool x.marked, .bool false] 76 by rw [HRX.out, HRM.out, HDX.out]; rfl]; (apply row_trans; focus (repeat (first | (with_reducible exact hr) | (with_reducible apply row_set) | (with_reducible apply row_drewN) | (with_reducible apply row_drew) | (with_reducible apply row_alloc) | (apply row_set_other (by first | omega | (simp <;> omega)))))); rfl)); go_wp2_with fail; go_ret; rw [HA.out]; exact ⟨rfl, Held.shut (f := wrThs p { x with room := max x.room r, done := x.done || false }) (i := .slice ka kn kc) H2.out⟩
          case true => have H2 := Lib.hid (H1.out.set 0 rfl (wrRow { x with room := max x.room r, done := x.done || true } (.slice ka kn kc)) (((Fr.refl (fun k => k = p) w).setCell (p := ⟨p, 7, none⟩) (.inl rfl) (.int .i64 (rx : Int))).setCell (p := ⟨p, 12, none⟩) (.inl rfl) (.bool true)) (by have hr := H1.out.blk 0 rfl; rw [show wrRow { x with room := max x.room r, done := x.done || true } (.slice ka kn kc) = .cells #[.int .i64 (x.win : Int), .int .i64 2, .slice ka kn kc, .int .i64 (x.all.length : Int), .int .i64 (x.base : Int), .int .i64 (x.next : Int), .int .i64 (x.top : Int), .int .i64 (rx : Int), .int .i64 (x.idle : Int), .bool x.closed, .bool x.ended, .bool x.marked, .bool true] 76 by rw [HRX.out, HRM.out, HDX.out]; rfl]; (apply row_trans; focus (repeat (first | (with_reducible exact hr) | (with_reducible apply row_set) | (with_reducible apply row_drewN) | (with_reducible apply row_drew) | (with_reducible apply row_alloc) | (apply row_set_other (by first | omega | (simp <;> omega)))))); rfl)); go_wp2_with fail; go_ret; rw [HA.out]; exact ⟨rfl, Held.shut (f := wrThs p { x with room := max x.room r, done := x.done || true }) (i := .slice ka kn kc) H2.out⟩
        case true =>
          have HDX := Lib.hid hdx
          rw [hdx] at c12
          clear hdx
          cases dn
          case false => have H2 := Lib.hid (H1.out.set 0 rfl (wrRow { x with room := max x.room r, done := x.done || false } (.slice ka kn kc)) (((Fr.refl (fun k => k = p) w).setCell (p := ⟨p, 7, none⟩) (.inl rfl) (.int .i64 (rx : Int))).setCell (p := ⟨p, 12, none⟩) (.inl rfl) (.bool true)) (by have hr := H1.out.blk 0 rfl; rw [show wrRow { x with room := max x.room r, done := x.done || false } (.slice ka kn kc) = .cells #[.int .i64 (x.win : Int), .int .i64 2, .slice ka kn kc, .int .i64 (x.all.length : Int), .int .i64 (x.base : Int), .int .i64 (x.next : Int), .int .i64 (x.top : Int), .int .i64 (rx : Int), .int .i64 (x.idle : Int), .bool x.closed, .bool x.ended, .bool x.marked, .bool true] 76 by rw [HRX.out, HRM.out, HDX.out]; rfl]; (apply row_trans; focus (repeat (first | (with_reducible exact hr) | (with_reducible apply row_set) | (with_reducible apply row_drewN) | (with_reducible apply row_drew) | (with_reducible apply row_alloc) | (apply row_set_other (by first | omega | (simp <;> omega)))))); rfl)); go_wp2_with fail; go_ret; rw [HA.out]; exact ⟨rfl, Held.shut (f := wrThs p { x with room := max x.room r, done := x.done || false }) (i := .slice ka kn kc) H2.out⟩
          case true => have H2 := Lib.hid (H1.out.set 0 rfl (wrRow { x with room := max x.room r, done := x.done || true } (.slice ka kn kc)) (((Fr.refl (fun k => k = p) w).setCell (p := ⟨p, 7, none⟩) (.inl rfl) (.int .i64 (rx : Int))).setCell (p := ⟨p, 12, none⟩) (.inl rfl) (.bool true)) (by have hr := H1.out.blk 0 rfl; rw [show wrRow { x with room := max x.room r, done := x.done || true } (.slice ka kn kc) = .cells #[.int .i64 (x.win : Int), .int .i64 2, .slice ka kn kc, .int .i64 (x.all.length : Int), .int .i64 (x.base : Int), .int .i64 (x.next : Int), .int .i64 (x.top : Int), .int .i64 (rx : Int), .int .i64 (x.idle : Int), .bool x.closed, .bool x.ended, .bool x.marked, .bool true] 76 by rw [HRX.out, HRM.out, HDX.out]; rfl]; (apply row_trans; focus (repeat (first | (with_reducible exact hr) | (with_reducible apply row_set) | (with_reducible apply row_drewN) | (with_reducible apply row_drew) | (with_reducible apply row_alloc) | (apply row_set_other (by first | omega | (simp <;> omega)))))); rfl)); go_wp2_with fail; go_ret; rw [HA.out]; exact ⟨rfl, Held.shut (f := wrThs p { x with room := max x.room r, done := x.done || true }) (i := .slice ka kn kc) H2.out⟩
      case neg =>
        have d4 : ((o : Int) == (bs : Int)) = false := by simp; omega
        have HA := Lib.hid (HA3.out (by omega))
        obtain ⟨f, hf⟩ : ∃ f, f = o - bs := ⟨_, rfl⟩
        have hf1 : 0 < f := by omega
        have hf2 : f ≤ kn := by have := HK2.out; omega
        have hw1 : IntKind.i64.wrap ((o : Int) - (bs : Int)) = (f : Int) := by rw [IntKind.wrap_i64]; omega
        obtain ⟨_, _, hsq⟩ := H1.out.get 1 rfl
        obtain ⟨g, off, e2, -, -, -⟩ := Sq.drop (show Sq eU8 5 w _ _ (.slice ka kn kc) (x.all.drop x.base) from hsq) hf1 (by rw [← HKN.out]; exact hf2)
        subst e2
        obtain ⟨na, nl, nc, hnv⟩ : ∃ (na : Option Addr) (nl nc : Nat), Value.slice na nl nc = .slice (if kc = f then some ⟨g, off, none⟩ else some ⟨g, off + f, none⟩) (kn - f) (kc - f) := ⟨_, _, _, rfl⟩
        have H2 := Lib.hid (show Held F Z W ([tBlk p (wrRow x (.slice (some ⟨g, off, none⟩) kn kc)), tSq eU8 5 (.slice na nl nc) ((x.all.drop x.base).drop f)] ++ ts) w from
          H1.out.upd 1 rfl (w' := w) (T' := tSq eU8 5 (.slice na nl nc) ((x.all.drop x.base).drop f)) fun G Y hon _ => ⟨by
            obtain ⟨g', off', e3, _, _, hq⟩ := Sq.drop (show Sq eU8 5 w G Y (.slice (some ⟨g, off, none⟩) kn kc) (x.all.drop x.base) from hon) hf1 (by rw [← HKN.out]; exact hf2)
            obtain ⟨rfl, rfl⟩ : g = g' ∧ off = off' := by simpa using e3
            rw [← HKN.out] at hq
            rw [hnv]
            rw [show eU8.size = 1 from rfl, Nat.mul_one] at hq
            exact hq, Fr.refl _ _⟩)
        have hdd : (x.all.drop x.base).drop f = x.all.drop o := by rw [List.drop_drop, ← HBS.out, show bs + f = o by omega]
        rw [hdd] at H2
        have HNV := Lib.hid hnv
        have hfi : (0 : Int) ≤ (f : Int) ∧ (f : Int) ≤ (kn : Int) := by omega
        obtain ⟨nn, hnn⟩ : ∃ nn, nn = max nx o := ⟨_, rfl⟩
        have hmx : max (nx : Int) (o : Int) = (nn : Int) := by omega
        have HNN := Lib.hid hnn
        have hkf : (kc = f) ∨ ¬ kc = f := by omega
        clear d1 d3 hf hsq hdd hnv hnn hno H1
        go_upto_region 7 with fail
        refine wp_region_still_tail 12 (by kernel_rfl) (by kernel_rfl) ?_
        simp only [List.take_succ_cons, List.take_zero, List.drop_succ_cons, List.drop_zero]
        change wpStill _ _ (World.drew _) (fun a' => wpList _ _ _ _ a' (World.drew _)) _ _
        iterate 11 still_step
        refine hs_out ?_
        refine hs_val (S := fun _ => True) trivial (v := .slice na nl nc) (by rfl) (fun w' _ => ?_) ?_
        · rw [HNV.out]
          rcases hkf with hk | hk
          · rw [if_pos hk]
            go_simp
            first | done | simp [hk]
          · rw [if_neg hk]
            have hfa : (Addr.mk g off none).add f = ⟨g, off + f, none⟩ := by unfold Addr.add; rw [if_neg (by omega)]
            go_simp
            first | done | (simp [hk, hfa])
        simp only [Act.put, List.setIfInBounds_toArray, List.set_cons_zero, List.set_cons_succ]
        refine hs_nil ?_
        go_upto_region 8 with fail
        generalize hw5 : World.drew (World.setCell _ _ _) = w5
        have H5 := Lib.hid (show Held F Z W ([tBlk p (wrRow x (.slice na nl nc)), tSq eU8 5 (.slice na nl nc) (x.all.drop o)] ++ ts) w5 by
          rw [← hw5]
          exact (H2.out.set 0 rfl (wrRow x (.slice na nl nc)) ((Fr.refl (fun k => k = p) w).setCell (p := ⟨p, 2, none⟩) (.inl rfl) (.slice na nl nc)) (by have hr := H2.out.blk 0 rfl; (apply row_trans; focus (repeat (first | (with_reducible exact hr) | (with_reducible apply row_set) | (with_reducible apply row_drewN) | (with_reducible apply row_drew) | (with_reducible apply row_alloc) | (apply row_set_other (by first | omega | (simp <;> omega)))))); rfl)).drew)
        clear hw5 H2 c0 c1 c2 c3 c4 c5 c6 c7 c8 c9 c10 c11 c12 hup hpl hw1
        have hup := blk_free (H5.out.blk 0 rfl)
        have hpl := lt_of_block (H5.out.blk 0 rfl)
        obtain ⟨-, -, -, -, c4, -, -, c7, -, -, -, -, -⟩ := wr_cells (H5.out.blk 0 rfl)
        have H6 := Lib.hid (H5.out.set 0 rfl (wrRow { x with base := o, room := r } (.slice na nl nc)) (((Fr.refl (fun k => k = p) w5).setCell (p := ⟨p, 4, none⟩) (.inl rfl) (.int .i64 (o : Int))).setCell (p := ⟨p, 7, none⟩) (.inl rfl) (.int .i64 (r : Int))) (by have hr := H5.out.blk 0 rfl; (apply row_trans; focus (repeat (first | (with_reducible exact hr) | (with_reducible apply row_set) | (with_reducible apply row_drewN) | (with_reducible apply row_drew) | (with_reducible apply row_alloc) | (apply row_set_other (by first | omega | (simp <;> omega)))))); rfl))
        go_upto_region 10 with fail
        generalize hw6 : World.setCell _ _ _ = w6
        have H6 := Lib.hid (show Held F Z W ([tBlk p (wrRow { x with base := o, room := r } (.slice na nl nc)), tSq eU8 5 (.slice na nl nc) (x.all.drop o)] ++ ts) w6 by rw [← hw6]; exact H6.out)
        clear hw6 H5 c4 c7 hup hpl
        have hup := blk_free (H6.out.blk 0 rfl)
        have hpl := lt_of_block (H6.out.blk 0 rfl)
        obtain ⟨-, -, -, -, c4, c5, -, -, -, -, -, -, -⟩ := wr_cells (H6.out.blk 0 rfl)
        have c4' : w6.cell? ⟨p, 4, none⟩ = some (.int .i64 (o : Int)) := c4
        have c5' : w6.cell? ⟨p, 5, none⟩ = some (.int .i64 (nx : Int)) := by rw [HNX.out]; exact c5
        clear c4 c5
        refine wp_region_still_tail 10 (by kernel_rfl) (by kernel_rfl) ?_
        simp only [List.take_succ_cons, List.take_zero, List.drop_succ_cons, List.drop_zero]
        change wpStill _ _ (World.drew _) (fun a' => wpList _ _ _ _ a' (World.drew _)) _ _
        repeat still_step
        refine wpStill_nil ?_
        go_upto_region 11 with fail
        generalize hw7 : World.drew (World.setCell _ _ _) = w7
        have H7 := Lib.hid (show Held F Z W ([tBlk p (wrRow { x with base := o, room := r, next := max x.next o } (.slice na nl nc)), tSq eU8 5 (.slice na nl nc) (x.all.drop o)] ++ ts) w7 by
          rw [← hw7]
          exact (H6.out.set 0 rfl (wrRow { x with base := o, room := r, next := max x.next o } (.slice na nl nc)) ((Fr.refl (fun k => k = p) w6).setCell (p := ⟨p, 5, none⟩) (.inl rfl) (.int .i64 (nn : Int))) (by have hr := H6.out.blk 0 rfl; rw [HNN.out, HNX.out]; (apply row_trans; focus (repeat (first | (with_reducible exact hr) | (with_reducible apply row_set) | (with_reducible apply row_drewN) | (with_reducible apply row_drew) | (with_reducible apply row_alloc) | (apply row_set_other (by first | omega | (simp <;> omega)))))); rfl)).drew)
        clear hw7 H6 c4' c5' hup hpl hmx
        have hup := blk_free (H7.out.blk 0 rfl)
        have hpl := lt_of_block (H7.out.blk 0 rfl)
        obtain ⟨-, -, -, -, -, -, -, -, c8, -, -, -, -⟩ := wr_cells (H7.out.blk 0 rfl)
        have H8 := Lib.hid (H7.out.set 0 rfl (wrRow { x with base := o, room := r, next := max x.next o, idle := 0 } (.slice na nl nc)) ((Fr.refl (fun k => k = p) w7).setCell (p := ⟨p, 8, none⟩) (.inl rfl) (.int .i64 0)) (by have hr := H7.out.blk 0 rfl; (apply row_trans; focus (repeat (first | (with_reducible exact hr) | (with_reducible apply row_set) | (with_reducible apply row_drewN) | (with_reducible apply row_drew) | (with_reducible apply row_alloc) | (apply row_set_other (by first | omega | (simp <;> omega)))))); rfl))
        go_upto_region 16 with fail
        generalize hw8 : World.setCell _ _ _ = w8
        have H8 := Lib.hid (show Held F Z W ([tBlk p (wrRow { x with base := o, room := r, next := max x.next o, idle := 0 } (.slice na nl nc)), tSq eU8 5 (.slice na nl nc) (x.all.drop o)] ++ ts) w8 by rw [← hw8]; exact H8.out)
        clear hw8 H7 c8 hup hpl
        have hup := blk_free (H8.out.blk 0 rfl)
        have hpl := lt_of_block (H8.out.blk 0 rfl)
        obtain ⟨-, -, -, -, -, -, -, -, -, -, -, -, c12⟩ := wr_cells (H8.out.blk 0 rfl)
        have c12' : w8.cell? ⟨p, 12, none⟩ = some (.bool x.done) := c12
        clear c12
        cases hdx : x.done
        case false =>
          have HDX := Lib.hid hdx
          rw [hdx] at c12'
          clear hdx
          cases dn
          case false => have H9 := Lib.hid (H8.out.set 0 rfl (wrRow { x with base := o, room := r, next := max x.next o, idle := 0, done := x.done || false } (.slice na nl nc)) ((Fr.refl (fun k => k = p) w8).setCell (p := ⟨p, 12, none⟩) (.inl rfl) (.bool false)) (by have hr := H8.out.blk 0 rfl; rw [show wrRow { x with base := o, room := r, next := max x.next o, idle := 0, done := x.done || false } (.slice na nl nc) = .cells #[.int .i64 (x.win : Int), .int .i64 2, (.slice na nl nc), .int .i64 (x.all.length : Int), .int .i64 (o : Int), .int .i64 ((max x.next o : Nat) : Int), .int .i64 (x.top : Int), .int .i64 (r : Int), .int .i64 0, .bool x.closed, .bool x.ended, .bool x.marked, .bool false] 76 by rw [HDX.out]; rfl]; (apply row_trans; focus (repeat (first | (with_reducible exact hr) | (with_reducible apply row_set) | (with_reducible apply row_drewN) | (with_reducible apply row_drew) | (with_reducible apply row_alloc) | (apply row_set_other (by first | omega | (simp <;> omega)))))); rfl)); go_wp2_with fail; go_ret; rw [HA.out]; exact ⟨rfl, Held.shut (f := wrThs p { x with base := o, room := r, next := max x.next o, idle := 0, done := x.done || false }) (i := (.slice na nl nc)) H9.out⟩
          case true => have H9 := Lib.hid (H8.out.set 0 rfl (wrRow { x with base := o, room := r, next := max x.next o, idle := 0, done := x.done || true } (.slice na nl nc)) ((Fr.refl (fun k => k = p) w8).setCell (p := ⟨p, 12, none⟩) (.inl rfl) (.bool true)) (by have hr := H8.out.blk 0 rfl; rw [show wrRow { x with base := o, room := r, next := max x.next o, idle := 0, done := x.done || true } (.slice na nl nc) = .cells #[.int .i64 (x.win : Int), .int .i64 2, (.slice na nl nc), .int .i64 (x.all.length : Int), .int .i64 (o : Int), .int .i64 ((max x.next o : Nat) : Int), .int .i64 (x.top : Int), .int .i64 (r : Int), .int .i64 0, .bool x.closed, .bool x.ended, .bool x.marked, .bool true] 76 by rw [HDX.out]; rfl]; (apply row_trans; focus (repeat (first | (with_reducible exact hr) | (with_reducible apply row_set) | (with_reducible apply row_drewN) | (with_reducible apply row_drew) | (with_reducible apply row_alloc) | (apply row_set_other (by first | omega | (simp <;> omega)))))); rfl)); go_wp2_with fail; go_ret; rw [HA.out]; exact ⟨rfl, Held.shut (f := wrThs p { x with base := o, room := r, next := max x.next o, idle := 0, done := x.done || true }) (i := (.slice na nl nc)) H9.out⟩
        case true =>
          have HDX := Lib.hid hdx
          rw [hdx] at c12'
          clear hdx
          cases dn
          case false => have H9 := Lib.hid (H8.out.set 0 rfl (wrRow { x with base := o, room := r, next := max x.next o, idle := 0, done := x.done || false } (.slice na nl nc)) ((Fr.refl (fun k => k = p) w8).setCell (p := ⟨p, 12, none⟩) (.inl rfl) (.bool true)) (by have hr := H8.out.blk 0 rfl; rw [show wrRow { x with base := o, room := r, next := max x.next o, idle := 0, done := x.done || false } (.slice na nl nc) = .cells #[.int .i64 (x.win : Int), .int .i64 2, (.slice na nl nc), .int .i64 (x.all.length : Int), .int .i64 (o : Int), .int .i64 ((max x.next o : Nat) : Int), .int .i64 (x.top : Int), .int .i64 (r : Int), .int .i64 0, .bool x.closed, .bool x.ended, .bool x.marked, .bool true] 76 by rw [HDX.out]; rfl]; (apply row_trans; focus (repeat (first | (with_reducible exact hr) | (with_reducible apply row_set) | (with_reducible apply row_drewN) | (with_reducible apply row_drew) | (with_reducible apply row_alloc) | (apply row_set_other (by first | omega | (simp <;> omega)))))); rfl)); go_wp2_with fail; go_ret; rw [HA.out]; exact ⟨rfl, Held.shut (f := wrThs p { x with base := o, room := r, next := max x.next o, idle := 0, done := x.done || false }) (i := (.slice na nl nc)) H9.out⟩
          case true => have H9 := Lib.hid (H8.out.set 0 rfl (wrRow { x with base := o, room := r, next := max x.next o, idle := 0, done := x.done || true } (.slice na nl nc)) ((Fr.refl (fun k => k = p) w8).setCell (p := ⟨p, 12, none⟩) (.inl rfl) (.bool true)) (by have hr := H8.out.blk 0 rfl; rw [show wrRow { x with base := o, room := r, next := max x.next o, idle := 0, done := x.done || true } (.slice na nl nc) = .cells #[.int .i64 (x.win : Int), .int .i64 2, (.slice na nl nc), .int .i64 (x.all.length : Int), .int .i64 (o : Int), .int .i64 ((max x.next o : Nat) : Int), .int .i64 (x.top : Int), .int .i64 (r : Int), .int .i64 0, .bool x.closed, .bool x.ended, .bool x.marked, .bool true] 76 by rw [HDX.out]; rfl]; (apply row_trans; focus (repeat (first | (with_reducible exact hr) | (with_reducible apply row_set) | (with_reducible apply row_drewN) | (with_reducible apply row_drew) | (with_reducible apply row_alloc) | (apply row_set_other (by first | omega | (simp <;> omega)))))); rfl)); go_wp2_with fail; go_ret; rw [HA.out]; exact ⟨rfl, Held.shut (f := wrThs p { x with base := o, room := r, next := max x.next o, idle := 0, done := x.done || true }) (i := (.slice na nl nc)) H9.out⟩
end
end Go.Proofs.Ytbibippdafnenaa
