/- The walk of PortCalls. -/
import Derived.Test.YtbgjpfbcelkllaaPkR1
import Derived.Test.YtbgjpfbcelkllaaPkR3
import Derived.Test.YtbgjpfbcelkllaaPkG3
import Derived.Test.YtbgjpfbcelkllaaPkA1
import Derived.Deep.QuietTactic
import Derived.BigQuiet
import Derived.Deep.CutBlock
namespace Go.Proofs.Ytbgjpfbcelkllaa
set_option maxHeartbeats 64000000
section
open Go.RowKit
set_option maxRecDepth 100000
section
variable {F Z:BS} {W w:World} {ts:List Th} {p N:Nat} {a:Prt}
theorem dY.pc {la : Option Addr} {lc : Nat} {l : List Pc} (h : dY F Z W ts w) (i : Nat) (hi : ts[i]? = some (tRd ePc (.slice la l.length lc) l)) {k : Nat} {x : Pc} (hx : l[k]? = some x) :
    ∃ b off da dc ua uc, la = some ⟨b, off, none⟩ ∧ dY F Z W (ts ++ [tBy (.slice da x.data.length dc) x.data, tRd ePt (.slice ua x.arr.length uc) x.arr]) w ∧ x.data.length ≤ maxLen ∧ x.arr.length ≤ maxLen ∧ w.cell? ⟨b, off + k * 5, none⟩ = some (.int .i64 x.kind) ∧ w.cell? ⟨b, off + k * 5 + 1, none⟩ = some (.int .i64 x.cls) ∧ w.cell? ⟨b, off + k * 5 + 2, none⟩ = some (.int .i64 x.num) ∧ w.cell? ⟨b, off + k * 5 + 3, none⟩ = some (.slice da x.data.length dc) ∧ w.cell? ⟨b, off + k * 5 + 4, none⟩ = some (.slice ua x.arr.length uc) := by
  obtain ⟨_, _, hrd⟩ := h.get i hi
  obtain ⟨b, off, da, dc, ua, uc, rfl, hda, hua, k0, k1, k2, k3, k4⟩ := pc_at hrd hx
  have hdl : x.data.length ≤ maxLen := (By.cases hda.1).1
  obtain ⟨_, c', e, hul, hum⟩ := hua.shape
  have hul : x.arr.length ≤ maxLen := by obtain ⟨_, rfl⟩ : _ ∧ uc = c' := by simpa using e
                                         omega
  refine ⟨b, off, da, dc, ua, uc, rfl, ?_, hdl, hul, k0, k1, k2, k3, k4⟩
  have h2 := (h.weak i (T := tBy (.slice da x.data.length dc) x.data) hi fun G Y hon => by
    obtain ⟨b', off', da', dc', ua', uc', e', hda', hua', _, _, _, k3', k4'⟩ := pc_at (show RdS ePc w Y _ _ from hon) hx
    obtain ⟨rfl, rfl⟩ : b = b' ∧ off = off' := by simpa using e'
    rw [k3] at k3'
    obtain ⟨rfl, rfl⟩ : da = da' ∧ dc = dc' := by simpa using k3'
    exact hda').weak i (T := tRd ePt (.slice ua x.arr.length uc) x.arr) (by rw [List.getElem?_append_left (List.getElem?_eq_some_iff.1 hi).1]; exact hi) fun G Y hon => by
    obtain ⟨b', off', da', dc', ua', uc', e', hda', hua', _, _, _, k3', k4'⟩ := pc_at (show RdS ePc w Y _ _ from hon) hx
    obtain ⟨rfl, rfl⟩ : b = b' ∧ off = off' := by simpa using e'
    rw [k4] at k4'
    obtain ⟨rfl, rfl⟩ : ua = ua' ∧ uc = uc' := by simpa using k4'
    exact hua'
  rwa [List.append_assoc] at h2
end
abbrev pcTs (p q:Nat) (a:Prt) (la:Option Addr) (l:List Pc) (lc b0:Nat) (O:Obj):List Th:=[bP p a,tRp q a,tRd ePc (.slice la l.length lc) l,dJ b0 O]
abbrev cfgO (inc rb ro n rc wi ti de:Nat):Obj:=.cells #[.int .i64 (inc:Int),.slice (some ⟨rb,ro,none⟩) n rc,.int .i64 (wi:Int),.int .i64 (ti:Int),.int .i64 (de:Int)] 24
abbrev actO (x:Pc) (da:Option Addr) (dc:Nat) (ua:Option Addr) (uc:Nat):Obj:=.cells #[.int .i64 x.kind,.int .i64 x.cls,.int .i64 x.num,.slice da x.data.length dc,.slice ua x.arr.length uc] 30
theorem walkPortCalls (W : World) (v0 v1 : Value) (o0 : IsPcf W v0) (o1 : IsSl rPc W v1) :
    Calls Try.prog 3 #[v0, v1] W fun e w' => e = .returned (.bool true) ∧ Below W.heap.size W w' := by
  obtain ⟨l, hl⟩ := pcs_of o1
  obtain ⟨la, lc, rfl, _, _⟩ := hl.shape
  obtain ⟨⟨ci, cr, cw, ct, cd⟩, ra, rc, rfl, hr⟩ := o0
  dsimp only at hr ⊢
  have hrl := hr.shape
  have hrl2 : cr.length ≤ rc ∧ rc ≤ maxLen := by
    obtain ⟨_, c', e, h1, h2⟩ := hrl
    obtain ⟨_, rfl⟩ : _ ∧ rc = c' := by simpa using e
    exact ⟨h1, h2⟩
  have HS := aQ (((dY.start0 (fun _ => False) (Old W) (fun _ f _ => f) W).addOld (T := tRd ePc (.slice la l.length lc) l) (RdS.mono hl fun k h => ⟨h, id⟩)).addOld (T := tRd (eInt .i64) (.slice ra cr.length rc) cr) (RdS.mono hr fun k h => ⟨h, id⟩))
  clear hl o1 hr hrl
  have H0 := aQ (HS.out.new (.cells #[.int .i64 ci, .slice ra cr.length rc, .int .i64 cw, .int .i64 ct, .int .i64 cd] 24))
  clear HS
  go_enter Try.func3, Try.ntmps3
  go_wp2_with fail
  refine (awake_any _).mono ?_
  rintro e w1 ⟨rfl, hb⟩
  obtain ⟨b0, hb0⟩ : ∃ b0, b0 = W.heap.size := ⟨_, rfl⟩
  rw [← hb0]
  have H1 := aQ (show dY (fun _ => False) (Old W) W [tRd ePc (.slice la l.length lc) l, tRd (eInt .i64) (.slice ra cr.length rc) cr, dJ b0 (.cells #[.int .i64 ci, .slice ra cr.length rc, .int .i64 cw, .int .i64 ct, .int .i64 cd] 24)] w1 by rw [hb0]; exact H0.out.own hb)
  clear H0 hb hb0
  have hbox := H1.out.blk 2 rfl
  have c1 : w1.cell? ⟨b0, 1, none⟩ = some (.slice ra cr.length rc) := aJ hbox rfl
  clear hbox
  by_cases hbig : 40 < l.length ∨ 20 < cr.length
  · have hb2 : 40 < l.length ∨ (¬ 40 < l.length ∧ 20 < cr.length) := by omega
    clear hbig
    rcases hb2 with h0 | ⟨h0, h2⟩
    all_goals
      go_wp2_with fail
      go_ret
      exact ⟨rfl, H1.out.below⟩
  · have hll : l.length ≤ 40 := by omega
    have hrr : cr.length ≤ 20 := by omega
    clear hbig
    go_wp2_with fail
    go_loopw [43, 6, 8] (fun i _ _ wr => ∃ k : Nat, k ≤ l.length ∧ i = .int .i64 (k : Int) ∧ Hid (∀ x ∈ l.take k, x.Small) ∧ Hid (dY (fun _ => False) (Old W) W [tRd ePc (.slice la l.length lc) l, tRd (eInt .i64) (.slice ra cr.length rc) cr, dJ b0 (.cells #[.int .i64 ci, .slice ra cr.length rc, .int .i64 cw, .int .i64 ct, .int .i64 cd] 24)] wr)) (fun i _ _ _ => l.length - (intOf i).toNat)
    case atStart => exact ⟨0, Nat.zero_le _, rfl, aQ (by simp), H1⟩
    case round =>
      clear H1 c1
      obtain ⟨k, hk, rfl, HSM, HK⟩ := hrel
      by_cases hlt : k < l.length
      · obtain ⟨x, hx⟩ : ∃ x, l[k]? = some x := ⟨_, List.getElem?_eq_getElem hlt⟩
        obtain ⟨lb, lo, da, dc, ua, uc, e1, hk2, _, _, k0, k1, k2, k3, k4⟩ := HK.out.pc 0 rfl hx
        subst e1
        have HX := aQ hx
        have H2 := aQ (show dY (fun _ => False) (Old W) W [tRd ePc (.slice (some ⟨lb, lo, none⟩) l.length lc) l, tRd (eInt .i64) (.slice ra cr.length rc) cr, dJ b0 (.cells #[.int .i64 ci, .slice ra cr.length rc, .int .i64 cw, .int .i64 ct, .int .i64 cd] 24), tBy (.slice da x.data.length dc) x.data, tRd ePt (.slice ua x.arr.length uc) x.arr] wr from hk2)
        clear hx hk2 HK
        as_aux_lemma =>
          by_cases hbig : 10 < x.arr.length ∨ 200 < x.data.length
          · have hb2 : 10 < x.arr.length ∨ (¬ 10 < x.arr.length ∧ 200 < x.data.length) := by omega
            clear hbig
            rcases hb2 with h0 | ⟨h0, h2⟩
            all_goals
              go_wp2_with fail
              go_ret
              exact ⟨rfl, (H2.out.own (by (repeat (first | (with_reducible exact Below.refl _ _) | (with_reducible refine Bw.alloc ?_ _) | (with_reducible refine Bw.drewN ?_ _) | (with_reducible refine Bw.drew ?_) | (with_reducible refine Below.setCell ?_ (by simp <;> omega) _))))).below⟩
          · have hal : x.arr.length ≤ 10 := by omega
            have hdl : x.data.length ≤ 200 := by omega
            clear hbig
            go_wp2_with fail
            generalize hw2 : World.alloc wr _ = w2
            have H3 := aQ (show dY (fun _ => False) (Old W) W [tRd ePc (.slice (some ⟨lb, lo, none⟩) l.length lc) l, tRd (eInt .i64) (.slice ra cr.length rc) cr, dJ b0 (.cells #[.int .i64 ci, .slice ra cr.length rc, .int .i64 cw, .int .i64 ct, .int .i64 cd] 24), tBy (.slice da x.data.length dc) x.data, tRd ePt (.slice ua x.arr.length uc) x.arr] w2 from by rw [← hw2]; exact H2.out.own (by (repeat (first | (with_reducible exact Below.refl _ _) | (with_reducible refine Bw.alloc ?_ _) | (with_reducible refine Bw.drewN ?_ _) | (with_reducible refine Bw.drew ?_) | (with_reducible refine Below.setCell ?_ (by simp <;> omega) _)))))
            clear hw2 H2 k0 k1 k2 k3 k4
            go_loopw [60, 8] (fun i _ wr => ∃ j : Nat, j ≤ x.arr.length ∧ i = .int .i64 (j : Int) ∧ Hid (∀ y ∈ x.arr.take j, y.pay.length ≤ 200) ∧ Hid (dY (fun _ => False) (Old W) W [tRd ePc (.slice (some ⟨lb, lo, none⟩) l.length lc) l, tRd (eInt .i64) (.slice ra cr.length rc) cr, dJ b0 (.cells #[.int .i64 ci, .slice ra cr.length rc, .int .i64 cw, .int .i64 ct, .int .i64 cd] 24), tBy (.slice da x.data.length dc) x.data, tRd ePt (.slice ua x.arr.length uc) x.arr] wr)) (fun i _ _ => x.arr.length - (intOf i).toNat)
            case atStart => exact ⟨0, Nat.zero_le _, rfl, aQ (by simp), H3⟩
            case round =>
              clear H3
              obtain ⟨j, hj, rfl, HSJ, HJ⟩ := hrel
              by_cases hlj : j < x.arr.length
              · obtain ⟨y, hy⟩ : ∃ y, x.arr[j]? = some y := ⟨_, List.getElem?_eq_getElem hlj⟩
                obtain ⟨_, _, hrd⟩ := HJ.out.get 4 (T := tRd ePt (.slice ua x.arr.length uc) x.arr) rfl
                obtain ⟨b, off, pa, pc, e1, hpb, k0, k1, k2, k3, k4⟩ := pt_at hrd hy
                subst e1
                have hyl : y.pay.length ≤ maxLen := (By.cases hpb.1).1
                have HY := aQ hy
                clear hrd hy hpb
                by_cases hbig : 200 < y.pay.length
                · go_wp2_with fail
                  go_ret
                  exact ⟨rfl, (HJ.out.own (by (repeat (first | (with_reducible exact Below.refl _ _) | (with_reducible refine Bw.alloc ?_ _) | (with_reducible refine Bw.drewN ?_ _) | (with_reducible refine Bw.drew ?_) | (with_reducible refine Below.setCell ?_ (by simp <;> omega) _))))).below⟩
                · have hyl2 : y.pay.length ≤ 200 := by omega
                  have HT := aQ (show ∀ z ∈ x.arr.take (j + 1), z.pay.length ≤ 200 by
                    rw [List.take_add_one, HY.out]
                    intro z hz
                    rcases List.mem_append.1 hz with hz | hz
                    · exact HSJ.out z hz
                    · obtain rfl : z = y := by simpa using hz
                      exact hyl2)
                  clear hbig HSJ HY
                  go_wp2_with fail
                  go_roundw
                  case rel => exact ⟨j + 1, by omega, by go_num, HT, aQ (HJ.out.own (by (repeat (first | (with_reducible exact Below.refl _ _) | (with_reducible refine Bw.alloc ?_ _) | (with_reducible refine Bw.drewN ?_ _) | (with_reducible refine Bw.drew ?_) | (with_reducible refine Below.setCell ?_ (by simp <;> omega) _)))))⟩
                  case measure => simp [intOf]; omega
              · obtain rfl : x.arr.length = j := by omega
                rw [List.take_length] at HSJ
                have HT := aQ (show ∀ z ∈ l.take (k + 1), z.Small by
                  rw [List.take_add_one, HX.out]
                  intro z hz
                  rcases List.mem_append.1 hz with hz | hz
                  · exact HSM.out z hz
                  · obtain rfl : z = x := by simpa using hz
                    exact ⟨hal, hdl, HSJ.out⟩)
                have H4 := aQ (show dY (fun _ => False) (Old W) W [tRd ePc (.slice (some ⟨lb, lo, none⟩) l.length lc) l, tRd (eInt .i64) (.slice ra cr.length rc) cr, dJ b0 (.cells #[.int .i64 ci, .slice ra cr.length rc, .int .i64 cw, .int .i64 ct, .int .i64 cd] 24)] _ from (HJ.out.dropLast (us := [tRd ePc (.slice (some ⟨lb, lo, none⟩) l.length lc) l, tRd (eInt .i64) (.slice ra cr.length rc) cr, dJ b0 (.cells #[.int .i64 ci, .slice ra cr.length rc, .int .i64 cw, .int .i64 ct, .int .i64 cd] 24), tBy (.slice da x.data.length dc) x.data])).dropLast (us := [tRd ePc (.slice (some ⟨lb, lo, none⟩) l.length lc) l, tRd (eInt .i64) (.slice ra cr.length rc) cr, dJ b0 (.cells #[.int .i64 ci, .slice ra cr.length rc, .int .i64 cw, .int .i64 ct, .int .i64 cd] 24)]))
                clear HSJ HSM HX HJ
                go_wp2_with fail
                go_roundw
                case rel => exact ⟨k + 1, by omega, by go_num, HT, H4⟩
                case measure => simp [intOf]; omega
      · obtain rfl : l.length = k := by omega
        rw [List.take_length] at HSM
        have hbox := HK.out.blk 2 rfl
        have c0 : wr.cell? ⟨b0, 0, none⟩ = some (.int .i64 ci) := aJ hbox rfl
        have c1 : wr.cell? ⟨b0, 1, none⟩ = some (.slice ra cr.length rc) := aJ hbox rfl
        have c2 : wr.cell? ⟨b0, 2, none⟩ = some (.int .i64 cw) := aJ hbox rfl
        have c3 : wr.cell? ⟨b0, 3, none⟩ = some (.int .i64 ct) := aJ hbox rfl
        have c4 : wr.cell? ⟨b0, 4, none⟩ = some (.int .i64 cd) := aJ hbox rfl
        clear hbox
        obtain ⟨_, _, hrd⟩ := HK.out.get 1 (T := tRd (eInt .i64) (.slice ra cr.length rc) cr) rfl
        have hn := nums_of (show RdS (eInt .i64) wr _ _ _ from hrd)
        by_cases hv : V11 ci cr cw ct cd
        · have hcf := hv.ok
          obtain ⟨aZ, hrooms⟩ := nats_of fun x hx => (hcf.rm x hx).1
          subst hrooms
          rw [List.length_map] at hrd hrr hrl2 HK c1
          obtain ⟨inc, rfl⟩ : ∃ n : Nat, ci = (n : Int) := ⟨ci.toNat, by have := hcf.i1; omega⟩
          obtain ⟨wi, rfl⟩ : ∃ n : Nat, cw = (n : Int) := ⟨cw.toNat, by have := hcf.w1; omega⟩
          obtain ⟨ti, rfl⟩ : ∃ n : Nat, ct = (n : Int) := ⟨ct.toNat, by have := hcf.t1; omega⟩
          obtain ⟨de, rfl⟩ : ∃ n : Nat, cd = (n : Int) := ⟨cd.toNat, by have := hcf.d1; omega⟩
          have hn4 : aZ.length ≤ 4 := by have := hcf.n4; rwa [List.length_map] at this
          have hn1 : 1 ≤ aZ.length := by have := hcf.n1; rwa [List.length_map] at this
          obtain ⟨rb, ro, e1, _⟩ := hn 0 (aZ.getD 0 0) (by rw [List.getElem?_map, bT (d := 0) (show 0 < aZ.length by omega)]; rfl)
          subst e1
          have HCF := aQ hcf
          have HN := aQ hn
          have HV := aQ hv
          clear hrd hn hv hcf hlt hrr
          go_wp2_with fail
          refine (pnew_any (inc := inc) (wi := wi) (ti := ti) (de := de) (aZ := aZ) (rb := rb) (ro := ro) (rc := rc) wr HCF.out hrl2.1 hrl2.2 (fun k x hk => by
            obtain ⟨b, o, e, hc⟩ := HN.out k x (by rw [List.getElem?_map, hk]; rfl)
            obtain ⟨rfl, rfl⟩ : rb = b ∧ ro = o := by simpa using e
            exact hc)).mono ?_
          rintro e w2 ⟨p, rfl, hm⟩
          have h2 := (((HK.out.made hm).weak 1 (T := tRd dK (.slice (some ⟨rb, ro, none⟩) aZ.length rc) aZ) rfl fun G Y hon => rd_nats hon).pick [3, 0, 4, 2] [bP p (dG inc aZ wi ti de), tRd ePc (.slice la l.length lc) l, tRd dK (.slice (some ⟨rb, ro, none⟩) aZ.length rc) aZ, dJ b0 (.cells #[.int .i64 (inc : Int), .slice (some ⟨rb, ro, none⟩) aZ.length rc, .int .i64 (wi : Int), .int .i64 (ti : Int), .int .i64 (de : Int)] 24)] (by decide) rfl)
          have HN2 := aQ (HN.out.below hm.1)
          have HPI := aQ (PcI.new HCF.out)
          obtain ⟨a0, ha0⟩ : ∃ a0, a0 = dG inc aZ wi ti de := ⟨_, rfl⟩
          rw [← ha0] at h2 HPI
          have HA0 := aQ ha0
          clear ha0
          have H2 := aQ h2
          clear c0 c1 c2 c3 c4 HK HN HCF
          obtain ⟨c0, c1, c2, c3, c4⟩ := five_cells (h2.blk 3 rfl)
          have HQ := aQ (fun (w' : World) (hb : Below w2.heap.size w2 w') => valid11_c (inc := (inc : Int)) (wi := (wi : Int)) (ti := (ti : Int)) (de := (de : Int)) (aZ := aZ.map fun (x : Nat) => (x : Int)) (ra := some ⟨rb, ro, none⟩) (rc := rc) w' (by rw [List.length_map]; omega) (HN2.out.below hb))
          rw [decide_eq_true HV.out, List.length_map] at HQ
          clear h2 hm HV HN2
          go_wp2_with fail
          refine (HQ.out _ (by (repeat (first | (with_reducible exact Below.refl _ _) | (with_reducible refine Bw.alloc ?_ _) | (with_reducible refine Bw.drewN ?_ _) | (with_reducible refine Bw.drew ?_) | (with_reducible refine Below.setCell ?_ (by simp <;> omega) _))))).mono ?_
          rintro e w3 ⟨rfl, hb⟩
          have HB := aQ (show Below w2.heap.size w2 w3 from Below.trans (by (repeat (first | (with_reducible exact Below.refl _ _) | (with_reducible refine Bw.alloc ?_ _) | (with_reducible refine Bw.drewN ?_ _) | (with_reducible refine Bw.drew ?_) | (with_reducible refine Below.setCell ?_ (by simp <;> omega) _)))) (hb.mono (by simp)))
          have h3 := (H2.out.own HB.out)
          have r11 := (hb.block _ (lt_of_block (heap_alloc_new w2 (.cells #[.int .i64 (inc : Int), .slice (some ⟨rb, ro, none⟩) aZ.length rc, .int .i64 (wi : Int), .int .i64 (ti : Int), .int .i64 (de : Int)] 37)))).trans (heap_alloc_new w2 (.cells #[.int .i64 (inc : Int), .slice (some ⟨rb, ro, none⟩) aZ.length rc, .int .i64 (wi : Int), .int .i64 (ti : Int), .int .i64 (de : Int)] 37))
          have H3 := aQ h3
          clear c0 c1 c2 c3 c4 hb HQ HB H2
          obtain ⟨c0, c1, c2, c3, c4⟩ := five_cells r11
          clear h3 r11
          go_wp2_with fail
          refine (rnew_c (inc := inc) (wi := wi) (ti := ti) (de := de) hn1 hn4 H3.out 2 rfl).mono ?_
          rintro e w4 ⟨q, rfl, h⟩
          rw [← HA0.out] at h
          have H4 := aQ (show dY (fun _ => False) (Old W) W (pcTs p q a0 la l lc b0 (cfgO inc rb ro aZ.length rc wi ti de)) w4 from h.pick [1, 0, 2, 4] _ (by decide) rfl)
          clear h H3 c0 c1 c2 c3 c4 HA0
          go_wp2_with fail
          go_loopw [105, 12, 14, 15, 16, 17, 18, 19, 20, 21, 22, 23, 24, 25, 26, 27, 28, 29] (fun i s12 _ _ _ _ _ _ _ _ _ _ _ _ _ _ _ _ wr => ∃ (k q : Nat) (a : Prt), k ≤ l.length ∧ i = .int .i64 (k : Int) ∧ s12 = .pointer (some ⟨q, 0, none⟩) ∧ Hid (PcI aZ.length k a) ∧ Hid (dY (fun _ => False) (Old W) W (pcTs p q a la l lc b0 (cfgO inc rb ro aZ.length rc wi ti de)) wr)) (fun i _ _ _ _ _ _ _ _ _ _ _ _ _ _ _ _ _ _ => l.length - (intOf i).toNat)
          case atStart => exact ⟨0, q, a0, Nat.zero_le _, rfl, rfl, HPI, H4⟩
          case round =>
            clear H4 HPI
            obtain ⟨k, q, a, hk, rfl, rfl, HI, HK⟩ := hrel
            by_cases hlt : k < l.length
            · obtain ⟨x, hx⟩ : ∃ x, l[k]? = some x := ⟨_, List.getElem?_eq_getElem hlt⟩
              obtain ⟨lb, lo, da, dc, ua, uc, e1, hk2, hdm, ham, k0, k1, k2, k3, k4⟩ := HK.out.pc 2 rfl hx
              subst e1
              have HX := aQ (HSM.out x (List.mem_of_getElem? hx))
              have hal : x.arr.length ≤ 10 := HX.out.1
              have hdl : x.data.length ≤ 200 := HX.out.2.1
              have h3 := (show dY (fun _ => False) (Old W) W (pcTs p q a (some ⟨lb, lo, none⟩) l lc b0 (cfgO inc rb ro aZ.length rc wi ti de) ++ [tBy (.slice da x.data.length dc) x.data, tRd ePt (.slice ua x.arr.length uc) x.arr]) wr from hk2).new (actO x da dc ua uc)
              obtain ⟨bx, hbx⟩ : ∃ b, b = wr.heap.size := ⟨_, rfl⟩
              rw [← hbx] at h3
              have H3 := aQ h3
              clear hx hk2 HK h3
              go_upto_block 6 with fail
              rw [← hbx]
              clear hbx k0 k1 k2 k3 k4
              generalize wr.alloc (actO x da dc ua uc) = w5 at H3 ⊢
              go_cut [12, 15, 16, 17, 18, 19, 20, 21, 22, 23, 24, 25] from 111 to 215 (fun s12 _ _ _ _ _ _ _ _ _ _ _ wc => ∃ q', s12 = .pointer (some ⟨q', 0, none⟩) ∧ Hid (dY (fun _ => False) (Old W) W (pcTs p q' (x.act a) (some ⟨lb, lo, none⟩) l lc b0 (cfgO inc rb ro aZ.length rc wi ti de)) wc))
              case first =>
                have H3 := aQ (show dY (fun _ => False) (Old W) W (bP p a :: tRp q a :: [tRd ePc (.slice (some ⟨lb, lo, none⟩) l.length lc) l, dJ b0 (cfgO inc rb ro aZ.length rc wi ti de), tBy (.slice da x.data.length dc) x.data, tRd ePt (.slice ua x.arr.length uc) x.arr, dJ bx (actO x da dc ua uc)]) w5 from H3.out)
                have hb := H3.out.blk 6 rfl
                have b1 : w5.cell? ⟨bx, 1, none⟩ = some (.int .i64 x.cls) := aJ hb rfl
                have b2 : w5.cell? ⟨bx, 2, none⟩ = some (.int .i64 x.num) := aJ hb rfl
                have b3 : w5.cell? ⟨bx, 3, none⟩ = some (.slice da x.data.length dc) := aJ hb rfl
                have b4 : w5.cell? ⟨bx, 4, none⟩ = some (.slice ua x.arr.length uc) := aJ hb rfl
                clear hb
                by_cases e0 : x.kind = 0
                · -- K0{
                  as_aux_lemma =>
                    have HA := aQ (show x.act a = (a.dQ x.cls x.data).2 from if_pos e0)
                    have t0 : (x.kind == 0) = true := by simp [e0]
                    obtain ⟨r, hr⟩ : ∃ r : Int, r = ((a.dQ x.cls x.data).1 : Int) := ⟨_, rfl⟩
                    have HR := aQ hr
                    have hself : (r != r) = false := by simp
                    clear e0 hr b2 b4
                    go_wp2_with fail
                    refine wp_region_held_drew (S := fun w' => w'.cell? ⟨bx, 1, none⟩ = some (.int .i64 x.cls) ∧ w'.cell? ⟨bx, 3, none⟩ = some (.slice da x.data.length dc)) (by kernel_rfl) ⟨b1, b3⟩ (fun hS0 => ?_)
                    change wpAnyH _ _ _ _ _ (8 + 5) _ _ _
                    refine aH 0 5 (by kernel_rfl) hS0 (fun _ _ _ _ _ h => h) ?_
                    simp only [List.drop_zero, List.take_succ_cons, List.take_zero]
                    iterate 5 (refine aR (v := ?_) (by rfl) ?_ ?_; rotate_left 1; (focus ((intro w' hS'; have h0 := hS'.1; have h1 := hS'.2; go_simp); try with_reducible rfl)); simp only [Act.put, List.setIfInBounds_toArray, List.set_cons_zero, List.set_cons_succ])
                    refine aT ?_
                    change wpAnyH _ _ _ _ _ (3 + 5) _ _ _
                    refine aH 6 5 (by kernel_rfl) hS0 (fun _ _ _ _ _ h => h) ?_
                    simp only [List.drop_succ_cons, List.drop_zero, List.take_succ_cons, List.take_zero]
                    iterate 5 (refine aR (v := ?_) (by rfl) ?_ ?_; rotate_left 1; (focus ((intro w' hS'; have h0 := hS'.1; have h1 := hS'.2; go_simp); try with_reducible rfl)); simp only [Act.put, List.setIfInBounds_toArray, List.set_cons_zero, List.set_cons_succ])
                    refine aT ?_
                    refine aM 5 (by kernel_rfl) rfl (fun K hK => ?_)
                    (refine step_call (f := ?_) (args := ?_) (by rfl) ?_ ?_; rotate_left 2; (focus (go_simp; first | (with_reducible rfl) | (refine ⟨?_, ?_⟩ <;> with_reducible rfl))); (refine ((poffer_c H3.out.drew HI.out.ok (by omega) x.cls _ x.data 3 rfl)).mono ?_); rintro e' w'' ⟨rfl, h⟩)
                    refine ⟨_, rfl, ?_⟩
                    rw [← HR.out]
                    have hb := h.blk 6 rfl
                    have hS1 : w''.cell? ⟨bx, 1, none⟩ = some (.int .i64 x.cls) ∧ w''.cell? ⟨bx, 3, none⟩ = some (.slice da x.data.length dc) := ⟨aJ hb rfl, aJ hb rfl⟩
                    refine hK.out _ _ hS1 ?_
                    have H5 := aQ h.flip
                    clear hK K hb h H3
                    refine aM 11 (by kernel_rfl) rfl (fun K hK => ?_)
                    (refine step_call (f := ?_) (args := ?_) (by rfl) ?_ ?_; rotate_left 2; (focus (go_simp; first | (with_reducible rfl) | (refine ⟨?_, ?_⟩ <;> with_reducible rfl))); (refine ((roffer_c H5.out HI.out.ok (by omega) x.cls _ x.data 3 rfl)).mono ?_); rintro e' w'' ⟨rfl, h⟩)
                    refine ⟨_, rfl, ?_⟩
                    rw [← HR.out]
                    have hb := h.blk 6 rfl
                    have hS2 : w''.cell? ⟨bx, 1, none⟩ = some (.int .i64 x.cls) ∧ w''.cell? ⟨bx, 3, none⟩ = some (.slice da x.data.length dc) := ⟨aJ hb rfl, aJ hb rfl⟩
                    refine hK.out _ _ hS2 ?_
                    have H6 := aQ (show dY (fun _ => False) (Old W) W (pcTs p q (x.act a) (some ⟨lb, lo, none⟩) l lc b0 (cfgO inc rb ro aZ.length rc wi ti de)) _ from by rw [HA.out]; exact h.pick [1, 0, 2, 3] _ (by decide) rfl)
                    clear hK K hb h H5 hS1 hS0 b1 b3
                    refine aM 12 (by kernel_rfl) rfl (fun K hK => ?_)
                    go_simp
                    refine hK.out _ _ hS2 ?_
                    clear hK K hS2
                    refine wpAnyH_done (by kernel_rfl) ?_ _
                    go_wp2_with fail
                    go_meet
                    exact ⟨q, rfl, H6⟩
                · by_cases e1 : x.kind = 1
                  · -- K1{
                    as_aux_lemma =>
                      have HA := aQ (show x.act a = (a.cR x.arr).2 by unfold Pc.act; rw [if_neg e0, if_pos e1])
                      have t0 : (x.kind == 0) = false := by simp [e0]
                      have t1 : (x.kind == 1) = true := by simp [e1]
                      clear e0 e1 b1 b2 b3
                      go_wp2_with fail
                      refine wp_region_held_drew (S := fun w' => w'.cell? ⟨bx, 4, none⟩ = some (.slice ua x.arr.length uc)) (by kernel_rfl) b4 (fun hS0 => ?_)
                      change wpAnyH _ _ _ _ _ (7 + 3) _ _ _
                      refine aH 0 3 (by kernel_rfl) hS0 (fun _ _ _ _ _ h => h) ?_
                      simp only [List.drop_zero, List.take_succ_cons, List.take_zero]
                      iterate 3 (refine aR (v := ?_) (by rfl) ?_ ?_; rotate_left 1; (focus ((intro w' hS'; go_simp); try with_reducible rfl)); simp only [Act.put, List.setIfInBounds_toArray, List.set_cons_zero, List.set_cons_succ])
                      refine aT ?_
                      change wpAnyH _ _ _ _ _ (4 + 3) _ _ _
                      refine aH 4 3 (by kernel_rfl) hS0 (fun _ _ _ _ _ h => h) ?_
                      simp only [List.drop_succ_cons, List.drop_zero, List.take_succ_cons, List.take_zero]
                      iterate 3 (refine aR (v := ?_) (by rfl) ?_ ?_; rotate_left 1; (focus ((intro w' hS'; go_simp); try with_reducible rfl)); simp only [Act.put, List.setIfInBounds_toArray, List.set_cons_zero, List.set_cons_succ])
                      refine aT ?_
                      refine aM 3 (by kernel_rfl) rfl (fun K hK => ?_)
                      (refine step_call (f := ?_) (args := ?_) (by rfl) ?_ ?_; rotate_left 2; (focus (go_simp; first | (with_reducible rfl) | (refine ⟨?_, ?_⟩ <;> with_reducible rfl))); (refine (tick_c x.arr (.slice ua x.arr.length uc) HI.out.ok HI.out.min (by omega) (fun y hy => Nat.le_trans (HX.out.2.2 y hy) (by decide)) H3.out.drew 4 rfl).mono ?_); rintro e' w6 ⟨sa, sc, rfl, h⟩)
                      refine ⟨_, rfl, ?_⟩
                      have hS1 : w6.cell? ⟨bx, 4, none⟩ = some (.slice ua x.arr.length uc) := aJ (h.blk 7 rfl) rfl
                      refine hK.out _ _ hS1 ?_
                      have H4 := aQ (show dY (fun _ => False) (Old W) W (tRp q a :: [tSq ePt 32 (.slice sa (a.cR x.arr).1.length sc) (a.cR x.arr).1, bP p (a.cR x.arr).2, tRd ePc (.slice (some ⟨lb, lo, none⟩) l.length lc) l, dJ b0 (cfgO inc rb ro aZ.length rc wi ti de), tBy (.slice da x.data.length dc) x.data, tRd ePt (.slice ua x.arr.length uc) x.arr, dJ bx (actO x da dc ua uc)]) w6 from h.pick [2, 0, 1, 3, 4, 5, 6, 7] _ (by decide) rfl)
                      clear hK K h H3
                      refine aM 7 (by kernel_rfl) rfl (fun K hK => ?_)
                      (refine step_call (f := ?_) (args := ?_) (by rfl) ?_ ?_; rotate_left 2; (focus (go_simp; first | (with_reducible rfl) | (refine ⟨?_, ?_⟩ <;> with_reducible rfl))); (refine (rtickP_c x.arr (.slice ua x.arr.length uc) HI.out.ok HI.out.fit (by omega) (fun y hy => Nat.le_trans (HX.out.2.2 y hy) (by decide)) H4.out 5 rfl).mono ?_); rintro e' w7 ⟨ta, tc, rfl, h⟩)
                      refine ⟨_, rfl, ?_⟩
                      have hS2 : w7.cell? ⟨bx, 4, none⟩ = some (.slice ua x.arr.length uc) := aJ (h.blk 8 rfl) rfl
                      refine hK.out _ _ hS2 ?_
                      have h5 := ((h.freeze 0 rfl ePt_rd).freeze 2 rfl ePt_rd).pick [3, 1, 4, 5, 2, 0] [bP p (a.cR x.arr).2, tRp q (a.cR x.arr).2, tRd ePc (.slice (some ⟨lb, lo, none⟩) l.length lc) l, dJ b0 (cfgO inc rb ro aZ.length rc wi ti de), tRd ePt (.slice sa (a.cR x.arr).1.length sc) (a.cR x.arr).1, tRd ePt (.slice ta (a.cR x.arr).1.length tc) (a.cR x.arr).1] (by decide) rfl
                      rw [← HA.out] at h5
                      obtain ⟨_, _, hrd5⟩ := h5.get 5 rfl
                      have hyl : ∀ y ∈ (a.cR x.arr).1, y.pay.length ≤ 9223372036854775807 := fun y hy => by
                        obtain ⟨j, hj⟩ := List.getElem?_of_mem hy
                        obtain ⟨_, _, _, _, _, hpb, _⟩ := pt_at (show RdS ePt _ _ _ _ from hrd5) hj
                        exact (By.cases hpb.1).1
                      obtain ⟨_, tc', etc, htn, htm⟩ := RdS.shape (show RdS ePt _ _ _ _ from hrd5)
                      have htl : (a.cR x.arr).1.length ≤ maxLen := Nat.le_trans htn htm
                      have HYL := aQ hyl
                      have H5 := aQ h5
                      clear hK K h H4 hS1 hS0 b4 h5 hrd5 hyl etc htn htm
                      generalize (a.cR x.arr).1 = ys at *
                      refine aM 8 (by kernel_rfl) rfl (fun K hK => ?_)
                      go_simp
                      refine hK.out _ _ hS2 ?_
                      clear hK K
                      refine aM 9 (by kernel_rfl) rfl (fun K hK => ?_)
                      go_simp
                      refine hK.out _ _ hS2 ?_
                      clear hK K hS2
                      refine wpAnyH_done (by kernel_rfl) ?_ _
                      have hself : ((ys.length : Int) != (ys.length : Int)) = false := by simp
                      have htl2 : ys.length ≤ 9223372036854775807 := htl
                      go_wp2_with fail
                      go_loopw [143, 17] (fun i _ wr => ∃ j : Nat, j ≤ ys.length ∧ i = .int .i64 (j : Int) ∧ Hid (dY (fun _ => False) (Old W) W [bP p (x.act a), tRp q (x.act a), tRd ePc (.slice (some ⟨lb, lo, none⟩) l.length lc) l, dJ b0 (cfgO inc rb ro aZ.length rc wi ti de), tRd ePt (.slice sa ys.length sc) ys, tRd ePt (.slice ta ys.length tc) ys] wr)) (fun i _ _ => ys.length - (intOf i).toNat)
                      case atStart => exact ⟨0, Nat.zero_le _, rfl, H5⟩
                      case round =>
                        clear H5
                        obtain ⟨j, hj, rfl, HJ⟩ := hrel
                        by_cases hlj : j < ys.length
                        · obtain ⟨y, hy⟩ : ∃ y, ys[j]? = some y := ⟨_, List.getElem?_eq_getElem hlj⟩
                          obtain ⟨_, _, hr1⟩ := HJ.out.get 4 (T := tRd ePt (.slice sa ys.length sc) ys) rfl
                          obtain ⟨_, _, hr2⟩ := HJ.out.get 5 (T := tRd ePt (.slice ta ys.length tc) ys) rfl
                          obtain ⟨y1, o1, pa1, pc1, e1, hp1, k0, k1, k2, k3, k4⟩ := pt_at (show RdS ePt wr _ _ _ from hr1) hy
                          obtain ⟨y2, o2, pa2, pc2, e2, hp2, m0, m1, m2, m3, m4⟩ := pt_at (show RdS ePt wr _ _ _ from hr2) hy
                          subst e1
                          subst e2
                          have HS := aQ (fun (w' : World) (h1 : By w' (.slice pa1 y.pay.length pc1) y.pay) (h2 : By w' (.slice pa2 y.pay.length pc2) y.pay) => sameP_refl y pa1 pa2 pc1 pc2 w' h1 h2)
                          have HP1 := aQ (show By wr (.slice pa1 y.pay.length pc1) y.pay from hp1.1)
                          have HP2 := aQ (show By wr (.slice pa2 y.pay.length pc2) y.pay from hp2.1)
                          clear hy hr1 hr2 hp1 hp2
                          go_wp2_with fail
                          go_still_tail 8, (by kernel_rfl)
                          change wpList _ _ _ _ _ wr.drew
                          clear k0 k1 k2 k3 k4 m0 m1 m2 m3 m4
                          go_wp2_with fail
                          refine (HS.out _ (HP1.out.below (bS wr 1)) (HP2.out.below (bS wr 1))).mono ?_
                          rintro e w8 ⟨rfl, hb⟩
                          have H8 := aQ (HJ.out.drew.own hb)
                          clear hb HS HP1 HP2 HJ
                          go_wp2_with fail
                          go_roundw
                          case rel => exact ⟨j + 1, by omega, by go_num, H8⟩
                          case measure => simp [intOf]; omega
                        · obtain rfl : ys.length = j := by omega
                          clear hlj
                          go_wp2_with fail
                          go_meet
                          exact ⟨q, rfl, aQ (HJ.out.pick [0, 1, 2, 3] _ (by decide) rfl)⟩
                  · by_cases e2 : x.kind = 2
                    · have HA := aQ (show x.act a = (a.take x.cls).2 by unfold Pc.act; rw [if_neg e0, if_neg e1, if_pos e2])
                      have t0 : (x.kind == 0) = false := by simp [e0]
                      have t1 : (x.kind == 1) = false := by simp [e1]
                      have t2 : (x.kind == 2) = true := by simp [e2]
                      clear e0 e1 e2 b2 b3 b4
                      cases hpk : a.peek x.cls with
                      | none =>
                        have HT := aQ (show (a.take x.cls).2 = a by unfold Prt.take; rw [hpk])
                        have HP := aQ hpk
                        clear hpk
                        go_wp2_with fail
                        refine (peek_no H3.out 0 rfl HI.out.ok x.cls HP.out).mono ?_
                        rintro e w' ⟨rfl, rfl⟩
                        go_wp2_with fail
                        refine (take_no H3.out 0 rfl HI.out.ok x.cls HP.out).mono ?_
                        rintro e w' ⟨rfl, rfl⟩
                        go_wp2_with fail
                        refine (rtake_nil H3.out.flip HI.out.ok x.cls HP.out).mono ?_
                        rintro e w' ⟨rfl, rfl⟩
                        go_wp2_with (go_at_call 16; refine (bytesEqual_refl (bs := []) (ByZ.nil _ (fun _ => False)).1 (ByZ.nil _ (fun _ => False)).1).mono ?_; rintro e w' ⟨rfl, rfl⟩)
                        go_meet
                        exact ⟨q, rfl, aQ (by rw [HA.out, HT.out]; exact H3.out.pick [0, 1, 2, 3] _ (by decide) rfl)⟩
                      | some d =>
                        as_aux_lemma =>
                          have hx : ∃ (m : Nat) (dl : List dV), x.cls = (m : Int) ∧ m < a.aZ.length ∧ a.aY.getD m [] = d :: dl := by
                            unfold Prt.peek at hpk
                            split at hpk
                            · rename_i hc
                              have hc' : 0 ≤ x.cls ∧ x.cls < (a.aZ.length : Int) := hc
                              refine ⟨x.cls.toNat, (a.aY.getD x.cls.toNat []).tail, by omega, by omega, ?_⟩
                              cases hbb : a.aY.getD x.cls.toNat [] with
                              | nil => rw [hbb] at hpk; cases hpk
                              | cons y ys => rw [hbb] at hpk; obtain rfl : y = d := by simpa using hpk
                                             rfl
                            · cases hpk
                          obtain ⟨m, dl, hxm, hm, hbuf⟩ := hx
                          rw [hxm] at HA b1
                          have HXM := aQ hxm
                          have HBF := aQ hbuf
                          clear hpk hxm hbuf
                          go_wp2_with fail
                          refine (peek_yes H3.out 0 rfl HI.out.ok (by omega) m hm d dl HBF.out).mono ?_
                          rintro e w6 ⟨v1, rfl, h⟩
                          have H4 := aQ h
                          have b1 : w6.cell? ⟨bx, 1, none⟩ = some (.int .i64 (m : Int)) := by rw [aJ (i := 1) (h.blk 6 rfl) rfl]; exact congrArg some (congrArg (Value.int .i64) HXM.out)
                          clear h H3
                          go_wp2_with fail
                          refine (take_yes H4.out 0 rfl HI.out.ok (by omega) m hm d dl HBF.out).mono ?_
                          rintro e w7 ⟨v2, rfl, h⟩
                          have b1 : w7.cell? ⟨bx, 1, none⟩ = some (.int .i64 (m : Int)) := by rw [aJ (i := 1) (h.blk 6 rfl) rfl]; exact congrArg some (congrArg (Value.int .i64) HXM.out)
                          have H5 := aQ (show dY (fun _ => False) (Old W) W (tRp q a :: [bP p (a.take m).2, tRd ePc (.slice (some ⟨lb, lo, none⟩) l.length lc) l, dJ b0 (cfgO inc rb ro aZ.length rc wi ti de), tBy v1 d, tBy v2 d]) w7 from h.pick [1, 0, 2, 3, 7, 8] _ (by decide) rfl)
                          clear h H4
                          go_wp2_with fail
                          refine (rtake_yes H5.out HI.out.ok (by omega) m hm d dl HBF.out).mono ?_
                          rintro e w8 ⟨v3, rfl, h⟩
                          obtain ⟨_, _, g4⟩ := h.get 4 (T := tBy v1 d) rfl
                          have HB1 := aQ (show By w8 v1 d from g4.1)
                          obtain ⟨_, _, g5⟩ := h.get 5 (T := tBy v2 d) rfl
                          have HB2 := aQ (show By w8 v2 d from g5.1)
                          obtain ⟨_, _, g6⟩ := h.get 6 (T := tBy v3 d) rfl
                          have HB3 := aQ (show By w8 v3 d from g6.1)
                          have H6 := aQ (show dY (fun _ => False) (Old W) W (pcTs p q (x.act a) (some ⟨lb, lo, none⟩) l lc b0 (cfgO inc rb ro aZ.length rc wi ti de)) _ from by rw [HA.out]; exact h.pick [1, 0, 2, 3] _ (by decide) rfl)
                          clear h H5 b1 g4 g5 g6
                          go_wp2_with (first
                            | (go_at_call 16; refine (bytesEqual_refl HB2.out HB3.out).mono ?_; rintro e w' ⟨rfl, rfl⟩)
                            | (go_at_call 16; refine (bytesEqual_refl HB1.out HB2.out).mono ?_; rintro e w' ⟨rfl, rfl⟩))
                          go_meet
                          exact ⟨q, rfl, H6⟩
                    · by_cases e3 : x.kind = 3
                      · -- K4{
                        as_aux_lemma =>
                          have HA := aQ (show x.act a = (a.restart x.num).2 by unfold Pc.act; rw [if_neg e0, if_neg e1, if_neg e2, if_pos e3])
                          have t0 : (x.kind == 0) = false := by simp [e0]
                          have t1 : (x.kind == 1) = false := by simp [e1]
                          have t2 : (x.kind == 2) = false := by simp [e2]
                          have t3 : (x.kind == 3) = true := by simp [e3]
                          obtain ⟨r, hr⟩ : ∃ r : Int, r = ((a.restart x.num).1 : Int) := ⟨_, rfl⟩
                          have HR := aQ hr
                          have hself : (r != r) = false := by simp
                          clear e0 e1 e2 e3 hr b1 b3 b4
                          go_wp2_with fail
                          refine (prestart_c H3.out HI.out.ok x.num).mono ?_
                          rintro e w6 ⟨rfl, h⟩
                          rw [← HR.out]
                          have b2 : w6.cell? ⟨bx, 2, none⟩ = some (.int .i64 x.num) := aJ (h.blk 6 rfl) rfl
                          have H4 := aQ h.flip
                          clear h H3
                          go_wp2_with fail
                          refine (rrestart_c H4.out HI.out.ok x.num).mono ?_
                          rintro e w7 ⟨q', rfl, h⟩
                          rw [← HR.out]
                          have H6 := aQ (show dY (fun _ => False) (Old W) W (pcTs p q' (x.act a) (some ⟨lb, lo, none⟩) l lc b0 (cfgO inc rb ro aZ.length rc wi ti de)) _ from by rw [HA.out]; exact h.pick [1, 0, 2, 3] _ (by decide) rfl)
                          clear h H4 b2
                          go_wp2_with fail
                          go_meet
                          exact ⟨q', rfl, H6⟩
                      · -- K5{
                        have HA := aQ (show x.act a = a by unfold Pc.act; rw [if_neg e0, if_neg e1, if_neg e2, if_neg e3])
                        have t0 : (x.kind == 0) = false := by simp [e0]
                        have t1 : (x.kind == 1) = false := by simp [e1]
                        have t2 : (x.kind == 2) = false := by simp [e2]
                        have t3 : (x.kind == 3) = false := by simp [e3]
                        clear e0 e1 e2 e3 b1 b2 b3 b4
                        go_wp2_with fail
                        go_meet
                        exact ⟨q, rfl, aQ (by rw [HA.out]; exact H3.out.pick [0, 1, 2, 3] _ (by decide) rfl)⟩
              case rest =>
                as_aux_lemma =>
                  clear H3
                  obtain ⟨q', rfl, H6⟩ := hcut
                  have HI2 := aQ (HI.out.act HX.out)
                  clear HI HX
                  generalize x.act a = a' at H6 HI2
                  have h6 := (show dY (fun _ => False) (Old W) W (tRp q' a' :: [bP p a', tRd ePc (.slice (some ⟨lb, lo, none⟩) l.length lc) l, dJ b0 (cfgO inc rb ro aZ.length rc wi ti de)]) wc from H6.out.pick [1, 0, 2, 3] _ (by decide) rfl)
                  obtain ⟨y, hst⟩ := h6.rp
                  have hrow := hst.blk 0 rfl
                  have c9 : wc.cell? ⟨q', 9, none⟩ = some (.int .i64 (a'.cS.state : Int)) := aJ hrow rfl
                  have c33 : wc.cell? ⟨q', 33, none⟩ = some (.int .i64 (a'.bL : Int)) := aJ hrow rfl
                  have hup : ∀ n, Calls Try.prog 19 #[.pointer (some ⟨p, 0, none⟩)] (wc.drewN n) fun e w' => e = .returned (.bool ((a'.cS.state : Int) == 2)) ∧ wc.drewN n = w' := fun n => by
                    have hb : ((a'.cS.state : Int) == 2) = decide (a'.cS.state = 2) := by rw [Bool.eq_iff_iff]; simp; omega
                    rw [hb]
                    exact up_any (H6.out.drewN n) 0 rfl
                  have hov : ∀ n, Calls Try.prog 20 #[.pointer (some ⟨p, 0, none⟩)] (wc.drewN n) fun e w' => e = .returned (.int .i64 (a'.bL : Int)) ∧ wc.drewN n = w' := fun n => overflows_any (H6.out.drewN n) 0 rfl
                  generalize (a'.cS.state : Int) = st at c9 hup
                  generalize (a'.bL : Int) = ov at c33 hov
                  have HUP := aQ hup
                  have HOV := aQ hov
                  have hself1 : ((st == 2) != (st == 2)) = false := by simp
                  have hself2 : (ov != ov) = false := by simp
                  clear h6 hst hrow hup hov
                  go_wp2_with fail
                  go_quiet (first | (go_at_call 19; exact Calls.quiet_of_same ((HUP.out _).mono fun e w' h => ⟨show e = .returned (.bool (st == 2)) from h.1, h.2.symm⟩)) | (go_at_call 20; exact Calls.quiet_of_same ((HOV.out _).mono fun e w' h => ⟨show e = .returned (.int .i64 ov) from h.1, h.2.symm⟩)))
                  have H7 := aQ (H6.out.drewN nq)
                  generalize wc.drewN nq = w7 at H7 ⊢
                  clear H6 HUP HOV c9 c33 hself1 hself2
                  go_wp2_with fail
                  go_loopw [26, 27, 28, 29] (fun i _ _ _ wr => ∃ z : Int, -1 ≤ z ∧ z ≤ (aZ.length : Int) + 1 ∧ i = .int .i64 z ∧ Hid (dY (fun _ => False) (Old W) W (pcTs p q' a' (some ⟨lb, lo, none⟩) l lc b0 (cfgO inc rb ro aZ.length rc wi ti de)) wr)) (fun i _ _ _ _ => ((aZ.length : Int) + 1 - intOf i).toNat)
                  case atStart => exact ⟨-1, by omega, by omega, rfl, H7⟩
                  case round =>
                    clear H7
                    obtain ⟨z, hz1, hz2, rfl, HZ⟩ := hrel
                    have g1 : wr.cell? ⟨b0, 1, none⟩ = some (.slice (some ⟨rb, ro, none⟩) aZ.length rc) := aJ (HZ.out.blk 3 rfl) rfl
                    have HLEN := aQ HI2.out.len
                    have h8 := (show dY (fun _ => False) (Old W) W (tRp q' a' :: [bP p a', tRd ePc (.slice (some ⟨lb, lo, none⟩) l.length lc) l, dJ b0 (cfgO inc rb ro aZ.length rc wi ti de)]) wr from HZ.out.pick [1, 0, 2, 3] _ (by decide) rfl)
                    obtain ⟨ra2, rc2, d1⟩ := rp_room h8
                    rw [HLEN.out] at d1
                    by_cases hlz : z ≤ (aZ.length : Int)
                    · by_cases hin : 0 ≤ z ∧ z < (aZ.length : Int)
                      · obtain ⟨m, rfl⟩ : ∃ m : Nat, z = (m : Int) := ⟨z.toNat, by omega⟩
                        have hm : m < aZ.length := by omega
                        have HC := aQ (counts_any HZ.out 0 rfl HI2.out.ok (by omega) m (by rw [HLEN.out]; exact hm))
                        clear h8 hin d1
                        go_wp2_with fail
                        refine HC.out.mono ?_
                        rintro e w8 ⟨rfl, h⟩
                        have H8 := aQ h
                        have h8 := (show dY (fun _ => False) (Old W) W (tRp q' a' :: [bP p a', tRd ePc (.slice (some ⟨lb, lo, none⟩) l.length lc) l, dJ b0 (cfgO inc rb ro aZ.length rc wi ti de)]) w8 from h.pick [1, 0, 2, 3] _ (by decide) rfl)
                        obtain ⟨ra2, rc2, d1⟩ := rp_room h8
                        rw [HLEN.out] at d1
                        obtain ⟨n1, o1, k1, n2, o2, k2, n3, o3, k3, c30, c31, c32, e1, e2, e3⟩ := rp_counts h8 HI2.out.ok (m := m) (by rw [HLEN.out]; exact hm)
                        rw [HLEN.out] at c30 c31 c32
                        generalize ((a'.aG.getD m 0 : Nat) : Int) = v1 at e1
                        generalize ((a'.aW.getD m 0 : Nat) : Int) = v2 at e2
                        generalize ((a'.cF.getD m 0 : Nat) : Int) = v3 at e3
                        have HH := aQ (rhas_yes (p := q') (w := w8) m ra2 rc2 hm d1)
                        have hs1 : (v1 != v1) = false := by simp
                        have hs2 : (v2 != v2) = false := by simp
                        have hs3 : (v3 != v3) = false := by simp
                        clear h h8 HC HZ d1 g1
                        go_wp2_with fail
                        refine HH.out.mono ?_
                        rintro e w9 ⟨rfl, rfl⟩
                        go_wp2_with fail
                        go_roundw
                        case rel => exact ⟨(m : Int) + 1, by omega, by omega, by go_num, H8⟩
                        case measure => simp [intOf]; omega
                      · have hout : z < 0 ∨ (aZ.length : Int) ≤ z := by omega
                        obtain ⟨y, hst⟩ := HZ.out.port'
                        have d2 := (aB (hst.blk 0 rfl)).2.1
                        obtain ⟨_, _, hq⟩ := hst.get 1 rfl
                        obtain ⟨u, kc, eu⟩ := Sq.shape (show Sq dK 3 _ _ _ y.rv a'.aZ from hq)
                        rw [eu, HLEN.out] at d2
                        have HC := aQ (counts_no (p := p) (w := wr) z u kc hout d2)
                        have HH := aQ (rhas_no (p := q') (w := wr) z ra2 rc2 hout d1)
                        clear h8 hin d1 d2 hst hq eu hout
                        go_wp2_with fail
                        refine HC.out.mono ?_
                        rintro e w8 ⟨rfl, rfl⟩
                        go_wp2_with fail
                        refine HH.out.mono ?_
                        rintro e w9 ⟨rfl, rfl⟩
                        go_wp2_with fail
                        go_roundw
                        case rel => exact ⟨z + 1, by omega, by omega, by go_num, HZ⟩
                        case measure => simp [intOf]; omega
                    · clear h8 d1
                      go_wp2_with fail
                      go_roundw
                      case rel => exact ⟨k + 1, q', a', by omega, by go_num, rfl, HI2, HZ⟩
                      case measure => simp [intOf]; omega
            · obtain rfl : l.length = k := by omega
              clear HI
              go_wp2_with fail
              go_ret
              exact ⟨rfl, HK.out.below⟩
        · -- F{
          as_aux_lemma =>
            have HN := aQ hn
            have HV := aQ hv
            clear hrd hn hv hlt
            go_wp2_with fail
            refine (pnew_no wr (by omega) (fun h => HV.out (V11.of h)) HN.out).mono ?_
            rintro e w2 ⟨rfl, hb⟩
            have h2 := HK.out.own hb
            have H2 := aQ h2
            have HN2 := aQ (HN.out.below hb)
            clear c0 c1 c2 c3 c4 HK HN
            obtain ⟨c0, c1, c2, c3, c4⟩ := five_cells (h2.blk 2 rfl)
            have HQ := aQ (fun (w' : World) (hb : Below w2.heap.size w2 w') => valid11_c (inc := ci) (wi := cw) (ti := ct) (de := cd) (aZ := cr) (ra := ra) (rc := rc) w' (by omega) (HN2.out.below hb))
            rw [decide_eq_false HV.out] at HQ
            clear h2 hb HV HN2
            go_wp2_with fail
            refine (HQ.out _ (by (repeat (first | (with_reducible exact Below.refl _ _) | (with_reducible refine Bw.alloc ?_ _) | (with_reducible refine Bw.drewN ?_ _) | (with_reducible refine Bw.drew ?_) | (with_reducible refine Below.setCell ?_ (by simp <;> omega) _))))).mono ?_
            rintro e w3 ⟨rfl, hb⟩
            have HB := aQ (show Below w2.heap.size w2 w3 from Below.trans (by (repeat (first | (with_reducible exact Below.refl _ _) | (with_reducible refine Bw.alloc ?_ _) | (with_reducible refine Bw.drewN ?_ _) | (with_reducible refine Bw.drew ?_) | (with_reducible refine Below.setCell ?_ (by simp <;> omega) _)))) (hb.mono (by simp)))
            clear hb HQ
            go_wp2_with fail
            go_ret
            exact ⟨rfl, (H2.out.own HB.out).below⟩
end
end Go.Proofs.Ytbgjpfbcelkllaa
