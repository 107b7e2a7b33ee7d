/- The walk of a conversation. -/
import Derived.Test.YtgpeekicpkgpmaaPlayW
import Derived.Test.YtgpeekicpkgpmaaRetO
import Derived.Deep.CutRange
import Derived.Deep.RegionHeld3
import Derived.Test.YtgpeekicpkgpmaaRefB
namespace Go.Proofs.Ytgpeekicpkgpmaa
open Go.RowKit

theorem foldl_take {α β : Type} (f : β → α → β) (r : β) {l : List α} {j : Nat} {x : α} (h : l[j]? = some x) : (l.take (j + 1)).foldl f r = f ((l.take j).foldl f r) x := by
  rw [List.take_add_one, h, List.foldl_append]; rfl
def wireObj : Obj := .cells #[.slice none 0 0] 72 (0, 0)
theorem pm_start {W y1 y2 : World} {bo : Obj} {st : Snd} {ps : Nat} (hps : ps = W.heap.size + 1) (hs : SnO y1 (fun k => k = ps) ps st) (hb1 : Below (W.alloc bo).heap.size (W.alloc bo) y1) (hr : RcvAt y2 y1.heap.size 0) (hb2 : Below y1.heap.size y1 y2) :
    Pm W W.heap.size bo ps y1.heap.size y2.heap.size (y2.heap.size + 1) (.slice none 0 0) (.slice none 0 0) (.slice none 0 0) (.slice none 0 0) st 0 [] [] [] [] [] [] ((y2.alloc wireObj).alloc wireObj) := by
  have z0 : (W.alloc bo).heap.size = W.heap.size + 1 := by simp
  have z1 := hb1.size
  have z2 := hb2.size
  have zp := hs.plt
  have zr := lt_of_block hr
  have zt : (y2.alloc wireObj).heap.size = y2.heap.size + 1 := by simp
  have hb : Below y2.heap.size y2 ((y2.alloc wireObj).alloc wireObj) := (below_alloc y2 _).trans ((below_alloc _ _).mono (by simp))
  have hB : Below W.heap.size W ((y2.alloc wireObj).alloc wireObj) := (below_alloc W bo).trans ((hb1.mono (by omega)).trans ((hb2.mono (by omega)).trans (hb.mono (by omega))))
  refine ⟨fun k => if k = ps then 1 else if k = y1.heap.size then 2 else if k = y2.heap.size then 3 else if k = y2.heap.size + 1 then 4 else if k = W.heap.size then 7 else 0, ⟨(Fr.refl _ W).of_below hB, fun k hk _ => ?_⟩, ?_, ⟨(hb.block _ zr).trans hr, ?_⟩, ?_, ?_, SeqG.nil _ _ _ _, SeqG.nil _ _ _ _, ⟨?_, ?_⟩, RdI.nil _ _, RdI.nil _ _⟩
  · simp only [show ¬ k = ps by omega, show ¬ k = y1.heap.size by omega, show ¬ k = y2.heap.size by omega, show ¬ k = y2.heap.size + 1 by omega, show ¬ k = W.heap.size by omega, if_false]
  · exact (SnO.thing ps st).of hs (Nat.le_trans z2 hb.size) (fun k _ hl => (hb.block k (by omega)).trans (hb2.block k hl)) fun k hk _ => by show (if k = ps then 1 else _) = 1; rw [if_pos hk]
  · simp only [show ¬ y1.heap.size = ps by omega, if_false, if_true]
  · refine ⟨?_, _, (Below.heap_alloc _ _ _ (by simp)).trans (heap_alloc_new y2 wireObj), SeqG.nil _ _ _ _⟩
    show (if y2.heap.size = ps then 1 else if y2.heap.size = y1.heap.size then 2 else if y2.heap.size = y2.heap.size then 3 else _) = 3
    rw [if_neg (by omega), if_neg (by omega), if_pos rfl]
  · refine ⟨?_, _, by have := heap_alloc_new (y2.alloc wireObj) wireObj; rw [zt] at this; exact this, SeqG.nil _ _ _ _⟩
    show (if y2.heap.size + 1 = ps then 1 else if y2.heap.size + 1 = y1.heap.size then 2 else if y2.heap.size + 1 = y2.heap.size then 3 else if y2.heap.size + 1 = y2.heap.size + 1 then 4 else _) = 4
    rw [if_neg (by omega), if_neg (by omega), if_neg (by omega), if_pos rfl]
  · exact (hb.block _ (by omega)).trans ((hb2.block _ (by omega)).trans ((hb1.block _ (by omega)).trans (heap_alloc_new W bo)))
  · show (if W.heap.size = ps then 1 else if W.heap.size = y1.heap.size then 2 else if W.heap.size = y2.heap.size then 3 else if W.heap.size = y2.heap.size + 1 then 4 else if W.heap.size = W.heap.size then 7 else 0) = 7
    rw [if_neg (by omega), if_neg (by omega), if_neg (by omega), if_neg (by omega), if_pos rfl]
theorem below_drew1 (w : World) : Below w.heap.size w w.drew := ⟨rfl, rfl, rfl, Nat.le_refl _, fun _ _ => rfl⟩
theorem s4_of {L : Lab} {wc w4 : World} {o : Obj} {k : Nat} (hf : Fr (Lab.is ((L.new wc 8).new (wc.alloc o) 8) 4) (wc.alloc o).drew w4) (hk : k < wc.heap.size) (hl : L k ≠ 4) (i : Nat) : w4.cell? ⟨k, i, none⟩ = wc.cell? ⟨k, i, none⟩ :=
  World.cell?_of_block (a := ⟨k, i, none⟩) ((hf.block k (by show k < (wc.alloc o).heap.size; simp; omega) (by
    show ¬ ((L.new wc 8).new (wc.alloc o) 8) k = 4
    rw [Lab.new_old (by simp; omega), Lab.new_old hk]; exact hl)).trans (Below.heap_alloc wc o k hk))
theorem SInv.total {w T : Nat} {s : Snd} {off : Nat} (h : SInv w T s off) : s.total = off := by
  have := h.len; have := h.le; unfold Snd.total; omega
theorem Pm.ovs {W : World} {bx : Nat} {bo : Obj} {ps pr pt pb : Nat} {ov av tv bv : Value} {s : Snd} {n : Nat} {th bk : List (List ItemD)} {off acc : List Bytes} {tl bl : List ItemD} {w : World} (h : Pm W bx bo ps pr pt pb ov av tv bv s n th bk off acc tl bl w) : ∃ a c, ov = .slice a off.length c := by
  obtain ⟨L, h⟩ := h; exact h.ov.shape
theorem Pm.avs {W : World} {bx : Nat} {bo : Obj} {ps pr pt pb : Nat} {ov av tv bv : Value} {s : Snd} {n : Nat} {th bk : List (List ItemD)} {off acc : List Bytes} {tl bl : List ItemD} {w : World} (h : Pm W bx bo ps pr pt pb ov av tv bv s n th bk off acc tl bl w) : ∃ a c, av = .slice a acc.length c := by
  obtain ⟨L, h⟩ := h; exact h.av.shape
set_option maxHeartbeats 16000000 in
set_option maxRecDepth 100000 in
theorem play_any (W : World) (c : Cfg) (ticks : Nat) (ov tv bv : Value) (ho : By W ov c.offers) (hh : By W tv c.there) (hk : By W bv c.back) (hc : c.Ok) (hlen : c.offers.length ≤ 60) (ht : ticks ≤ 1560) :
    Calls Try.prog 25 #[.agg #[.int .i64 (c.window : Int), .int .i64 (c.timeout : Int), .int .i64 (c.delay : Int), ov, tv, bv, .bool c.naks], .int .i64 (ticks : Int)] W fun e w' =>
      ∃ oa oc aa ac pr pt pb tv' bv', e = .returned (.tuple #[.slice oa (playM c ticks).off oc, .slice aa (playM c ticks).n ac, .pointer (some ⟨W.heap.size + 1, 0, none⟩), .bool true]) ∧
        ∃ bo tl bl, Pm W W.heap.size bo (W.heap.size + 1) pr pt pb (.slice oa (playM c ticks).off oc) (.slice aa (playM c ticks).n ac) tv' bv' (playM c ticks).s (playM c ticks).n (playM c ticks).th (playM c ticks).bk (datL (playM c ticks).off) (datL (playM c ticks).n) tl bl w' := by
  obtain ⟨oa0, oc0, rfl⟩ := ho.slice
  obtain ⟨ta0, tc0, rfl⟩ := hh.slice
  obtain ⟨ba0, bc0, rfl⟩ := hk.slice
  have HO := Lib.hid ho; have HH := Lib.hid hh; have HK := Lib.hid hk
  have hw1 := hc.w1; have hw2 := hc.w2; have ht1 := hc.t1; have ht2 := hc.t2; have hd := hc.d
  have HC := Lib.hid hc
  clear ho hh hk hc
  go_enter Try.func25, Try.ntmps25
  go_wp2_with fail
  generalize hbo : (Obj.cells #[.int .i64 (c.window : Int), .int .i64 (c.timeout : Int), .int .i64 (c.delay : Int), .slice oa0 c.offers.length oc0, .slice ta0 c.there.length tc0, .slice ba0 c.back.length bc0, .bool c.naks] 47) = bo
  have HBO := Lib.hid hbo; clear hbo
  refine (new_o c.window c.timeout _ hw1 (by omega) ht1 ht2).mono ?_
  rintro e y1 ⟨rfl, hs, hb⟩
  have hz0 : (W.alloc bo).heap.size = W.heap.size + 1 := by simp
  rw [hz0] at hs
  have HS1 := Lib.hid hs; have HB1 := Lib.hid hb; clear hs hb
  go_wp2_with fail
  refine (newReceiver_ok y1).mono ?_
  rintro e y2 ⟨rfl, hr, hb⟩
  have HP2 := Lib.hid (pm_start rfl HS1.out HB1.out hr hb); clear hr hb HS1 HB1 hz0
  go_wp2_with fail
  go_loopw [48, 4, 5, 6] (fun i uo ua us wr => us = .pointer (some ⟨W.heap.size + 1, 0, none⟩) ∧ ∃ (t : Nat) (oa aa : Option Addr) (oc ac : Nat) (tv' bv' : Value) (tl bl : List ItemD), t ≤ ticks ∧ i = .int .i64 t ∧ uo = .slice oa (playM c t).off oc ∧ ua = .slice aa (playM c t).n ac ∧ Hid (Pm W W.heap.size bo (W.heap.size + 1) y1.heap.size y2.heap.size (y2.heap.size + 1) (.slice oa (playM c t).off oc) (.slice aa (playM c t).n ac) tv' bv' (playM c t).s (playM c t).n (playM c t).th (playM c t).bk (datL (playM c t).off) (datL (playM c t).n) tl bl wr)) (fun i _ _ _ _ => ticks - (intOf i).toNat)
  case atStart => exact ⟨rfl, 0, none, none, 0, 0, _, _, _, _, by omega, rfl, rfl, rfl, HP2⟩
  case round =>
    clear HP2
    obtain ⟨rfl, t, oa, aa, oc, ac, tv', bv', tl, bl, htt, rfl, rfl, rfl, HP⟩ := hrel
    obtain ⟨wo, rfl⟩ : ∃ wo : World, wo = wr := ⟨_, rfl⟩
    by_cases hlt : t < ticks
    · have HI := Lib.hid (inv_play HC.out t)
      have HT := Lib.hid ((inv_play HC.out t).tick HC.out)
      have hoff := (inv_play HC.out t).off
      have hnoff := (inv_play HC.out t).le
      have hnext : Hid (playM c (t + 1) = tickM c t (playM c t)) := Lib.hid rfl
      generalize hp : playM c t = p at *
      have HPP := Lib.hid hp; clear hp
      have hbx := HP.out.box
      rw [← HBO.out] at hbx
      have b2 := blk_cell (i := 2) hbx rfl; have b3 := blk_cell (i := 3) hbx rfl; have b4 := blk_cell (i := 4) hbx rfl; have b5 := blk_cell (i := 5) hbx rfl; have b6 := blk_cell (i := 6) hbx rfl
      have hbl := lt_of_block hbx
      clear hbx
      -- the offers
      have hin : t < c.offers.length → ∃ b off, oa0 = some ⟨b, off, none⟩ ∧ wo.cell? ⟨b, off + t, none⟩ = some (.int .u8 (U (c.offers.getD t 0))) := fun hl => by
        obtain ⟨b, off, h1, h2⟩ := (By.below HO.out HP.out.below).at (i := t) (x := c.offers.getD t 0) (by rw [List.getD_eq_getElem?_getD, List.getElem?_eq_getElem hl]; rfl)
        exact ⟨b, off, h1, h2⟩
      have hnw := HP.out.below.size
      go_upto_if 55 with (fail)
      go_cut [4] from 49 to 184 (fun uo wc => ∃ (sA : Snd) (offA : Nat) (oA : Option Addr) (ocA : Nat), uo = .slice oA offA ocA ∧ Hid (tickA c t p = (sA, offA)) ∧ Hid (Pm W W.heap.size bo (W.heap.size + 1) y1.heap.size y2.heap.size (y2.heap.size + 1) (.slice oA offA ocA) (.slice aa p.n ac) tv' bv' sA p.n p.th p.bk (datL offA) (datL p.n) tl bl wc))
      case first =>
        -- F{
        by_cases hol : t < c.offers.length
        · skip
          obtain ⟨b, off, rfl, hcell⟩ := hin hol
          have hm : ((U (c.offers.getD t 0)) % 4) = (nOff c.offers t : Int) := by
            unfold nOff U; rw [List.getD_eq_getElem?_getD, List.getElem?_eq_getElem hol]; simp
          have hmle := nOff_le c.offers t
          have hu8 := U_lt8 (c.offers.getD t 0)
          have hu0 := U_nonneg (c.offers.getD t 0)
          generalize U (c.offers.getD t 0) = uu at *
          clear hin
          go_wp2_with fail
          simp only [hm, hol, decide_true]
          go_loopw [62, 4] (fun i uo wr => ∃ (j off' : Nat) (s' : Snd) (oa' : Option Addr) (oc' : Nat), j ≤ nOff c.offers t ∧ i = .int .u8 (j : Int) ∧ off' ≤ p.off + j ∧ uo = .slice oa' off' oc' ∧ Hid (offers (nOff c.offers t - j) s' off' = tickA c t p) ∧ Hid (SInv c.window c.timeout s' off') ∧
            Hid (Pm W W.heap.size bo (W.heap.size + 1) y1.heap.size y2.heap.size (y2.heap.size + 1) (.slice oa' off' oc') (.slice aa p.n ac) tv' bv' s' p.n p.th p.bk (datL off') (datL p.n) tl bl wr)) (fun i _ _ => nOff c.offers t - (intOf i).toNat)
          case atStart => exact ⟨0, p.off, p.s, oa, oc, by omega, rfl, by omega, rfl, Lib.hid rfl, Lib.hid HI.out.si, HP⟩
          case round =>
            obtain ⟨j, off', s', oa', oc', hj, rfl, hoffj, rfl, HO', HS', HP'⟩ := hrel
            by_cases hjl : j < nOff c.offers t
            · clear b2 b3 b4 b5 b6 hcell hm hu8 hu0
              have hob : off' ≤ 6000 := by omega
              have hs1 : (Utf8.encode (97 + (off' : Int) % 26)).size = 1 := enc_size _ (by omega) (by omega)
              have hs2 : (Utf8.encode (48 + (off' : Int) / 26 % 10)).size = 1 := enc_size _ (by omega) (by omega)
              have hde := dat_enc off'
              obtain ⟨sa, sc, w1, hrun, hby, hbel, rfl⟩ := str_bytes (P := Try.prog) (src := 9) (dst := 28) Try.underlying9 Try.underlying28 Try.underlying5 wr (dat off') (by simp [dat])
              have HBY := Lib.hid hby; have HBEL := Lib.hid hbel; clear hby hbel
              go_wp2_with fail
              refine (pm_offer (HP'.out.own HBEL.out) HS'.out.ok _ (dat off') HBY.out).mono ?_
              rintro e w2 ⟨rfl, hp2⟩
              have HP2 := Lib.hid hp2; clear hp2 hrun hs1 hs2 hde
              obtain ⟨hst1, hst2, hst3, hst4, hst5⟩ := HS'.out.offer
              have HST := Lib.hid hst1
              have HOF := Lib.hid (show offers (nOff c.offers t - (j + 1)) (offer1 s' off').1 (offer1 s' off').2 = tickA c t p by
                have h := HO'.out
                rw [show nOff c.offers t - j = (nOff c.offers t - (j + 1)) + 1 by omega] at h
                exact h)
              clear hst1 hst2 hst3 hst4 hst5
              have hs0 : (offer1 s' off').1 = (s'.offer (dat off')).2 := rfl
              by_cases hz : (s'.offer (dat off')).1 = 0
              · have ho1 : (offer1 s' off').2 = off' + 1 := by unfold offer1; dsimp only; rw [if_pos hz]
                rw [ho1, hs0] at HST HOF
                have hz' : (((s'.offer (dat off')).1 : Nat) : Int) = 0 := by rw [hz]; rfl
                generalize (s'.offer (dat off')).2 = s2 at *
                generalize (((s'.offer (dat off')).1 : Nat) : Int) = z at *
                subst hz'
                clear hz ho1 hs0
                obtain ⟨K, us, hsl, hcl⟩ := pm_off HP2.out (dat off')
                have HSL := Lib.hid hsl; have HCL := Lib.hid hcl; clear hsl hcl
                rw [datL_length] at HSL HCL
                go_wp2_with (at_builtin; refine wpList_apps slS rfl _ _ rfl K _ off' us rfl (HSL.out.alloc _) _ 1 [.string (str8 (dat off'))] rfl (rd_one _ _ _ _ rfl) (by intro u hu; simp at hu; subst hu; rfl) (by unfold maxLen; omega) (by omega) ?_; intro v2 w3 hsl2 hf2; obtain ⟨g2, off2, cap2, rfl, _⟩ := Sl.head hsl2 (by omega); have HP3 := Lib.hid (HCL.out _ _ _ hsl2 hf2); clear hsl2 hf2)
                rw [← datL_succ] at HP3
                go_roundw
                case rel => exact ⟨j + 1, off' + 1, s2, _, _, by omega, by go_num, by omega, rfl, HOF, HST, HP3⟩
                case measure => simp [intOf]; omega
              · have ho1 : (offer1 s' off').2 = off' := by unfold offer1; dsimp only; rw [if_neg hz]
                rw [ho1, hs0] at HST HOF
                have hz' : ((((s'.offer (dat off')).1 : Nat) : Int) == 0) = false := by simp; exact hz
                generalize (s'.offer (dat off')).2 = s2 at *
                generalize (((s'.offer (dat off')).1 : Nat) : Int) = z at *
                clear hz ho1 hs0
                go_wp2_with fail
                go_roundw
                case rel => exact ⟨j + 1, off', s2, _, _, by omega, by go_num, by omega, rfl, HOF, HST, HP2⟩
                case measure => simp [intOf]; omega
            · obtain rfl : j = nOff c.offers t := by omega
              have HTA : Hid (tickA c t p = (s', off')) := Lib.hid (by have h := HO'.out; rw [Nat.sub_self] at h; exact h.symm)
              go_wp2_with fail
              go_meet
              case rel => exact ⟨s', off', oa', oc', rfl, HTA, HP'⟩
        · have HTA : Hid (tickA c t p = (p.s, p.off)) := Lib.hid (by unfold tickA nOff; rw [List.getElem?_eq_none (by omega)]; rfl)
          clear hin
          go_wp2_with fail
          go_meet
          case rel => exact ⟨p.s, p.off, oa, oc, rfl, HTA, HP⟩
        -- F}
      case rest =>
        clear hin
        obtain ⟨sA, offA, oA, ocA, rfl, HTA, HPA⟩ := hcut
        have hTa := HT.out.a; have hTs := HT.out.s; have hTsa := HT.out.sa
        rw [HTA.out] at hTa hTs hTsa
        dsimp only at hTa hTs hTsa
        have hoffA : offA ≤ 5000 := by
          have := HT.out.inv.off
          have h2 : (tickM c t p).off = offA := by show (tickA c t p).2 = _; rw [HTA.out]
          omega
        have HOKA := Lib.hid hTa.ok
        have HTOT := Lib.hid (show sA.total < 1000000000000 by rw [hTa.total]; omega)
        have HSS := Lib.hid hTs
        obtain ⟨r, hr⟩ : ∃ r, r = sA.tick.1 := ⟨_, rfl⟩
        have HR := Lib.hid hr
        clear hTa hTs hTsa hr
        go_wp2_with fail
        refine (pm_tick HPA.out HOKA.out HTOT.out).mono ?_
        rw [← HR.out]
        rintro e w2 ⟨v2, rfl, hy2, hp2⟩
        have HY2 := Lib.hid hy2; have HP2 := Lib.hid hp2; clear hy2 hp2
        generalize hs2 : sA.tick.2 = s2 at *
        have HS2 := Lib.hid hs2; clear hs2
        go_upto_if 94 with (fail)
        go_cut [14] from 49 to 184 (fun uo wc => ∃ (xa : Option Addr) (xc : Nat), uo = .slice xa (outM r).length xc ∧ Hid (RdG eItem wc (fun _ => True) (.slice xa (outM r).length xc) (outM r)) ∧ Hid (Pm W W.heap.size bo (W.heap.size + 1) y1.heap.size y2.heap.size (y2.heap.size + 1) (.slice oA offA ocA) (.slice aa p.n ac) tv' bv' s2 p.n p.th p.bk (datL offA) (datL p.n) tl bl wc))
        case first =>
          -- F{
          cases r with
          | none =>
            go_wp2_with fail
            go_meet
            case rel => exact ⟨none, 0, rfl, Lib.hid (RdG.nil _ _ _), HP2⟩
          | some x =>
            obtain ⟨k, d⟩ := x
            have hst := run_str8 Try.underlying28 Try.underlying5 Try.underlying9 HY2.out
            dsimp only [Option.elim] at hst
            go_wp2_with fail
            go_meet
            case rel => exact ⟨_, _, rfl, Lib.hid (rd_item w2 _ ⟨(k : Int), d⟩ _ rfl), Lib.hid (HP2.out.own (below_alloc w2 _))⟩
          -- F}
        case rest =>
          clear HPA HP2 HY2
          obtain ⟨xa, xc, rfl, HX, HPB⟩ := hcut
          have hzb := HPB.out.below.size
          clear b2 b3 b4 b5 b6
          have hbx := HPB.out.box; rw [← HBO.out] at hbx; have b2 := blk_cell (i := 2) hbx rfl; have b4 := blk_cell (i := 4) hbx rfl; have b5 := blk_cell (i := 5) hbx rfl; have b6 := blk_cell (i := 6) hbx rfl; clear hbx
          have HHb := Lib.hid (HH.out.below HPB.out.below)
          have hthl : p.th.length ≤ 10000 := by rw [HI.out.thl]; omega
          have hbkl : p.bk.length ≤ 10000 := by rw [HI.out.bkl]; omega
          have hol1 := outM_len r
          go_upto_region 21 with (fail)
          go_cut [18, 107, 108, 109] from 49 to 184 (fun u18 u107 u108 u109 wc => ∃ (l : List ItemD) (v4a : Option Addr) (v4c : Nat), u18 = .bool false ∧ u107 = .slice v4a l.length v4c ∧ u108 = .int .i64 (l.length : Int) ∧ u109 = .int .i64 ((0 : Nat) : Int) ∧ l.length ≤ v4c ∧ Hid (l = (carryM p.th c.delay (outM r) (timesM c.there t)).1) ∧
            Hid (Pm W W.heap.size bo (W.heap.size + 1) y1.heap.size y2.heap.size (y2.heap.size + 1) (.slice oA offA ocA) (.slice aa p.n ac) (.slice v4a l.length v4c) bv' s2 p.n (carryM p.th c.delay (outM r) (timesM c.there t)).2 p.bk (datL offA) (datL p.n) l bl wc))
          case first =>
            -- F{
            go_region_law (first
              | (go_simp; go_at_call 36; refine (times_any _ c.there t _ (by exact HHb.out.drewN _)).mono ?_; rintro e w3 ⟨rfl, rfl⟩)
              | (go_simp; go_at_call 35; refine (pm_there (HPB.out.own (below_drew _ _)) c.delay (timesM c.there t) _ (outM r) (fun _ => True) (by exact HX.out.keep fun _ _ _ => rfl) hthl (by omega) (timesM_le _ _) (by omega)).mono ?_; rintro e w4 ⟨v4, rfl, hp4⟩; obtain ⟨v4a, v4c, rfl, hv4⟩ := hp4.tvs; have HP4 := Lib.hid hp4; clear hp4))
            all_goals go_wp2_with fail
            all_goals go_meet
            all_goals (case rel => exact ⟨_, _, _, rfl, rfl, rfl, by go_num, hv4, Lib.hid rfl, HP4⟩)
            -- F}
          case rest =>
            obtain ⟨l, v4a, v4c, rfl, rfl, rfl, rfl, hv4, HL, HP4⟩ := hcut
            have hl : l = (tickB c t p).1 := by
              rw [HL.out]; unfold tickB; rw [HTA.out]; dsimp only; rw [← HR.out]
            have hth2 : (carryM p.th c.delay (outM r) (timesM c.there t)).2 = (tickB c t p).2 := by
              unfold tickB; rw [HTA.out]; dsimp only; rw [← HR.out]
            rw [hth2] at HP4
            have HL2 := Lib.hid hl
            have hll : l.length ≤ 2 := by rw [hl]; exact HT.out.bl
            have HLD := Lib.hid (show ∀ x ∈ l, x.data.length = 2 from fun x hx => by
              rw [hl] at hx; obtain ⟨k, hk⟩ := HT.out.bd x hx; rw [hk]; rfl)
            clear HL hl hth2 HX HPB b2 b4 b5 b6 hthl
            obtain ⟨av0, ac0, hav0⟩ := HP4.out.avs
            rw [datL_length] at hav0
            clear hav0 av0 ac0
            go_wp2_with fail
            go_loopw [109, 5, 18] (fun i ua ur wr => ∃ (j nn : Nat) (rf : Bool) (acc' : List Bytes) (aa' : Option Addr) (ac' : Nat), j ≤ l.length ∧ nn ≤ p.n + j ∧ acc'.length ≤ p.n + j ∧ i = .int .i64 (j : Int) ∧ ua = .slice aa' acc'.length ac' ∧ ur = .bool rf ∧ Hid ((l.take j).foldl recv1 (p.n, p.acc, false) = (nn, acc', rf)) ∧
              Hid (Pm W W.heap.size bo (W.heap.size + 1) y1.heap.size y2.heap.size (y2.heap.size + 1) (.slice oA offA ocA) (.slice aa' acc'.length ac') (.slice v4a l.length v4c) bv' s2 nn (tickB c t p).2 p.bk (datL offA) acc' l bl wr)) (fun i _ _ _ => l.length - (intOf i).toNat)
            case atStart =>
              refine ⟨0, p.n, false, p.acc, aa, ac, by omega, by omega, ?_, by go_num, ?_, rfl, Lib.hid rfl, ?_⟩
              · rw [HI.out.acc, datL_length]; omega
              · rw [HI.out.acc, datL_length]
              · have h := HP4
                rw [HI.out.acc, datL_length]; exact h
            case round =>
              clear HP4
              obtain ⟨j, nn, rf, acc', aa', ac', hj, hnn, hac, rfl, rfl, rfl, HF, HP⟩ := hrel
              by_cases hjl : j < l.length
              · -- F{
                obtain ⟨x, hx⟩ : ∃ x, l[j]? = some x := ⟨l[j], List.getElem?_eq_getElem hjl⟩
                have hxd : x.data.length ≤ 2 := Nat.le_of_eq (HLD.out x (List.mem_of_getElem? hx))
                have htv : RdI wr (fun _ => True) (.slice v4a l.length v4c) l := by
                  obtain ⟨L, h⟩ := HP.out
                  exact (RdI.thing _ _).mono h.tv fun _ _ => trivial
                obtain ⟨ib, io, rfl, i0, i1⟩ := item_at htv.rd hx
                have hfold := foldl_take recv1 (p.n, p.acc, false) hx
                rw [HF.out] at hfold
                have HFO := Lib.hid hfold
                have hil := World.block_lt_of_cell? _ _ i0
                clear htv hfold hx
                obtain ⟨sa, sc, w5, hrun, hby, hbel, rfl⟩ := str_bytes (P := Try.prog) (src := 9) (dst := 28) Try.underlying9 Try.underlying28 Try.underlying5 (wr.alloc (.cells #[.int .i64 x.n, .string (str8 x.data)] 75)) x.data (by omega)
                have HBY := Lib.hid hby; have HBEL := Lib.hid hbel
                have HP5 := Lib.hid ((HP.out.own (below_alloc wr _)).own hbel)
                have hpr := lt_of_block HP.out.rcv
                have hzz : (wr.alloc (.cells #[.int .i64 x.n, .string (str8 x.data)] 75)).heap.size = wr.heap.size + 1 := by simp
                rw [hzz] at hrun HBY
                clear hby hbel hzz
                by_cases hxn : x.n = (nn : Int) % 256
                · rw [hxn] at i0 hrun
                  have HN1 : Hid ((l.take (j + 1)).foldl recv1 (p.n, p.acc, false) = (nn + 1, acc' ++ [x.data], rf)) := Lib.hid (by rw [HFO.out]; unfold recv1; dsimp only; rw [if_pos hxn])
                  clear hxn
                  go_wp2_with fail
                  refine (pm_receive HP5.out (by omega) _ x.data HBY.out (by omega) (fun b hb => by
                    obtain rfl : wr.heap.size + 1 = b := by simpa [Value.ownBlock] using hb
                    omega)).mono ?_
                  rintro e w6 ⟨v6, rfl, hy6, hp6⟩
                  have HP6 := Lib.hid hp6; have HY6 := Lib.hid hy6
                  have hst := run_str8 Try.underlying28 Try.underlying5 Try.underlying9 hy6
                  obtain ⟨K, us, hsl, hcl⟩ := pm_acc hp6 x.data
                  have HSL := Lib.hid hsl; have HCL := Lib.hid hcl; clear hsl hcl hy6 hp6
                  go_wp2_with (at_builtin; refine wpList_apps slS rfl _ _ rfl K _ acc'.length us rfl (HSL.out.alloc _) _ 1 [.string (str8 x.data)] rfl (rd_one _ _ _ _ rfl) (by intro u hu; simp at hu; subst hu; rfl) (by unfold maxLen; omega) (by omega) ?_; intro v7 w7 hsl7 hf7; obtain ⟨g7, off7, cap7, rfl, _⟩ := Sl.head hsl7 (by omega); have HP7 := Lib.hid (HCL.out _ _ _ hsl7 hf7); clear hsl7 hf7)
                  go_roundw
                  case rel => exact ⟨j + 1, nn + 1, rf, acc' ++ [x.data], some ⟨g7, off7, none⟩, cap7, by omega, by omega, by simp; omega, by go_num, by simp, rfl, HN1, by simpa using HP7⟩
                  case measure => simp [intOf]; omega
                · have HN1 : Hid ((l.take (j + 1)).foldl recv1 (p.n, p.acc, false) = (nn, acc', true)) := Lib.hid (by rw [HFO.out]; unfold recv1; dsimp only; rw [if_neg hxn])
                  have HXN := Lib.hid hxn
                  clear hxn
                  go_wp2_with fail
                  refine (pm_receive_no HP5.out x.n _ x.data HBY.out HXN.out).mono ?_
                  rintro e w6 ⟨rfl, rfl⟩
                  go_wp2_with fail
                  go_roundw
                  case rel => exact ⟨j + 1, nn, true, acc', aa', ac', by omega, by omega, by omega, by go_num, rfl, rfl, HN1, HP5⟩
                  case measure => simp [intOf]; omega
                -- F}
              · obtain rfl : j = l.length := by omega
                have hF := HF.out
                rw [List.take_length] at hF
                have hC : tickC c t p = (nn, acc', rf) := by
                  show (tickB c t p).1.foldl recv1 (p.n, p.acc, false) = _
                  rw [← HL2.out]; exact hF
                have HCC := Lib.hid hC
                have hacc : acc' = datL nn := by have h := HT.out.cc; rw [hC] at h; exact h
                rw [hacc] at HP
                rw [hacc, datL_length]
                rw [datL_length] at HP
                have HAC := Lib.hid hacc
                clear hF hC hacc hj HF
                have hbx := HP.out.box; rw [← HBO.out] at hbx; have b2 := blk_cell (i := 2) hbx rfl; have b4 := blk_cell (i := 4) hbx rfl; have b5 := blk_cell (i := 5) hbx rfl; have b6 := blk_cell (i := 6) hbx rfl; clear hbx
                have HKb := Lib.hid (HK.out.below HP.out.below)
                have hzb2 := HP.out.below.size
                go_wp2_with fail
                refine (pm_expected HP.out).mono ?_
                rintro e w6 ⟨rfl, rfl⟩
                have hbl2 := lt_of_block HP.out.box
                go_upto_region 30 with (fail)
                go_cut [137] from 49 to 184 (fun u wc => ∃ z : Bool, u = .bool z ∧ Hid (z = (rf && c.naks)) ∧ Hid (wc.heap[wr.heap.size]? = some (.cells #[.int .i64 ((nn : Int) % 256), .string (str8 [])] 75 (0, 0))) ∧ Hid (∃ L, PmL W W.heap.size bo (W.heap.size + 1) y1.heap.size y2.heap.size (y2.heap.size + 1) (.slice oA offA ocA) (.slice aa' nn ac') (.slice v4a l.length v4c) bv' s2 nn (tickB c t p).2 p.bk (datL offA) (datL nn) l bl wc L ∧ L wr.heap.size = 8))
                case first =>
                  -- F{
                  have HQ := Lib.hid (show (wr.alloc (.cells #[.int .i64 ((nn : Int) % 256), .string (str8 [])] 75 (0, 0))).heap[wr.heap.size]? = _ from heap_alloc_new wr _)
                  have HPQ := Lib.hid (HP.out.box8 (.cells #[.int .i64 ((nn : Int) % 256), .string (str8 [])] 75 (0, 0)))
                  cases rf
                  all_goals go_wp2_with fail
                  all_goals go_meet
                  all_goals (case rel => exact ⟨_, rfl, Lib.hid rfl, HQ, HPQ⟩)
                  -- F}
                case rest =>
                  clear b2 b4 b5 b6
                  obtain ⟨z, rfl, HZ, HQ, HPQ⟩ := hcut
                  have q1 := blk_free HQ.out 1
                  have q1c := blk_cell (i := 1) HQ.out rfl
                  have hql := lt_of_block HQ.out
                  go_upto_if 137 with (fail)
                  go_cut [] from 49 to 184 (fun w8 => Hid (w8.heap[wr.heap.size]? = some (.cells #[.int .i64 ((nn : Int) % 256), .string (str8 (answer c t p).data)] 75 (0, 0))) ∧ Hid (∃ L, PmL W W.heap.size bo (W.heap.size + 1) y1.heap.size y2.heap.size (y2.heap.size + 1) (.slice oA offA ocA) (.slice aa' nn ac') (.slice v4a l.length v4c) bv' s2 nn (tickB c t p).2 p.bk (datL offA) (datL nn) l bl w8 L ∧ L wr.heap.size = 8))
                  case first =>
                    -- F{
                    obtain ⟨L, hpl, hL⟩ := HPQ.out
                    have HD : Hid ((answer c t p).data = if z = true then nakB else []) := Lib.hid (by unfold answer; rw [HCC.out, HZ.out])
                    cases z
                    · have HP8 := HPQ
                      have hd0 : (answer c t p).data = [] := by rw [HD.out]; rfl
                      have HD0 := Lib.hid hd0
                      clear hpl hd0
                      go_wp2_with fail
                      go_meet
                      case rel => exact ⟨by rw [HD0.out]; exact HQ, HP8⟩
                    · have HP8 := Lib.hid (fun v => (⟨_, PmL.fr8 hpl ((Fr.refl (L.is 8) wc).setCell (p := ⟨wr.heap.size, 1, none⟩) (.inl hL) v), (Lab.new_old hql).trans hL⟩ : ∃ L', PmL W W.heap.size bo (W.heap.size + 1) y1.heap.size y2.heap.size (y2.heap.size + 1) (.slice oA offA ocA) (.slice aa' nn ac') (.slice v4a l.length v4c) bv' s2 nn (tickB c t p).2 p.bk (datL offA) (datL nn) l bl (wc.setCell ⟨wr.heap.size, 1, none⟩ v) L' ∧ L' wr.heap.size = 8))
                      have hd0 : (answer c t p).data = nakB := by rw [HD.out]; rfl
                      have HD0 := Lib.hid hd0
                      clear hpl hd0
                      go_wp2_with fail
                      go_meet
                      case rel => exact ⟨Lib.hid (by rw [HD0.out]; have h' := HQ.out; (apply row_trans; focus (repeat (first | (with_reducible exact h') | (with_reducible apply row_set) | (with_reducible apply row_drewN) | (with_reducible apply row_drew)))); rfl), HP8.out _⟩
                    -- F}
                  case rest =>
                    obtain ⟨HQ8, HPL8⟩ := hcut
                    obtain ⟨L8, hpl8, hL8⟩ := HPL8.out
                    have HP8 := Lib.hid (show Pm W W.heap.size bo (W.heap.size + 1) y1.heap.size y2.heap.size (y2.heap.size + 1) (.slice oA offA ocA) (.slice aa' nn ac') (.slice v4a l.length v4c) bv' s2 nn (tickB c t p).2 p.bk (datL offA) (datL nn) l bl wc from ⟨L8, hpl8⟩)
                    clear HQ HPQ hql q1 q1c
                    have hbx := HP8.out.box; rw [← HBO.out] at hbx; have b2 := blk_cell (i := 2) hbx rfl; have b4 := blk_cell (i := 4) hbx rfl; have b5 := blk_cell (i := 5) hbx rfl; have b6 := blk_cell (i := 6) hbx rfl; clear hbx
                    have hbl3 := lt_of_block HP8.out.box
                    have q0 := blk_cell (i := 0) HQ8.out rfl
                    have q1 := blk_cell (i := 1) HQ8.out rfl
                    have hql := lt_of_block HQ8.out
                    have HKb8 := Lib.hid (HK.out.below HP8.out.below)
                    have hzb8 := HP8.out.below.size
                    have HAN := Lib.hid (show (answer c t p).n = (nn : Int) % 256 by unfold answer; rw [HCC.out])
                    have HRD : RdG eItem (World.drew (wc.alloc (.cells #[.int .i64 ((nn : Int) % 256), .string (str8 (answer c t p).data)] 75))) (fun _ => True) (.slice (some ⟨wc.heap.size, 0, none⟩) 1 1) [answer c t p] := by
                      have h := rd_item wc wc.heap.size (answer c t p) 75 rfl
                      rw [HAN.out] at h
                      exact h.keep fun _ _ _ => rfl
                    have HPB8 := Lib.hid (pml_back ((hpl8.own (below_alloc _ (.cells #[.int .i64 ((nn : Int) % 256), .string (str8 (answer c t p).data)] 75))).own (below_drew1 _)) c.delay (timesM c.back t) _ [answer c t p] _ HRD hbkl (by show 1 ≤ 10; decide) (timesM_le _ _) (by omega))
                    have HL7 := Lib.hid (show L8 W.heap.size ≠ 4 by have h := hpl8.bx.2; have h' : L8 W.heap.size = 7 := h; omega)
                    have HL8 := Lib.hid (show L8 wr.heap.size ≠ 4 by omega); clear hL8 hpl8
                    clear HRD
                    go_upto_region 32 with (fail)
                    go_cut [147, 148, 149] from 49 to 184 (fun u147 u148 u149 wc => ∃ (l5 : List ItemD) (v5a : Option Addr) (v5c : Nat), u147 = .slice v5a l5.length v5c ∧ u148 = .int .i64 (l5.length : Int) ∧ u149 = .int .i64 ((0 : Nat) : Int) ∧ l5.length ≤ v5c ∧ Hid (l5 = (carryM p.bk c.delay [answer c t p] (timesM c.back t)).1) ∧
                      Hid (Pm W W.heap.size bo (W.heap.size + 1) y1.heap.size y2.heap.size (y2.heap.size + 1) (.slice oA offA ocA) (.slice aa' nn ac') (.slice v4a l.length v4c) (.slice v5a l5.length v5c) s2 nn (tickB c t p).2 (carryM p.bk c.delay [answer c t p] (timesM c.back t)).2 (datL offA) (datL nn) l l5 wc))
                    case first =>
                      -- F{
                      go_region_held3 (fun w' => w'.cell? ⟨W.heap.size, 2, none⟩ = some (.int .i64 (c.delay : Int)) ∧ w'.cell? ⟨W.heap.size, 5, none⟩ = some (.slice ba0 c.back.length bc0) ∧ w'.cell? ⟨wr.heap.size, 0, none⟩ = some (.int .i64 ((nn : Int) % 256)) ∧ w'.cell? ⟨wr.heap.size, 1, none⟩ = some (.string (str8 (answer c t p).data)))
                        (first | exact ⟨b2, b5, q0, q1⟩ | exact ⟨alloc_cell _ _ b2, alloc_cell _ _ b5, alloc_cell _ _ q0, alloc_cell _ _ q1⟩ | exact HS4.out)
                        (first
                        | (go_at_call 36; refine (times_any _ c.back t _ (by first | exact Rd.keep HKb8.out (fun _ _ _ => rfl) | exact Rd.keep (HKb8.out.alloc _) fun _ _ _ => rfl)).mono ?_; rintro e w3 ⟨rfl, rfl⟩)
                        | (go_at_call 35; (with_reducible refine (HPB8.out).mono ?_); rintro e w4 ⟨v5, l5, rfl, HL5, hp4, hf4⟩; obtain ⟨v5a, v5c, rfl, hv5⟩ := hp4.bvs; have HP9 := Lib.hid hp4; have HS4 := Lib.hid (show w4.cell? ⟨W.heap.size, 2, none⟩ = some (.int .i64 (c.delay : Int)) ∧ w4.cell? ⟨W.heap.size, 5, none⟩ = some (.slice ba0 c.back.length bc0) ∧ w4.cell? ⟨wr.heap.size, 0, none⟩ = some (.int .i64 ((nn : Int) % 256)) ∧ w4.cell? ⟨wr.heap.size, 1, none⟩ = some (.string (str8 (answer c t p).data)) from ⟨(s4_of hf4 hbl3 HL7.out _).trans b2, (s4_of hf4 hbl3 HL7.out _).trans b5, (s4_of hf4 hql HL8.out _).trans q0, (s4_of hf4 hql HL8.out _).trans q1⟩); clear hp4 hf4))
                      all_goals go_wp2_with fail
                      all_goals go_meet
                      all_goals (case rel => exact ⟨l5, v5a, v5c, rfl, rfl, by go_num, hv5, HL5, HP9⟩)
                      -- F}
                    case rest =>
                      obtain ⟨l5, v5a, v5c, rfl, rfl, rfl, hv5, HL5, HP9⟩ := hcut
                      have htd : carryM p.bk c.delay [answer c t p] (timesM c.back t) = tickD c t p := rfl
                      rw [htd] at HL5 HP9
                      clear htd b2 b4 b5 b6 q0 q1 hql hbl3 hzb8 HPB8 HP8 HPL8 HL7 HL8
                      have hnn5 : nn ≤ 6000 := by have := HT.out.c2; rw [HCC.out] at this; dsimp only at this; omega
                      have HBK : Hid (∀ j, SInv c.window c.timeout ((l5.take j).foldl back1 s2) offA) := Lib.hid (fun j => by
                        have T := HT.out
                        have h1 := T.s; have h2 := T.sa; have h3 := T.c1; have h4 := T.c3; have h5 := T.dd; have h6 := HI.out.an
                        rw [HTA.out] at h1 h2 h4
                        dsimp only at h1 h2 h4
                        rw [HS2.out] at h1 h2 h4
                        rw [HCC.out] at h3 h4 h5
                        dsimp only at h3 h4 h5
                        exact (SInv.backs (n := nn) (l := l5.take j) h1 (by omega) h4 fun x hx => by
                          have := List.mem_of_mem_take hx
                          rw [HL5.out] at this
                          exact h5 x this).1)
                      have hl5 : l5.length ≤ 2 := by rw [HL5.out]; exact HT.out.dl
                      have hlit : ({ data := #[110, 97, 107] } : ByteArray) = str8 nakB := rfl
                      go_wp2_with fail
                      go_loopw [149] (fun i wr => ∃ j : Nat, j ≤ l5.length ∧ i = .int .i64 (j : Int) ∧ Hid (Pm W W.heap.size bo (W.heap.size + 1) y1.heap.size y2.heap.size (y2.heap.size + 1) (.slice oA offA ocA) (.slice aa' nn ac') (.slice v4a l.length v4c) (.slice v5a l5.length v5c) ((l5.take j).foldl back1 s2) nn (tickB c t p).2 (tickD c t p).2 (datL offA) (datL nn) l l5 wr)) (fun i _ => l5.length - (intOf i).toNat)
                      case atStart => exact ⟨0, by omega, by go_num, HP9⟩
                      case round =>
                        clear HP9
                        obtain ⟨j, hj, rfl, HP⟩ := hrel
                        by_cases hjl : j < l5.length
                        · -- F{
                          obtain ⟨x, hx⟩ : ∃ x, l5[j]? = some x := ⟨l5[j], List.getElem?_eq_getElem hjl⟩
                          have hbv : RdI wr (fun _ => True) (.slice v5a l5.length v5c) l5 := by
                            obtain ⟨L, h⟩ := HP.out
                            exact (RdI.thing _ _).mono h.bv fun _ _ => trivial
                          obtain ⟨ib, io, rfl, i0, i1⟩ := item_at hbv.rd hx
                          have HFO := Lib.hid (foldl_take back1 s2 hx)
                          have hil := World.block_lt_of_cell? _ _ i0
                          have hSj := HBK.out j
                          have HOKj := Lib.hid hSj.ok
                          have HTTj := Lib.hid (show ((l5.take j).foldl back1 s2).total < 1000000000000 by rw [hSj.total]; omega)
                          clear hbv hx hSj
                          by_cases hnk : x.data = nakB
                          · have hb : (x.data == nakB) = true := by rw [hnk]; rfl
                            have HFN : Hid ((l5.take (j + 1)).foldl back1 s2 = (((l5.take j).foldl back1 s2).nak x.n).2) := Lib.hid (by rw [HFO.out]; unfold back1; rw [if_pos hnk])
                            clear hnk
                            go_wp2_with fail
                            refine (pm_nak (HP.out.own (below_alloc _ _)) HOKj.out HTTj.out x.n).mono ?_
                            rintro e w6 ⟨rfl, hp6⟩
                            rw [← HFN.out] at hp6
                            have HP6 := Lib.hid hp6; clear hp6
                            go_wp2_with fail
                            go_roundw
                            case rel => exact ⟨j + 1, by omega, by go_num, HP6⟩
                            case measure => simp [intOf]; omega
                          · have hb : (x.data == nakB) = false := by simpa using hnk
                            have HFN : Hid ((l5.take (j + 1)).foldl back1 s2 = (((l5.take j).foldl back1 s2).ack x.n).2) := Lib.hid (by rw [HFO.out]; unfold back1; rw [if_neg hnk])
                            clear hnk
                            go_wp2_with fail
                            refine (pm_ack (HP.out.own (below_alloc _ _)) HOKj.out HTTj.out x.n).mono ?_
                            rintro e w6 ⟨rfl, hp6⟩
                            rw [← HFN.out] at hp6
                            have HP6 := Lib.hid hp6; clear hp6
                            go_wp2_with fail
                            go_roundw
                            case rel => exact ⟨j + 1, by omega, by go_num, HP6⟩
                            case measure => simp [intOf]; omega
                          -- F}
                        · obtain rfl : j = l5.length := by omega
                          have hP := HP.out
                          rw [List.take_length] at hP
                          have hS : (tickM c t p).s = l5.foldl back1 s2 := by
                            show (tickD c t p).1.foldl back1 (tickA c t p).1.tick.2 = _
                            rw [HTA.out, ← HL5.out, ← HS2.out]
                          have hO : (tickM c t p).off = offA := by show (tickA c t p).2 = _; rw [HTA.out]
                          have hN : (tickM c t p).n = nn := by show (tickC c t p).1 = _; rw [HCC.out]
                          have hle : nn ≤ offA := by have h := HT.out.inv.le; rw [hO, hN] at h; exact h
                          have HPN : Hid (Pm W W.heap.size bo (W.heap.size + 1) y1.heap.size y2.heap.size (y2.heap.size + 1) (.slice oA (playM c (t + 1)).off ocA) (.slice aa' (playM c (t + 1)).n ac') (.slice v4a l.length v4c) (.slice v5a l5.length v5c) (playM c (t + 1)).s (playM c (t + 1)).n (playM c (t + 1)).th (playM c (t + 1)).bk (datL (playM c (t + 1)).off) (datL (playM c (t + 1)).n) l l5 wr) := Lib.hid (by
                            rw [hnext.out, hO, hN, hS]; exact hP)
                          have HON : Hid ((playM c (t + 1)).off = offA) := Lib.hid (by rw [hnext.out]; exact hO)
                          have HNN : Hid ((playM c (t + 1)).n = nn) := Lib.hid (by rw [hnext.out]; exact hN)
                          have HST : Hid (∀ k, k < nn → (∃ b o, aa' = some ⟨b, o, none⟩ ∧ wr.cell? ⟨b, o + k, none⟩ = some (.string (str8 (dat k)))) ∧ (∃ b o, oA = some ⟨b, o, none⟩ ∧ wr.cell? ⟨b, o + k, none⟩ = some (.string (str8 (dat k))))) := Lib.hid (fun k hk => by
                            obtain ⟨L, h⟩ := hP
                            exact ⟨str_at h.av (datL_get hk), str_at h.ov (datL_get (by omega))⟩)
                          clear hP hS hO hN HP hj
                          go_wp2_with fail
                          go_loopw [172, 4, 5, 6] (fun i u4 u5 u6 w' => ∃ k : Nat, k ≤ nn ∧ i = .int .i64 (k : Int) ∧ u4 = .slice oA offA ocA ∧ u5 = .slice aa' nn ac' ∧ u6 = .pointer (some ⟨W.heap.size + 1, 0, none⟩) ∧ w' = wr) (fun i _ _ _ _ => nn - (intOf i).toNat)
                          case atStart => exact ⟨0, by omega, by go_num, rfl, rfl, rfl, rfl⟩
                          case round =>
                            obtain ⟨k, hk, rfl, rfl, rfl, rfl, rfl⟩ := hrel
                            by_cases hkl : k < nn
                            · obtain ⟨⟨ib, io, rfl, i0⟩, ⟨jb, jo, rfl, j0⟩⟩ := HST.out k hkl
                              go_wp2_with fail
                              go_roundw
                              case rel => exact ⟨k + 1, by omega, by go_num, by trivial, by trivial, by trivial, by trivial⟩
                              case measure => simp [intOf]; omega
                            · obtain rfl : k = nn := by omega
                              go_wp2_with fail
                              go_roundw
                              case rel => exact ⟨rfl, t + 1, oA, aa', ocA, ac', _, _, _, _, by omega, by go_num, by rw [HON.out], by rw [HNN.out], HPN⟩
                              case measure => simp [intOf]; omega
    · obtain rfl : t = ticks := by omega
      go_wp2_with fail
      refine bodyPost_ret (v := .tuple #[.slice oa (playM c t).off oc, .slice aa (playM c t).n ac, .pointer (some ⟨W.heap.size + 1, 0, none⟩), .bool true]) (by simp [results, Try.results25, go_sem]) rfl ⟨oa, oc, aa, ac, _, _, _, _, _, rfl, bo, _, _, HP.out⟩
end Go.Proofs.Ytgpeekicpkgpmaa
