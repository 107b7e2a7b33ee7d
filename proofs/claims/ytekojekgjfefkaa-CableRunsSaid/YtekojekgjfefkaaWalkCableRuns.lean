/- The walk of CableRuns. -/
import Derived.Test.YtekojekgjfefkaaCabQ
import Derived.Test.YtekojekgjfefkaaWalkCableBalances
import Derived.Test.YtekojekgjfefkaaRow
import Derived.Deep.QuietTactic
import Derived.BigQuiet
namespace Go.Proofs.Ytekojekgjfefkaa
open Go.RowKit

/-- the cable after j operations -/
structure Run (fs : List Flt) (j : Nat) (c : Cab) : Prop where
  ok : c.Ok
  due : Due c
  fs : c.faults = fs
  tk : c.ticks ≤ j
  se : c.sent ≤ j
  ls : c.lost ≤ 65 * j
theorem Run.send {fs : List Flt} {j : Nat} {c : Cab} (h : Run fs j c) (d : Byt) : Run fs (j + 1) (c.send d).2 := by
  obtain ⟨h1, h2, h3⟩ := send_const c d
  have h4 := send_bal c d
  have := h.tk; have := h.se; have := h.ls
  exact ⟨Cab.send_ok h.ok d, h.due.send h.ok.d1 d, h3.trans h.fs, by omega, by omega, by omega⟩
theorem Run.tick {fs : List Flt} {j : Nat} {c : Cab} (h : Run fs j c) : Run fs (j + 1) c.tick.2 := by
  obtain ⟨_, h1, h2, h3, h4⟩ := tick_bal c
  have := h.tk; have := h.se; have := h.ls
  exact ⟨Cab.tick_ok h.ok, h.due.tick, h4.trans h.fs, by omega, by omega, by omega⟩
theorem Run.cut {fs : List Flt} {j : Nat} {c : Cab} (h : Run fs j c) : Run fs (j + 1) c.cut := by
  have := h.tk; have := h.se; have := h.ls; have := h.ok.fly
  exact ⟨Cab.cut_ok h.ok, Due.cut, h.fs, by show c.ticks ≤ _; omega, by show c.sent ≤ _; omega, by show c.lost + c.flying.length ≤ _; omega⟩
theorem Run.mend {fs : List Flt} {j : Nat} {c : Cab} (h : Run fs j c) : Run fs (j + 1) c.mend := by
  have := h.tk; have := h.se; have := h.ls
  exact ⟨Cab.mend_ok h.ok, h.due.mend, h.fs, by show c.ticks ≤ _; omega, by show c.sent ≤ _; omega, by show c.lost ≤ _; omega⟩
theorem Run.up {fs : List Flt} {j : Nat} {c : Cab} (h : Run fs j c) : Run fs (j + 1) c := by
  have := h.tk; have := h.se; have := h.ls
  exact ⟨h.ok, h.due, h.fs, by omega, by omega, by omega⟩
theorem own_blk {w : World} {T : TypeId} {base : Nat} {v : Value} {d : Byt} (h : Ow T w base v d) (hn : v ≠ .slice none 0 0) : ∃ g cap cur, v = .slice (some ⟨g, 0, none⟩) d.length cap ∧ base ≤ g ∧ w.heap[g]? = some (.cells cur T (0, 0)) ∧ d.length ≤ cap ∧ cap ≤ maxLen ∧ d.length ≤ cur.size ∧ cur.toList.take d.length = cu d := by
  obtain ⟨_, ⟨h1, _⟩ | ⟨g, cap, cur, e, hb, hg, h2, h3, h4, h5⟩⟩ := h
  · exact absurd h1 hn
  · rw [Nat.mul_one] at h4 h5
    exact ⟨g, cap, cur, e, hb, hg, h2, h3, by omega, h5⟩
theorem own_by {w : World} {T : TypeId} {g cap : Nat} {cur : Array Value} {d : Byt} (h : w.heap[g]? = some (.cells cur T (0, 0))) (h2 : d.length ≤ cap) (h3 : cap ≤ maxLen) (h5 : d.length ≤ cur.size ∧ cur.toList.take d.length = cu d) : ByZ w (fun k => k = g) (.slice (some ⟨g, 0, none⟩) d.length cap) d := by
  refine ⟨⟨by rw [cu_length, Nat.mul_one], some ⟨g, 0, none⟩, cap, rfl, h2, h3, (fun e => by cases e), fun b hb j u hj => ?_⟩, fun _ b hb => ?_⟩
  · obtain rfl := Option.some.inj hb
    refine ⟨rfl, ?_⟩
    rw [← h5.2, List.getElem?_take] at hj
    split at hj
    · simp only [World.cell?, h, Nat.zero_add]
      simpa using hj
    · cases hj
  · simpa [Value.ownBlock] using hb.symm
set_option maxHeartbeats 32000000 in
set_option maxRecDepth 100000 in
theorem walkCableRuns (W : World) (v0 v1 v2 : Value) (o0 : IsInt .i64 v0) (o1 : IsSl rFlt W v1) (o2 : IsSl rCOp W v2) :
    Calls Try.prog 7 #[v0, v1, v2] W fun e w' => e = .returned (.bool true) ∧ Below W.heap.size W w' := by
  obtain ⟨dl, rfl, _⟩ := o0
  obtain ⟨fs, hfs⟩ := o1
  obtain ⟨ops, hops⟩ := o2
  have hr := flts_of hfs
  have ho := cops_of hops
  obtain ⟨fa, fc, rfl, _, _⟩ := hr.shape
  obtain ⟨oa, oc, rfl, _, _⟩ := ho.shape
  have HR := Lib.hid hr
  have HS := Lib.hid (((Held.start0 (fun _ => False) (Old W) (fun _ f _ => f) W).addOld (T := tRd eCOp (.slice oa ops.length oc) ops) (RdS.mono ho fun k h => ⟨h, id⟩)).addOld (T := tRd eFlt (.slice fa fs.length fc) fs) (RdS.mono hr fun k h => ⟨h, id⟩))
  have HO := Lib.hid ho
  clear hr ho hfs hops
  go_enter Try.func7, Try.ntmps7
  go_wp2_with fail
  refine (awake_any W).mono ?_
  rintro e w1 ⟨rfl, hb⟩
  have H1 := Lib.hid (HS.out.own hb); have HB1 := Lib.hid hb; clear hb
  go_wp2_with fail
  refine (few_any w1 _ _ ops (HO.out.below HB1.out) fa fs.length fc).mono ?_
  rintro e w2 ⟨rfl, hb⟩
  have H2 := Lib.hid (H1.out.own hb); clear hb H1
  have HB2 := Lib.hid H2.out.below
  by_cases hfew : fewB ops fs.length = true
  · have hf2 := hfew
    unfold fewB at hf2
    simp only [Bool.and_eq_true, decide_eq_true_eq, List.all_eq_true] at hf2
    obtain ⟨⟨hsm, hol⟩, hfl⟩ := hf2
    have HSM := Lib.hid hsm; clear hsm
    by_cases hrg : dl < 1 ∨ 100 < dl
    · go_wp2_with fail
      refine (new_range w2 dl fa fs.length fc hrg).mono ?_
      rintro e w3 ⟨rfl, rfl⟩
      clear hrg
      go_wp2_with fail
      go_ret
      exact ⟨rfl, HB2.out⟩
    · obtain ⟨n, rfl⟩ := Int.eq_ofNat_of_zero_le (show 0 ≤ dl by omega)
      have hn1 : 1 ≤ n := by omega
      have hn2 : n ≤ 100 := by omega
      clear hrg
      go_wp2_with fail
      refine (new_any w2 _ _ fs (HR.out.below HB2.out) (by omega) n hn1 hn2).mono ?_
      rintro e w3 (⟨hok, rfl, hb⟩ | ⟨hok, p, rfl, hmd⟩)
      · have HB3 := Lib.hid (HB2.out.trans (hb.mono HB2.out.size)); clear hb
        go_wp2_with fail
        go_ret
        exact ⟨rfl, HB3.out⟩
      · have h3 := ((H2.out.made hmd).pick [2, 0, 1] [tCab p (Cab.new n fs), tRd eCOp (.slice oa ops.length oc) ops, tRd eFlt (.slice fa fs.length fc) fs] (by simp) rfl).new (.cells #[.int .i64 (n : Int), .slice fa fs.length fc, .bool false, .int .i64 0, .int .i64 0, .slice none 0 0, .int .i64 0] 47)
        have H4 := Lib.hid (h3.add (T := tSq eTr 71 (.slice none 0 0) []) (Below.refl _ _) (Sq.nil _ _ _ _ _))
        have HR0 : Hid (Run fs 0 (Cab.new n fs)) := Lib.hid ⟨Cab.new_ok (delay := n) (by omega) (by omega) hok, Due.new n fs, rfl, Nat.le_refl _, Nat.le_refl _, Nat.le_refl _⟩
        clear hmd hok h3
        go_wp2_with fail
        obtain ⟨rb, hrb⟩ : ∃ rb, rb = w3.heap.size := ⟨_, rfl⟩
        rw [← hrb] at H4 ⊢
        clear hrb
        go_loopw [38] (fun i wr => ∃ (j : Nat) (c : Cab) (va : Option Addr) (vc : Nat), j ≤ ops.length ∧ i = .int .i64 (j : Int) ∧ Hid (Run fs j c) ∧ Hid (Held (fun _ => False) (Old W) W [tCab p c, tRd eCOp (.slice oa ops.length oc) ops, tRd eFlt (.slice fa fs.length fc) fs, tBlk rb (.cells #[.int .i64 (c.delay : Int), .slice fa fs.length fc, .bool (!c.up), .int .i64 (c.sent : Int), .int .i64 (c.ticks : Int), .slice va c.flying.length vc, .int .i64 (c.lost : Int)] 47), tSq eTr 71 (.slice va c.flying.length vc) c.flying] wr)) (fun i _ => ops.length - (intOf i).toNat)
        case atStart => exact ⟨0, _, none, 0, by omega, by go_num, HR0, H4⟩
        case round =>
          clear H4 HR0
          obtain ⟨j, c, va, vc, hj, rfl, HRN, HH⟩ := hrel
          have hz : W.heap.size ≤ wr.heap.size := HH.out.below.size
          have HFS := Lib.hid HRN.out.fs
          by_cases hlt : j < ops.length
          · obtain ⟨o, ho⟩ : ∃ o, ops[j]? = some o := ⟨ops[j], List.getElem?_eq_getElem hlt⟩
            obtain ⟨b, off, xa, xc, rfl, k0, k1, _⟩ := cop_at (HO.out.below HH.out.below) ho
            have hol60 : o.data.length ≤ 60 := by simpa using HSM.out o (List.mem_of_getElem? ho)
            have HOO := Lib.hid ho; have HK1 := Lib.hid k1
            have HHA := Lib.hid (HH.out.new (.cells #[.int .i64 o.kind, .slice xa o.data.length xc] 49))
            clear ho
            obtain ⟨r0, r1, r2, r3, r4, r5, r6, rf, rs⟩ := HH.out.seven 3 rfl
            have htk : c.ticks < 1000000000 := by have := HRN.out.tk; omega
            have hse : c.sent < 1000000000 := by have := HRN.out.se; omega
            have hls : c.lost < 1000000000 := by have := HRN.out.ls; omega
            have hfy := HRN.out.ok.fly
            have hkind : o.kind = 0 ∨ o.kind = 1 ∨ o.kind = 2 ∨ o.kind = 3 ∨ (o.kind ≠ 0 ∧ o.kind ≠ 1 ∧ o.kind ≠ 2 ∧ o.kind ≠ 3) := by omega
            rcases hkind with hk | hk | hk | hk | ⟨hk0, hk1, hk2, hk3⟩
            · have s0 : (o.kind == 0) = true := by simpa using hk
              clear hk
              have HBY := Lib.hid (cop_by (HO.out.below HH.out.below) HOO.out HK1.out).1
              go_upto_region 13 with (fail)
              obtain ⟨wa, hwa⟩ : ∃ wa, wa = wr.alloc (.cells #[.int .i64 o.kind, .slice xa o.data.length xc] 49) := ⟨_, rfl⟩
              rw [← hwa] at HHA ⊢
              have HBYA := Lib.hid (show By wa (.slice xa o.data.length xc) o.data by rw [hwa]; exact By.alloc HBY.out _)
              have HBA := Lib.hid (show Below wr.heap.size wr wa by rw [hwa]; exact below_alloc wr _)
              have hrow := HHA.out.blk 5 rfl
              have o0 := blk_cell (i := 0) hrow rfl
              have o1 := blk_cell (i := 1) hrow rfl
              have os := lt_of_block hrow
              clear hrow hwa
              obtain ⟨r0, r1, r2, r3, r4, r5, r6, rf, rs⟩ := HHA.out.seven 3 rfl
              go_upto_region 14 with (at_builtin; refine wpList_app slU8 rfl _ _ rfl wa.heap.size _ 0 [] rfl (World.ownsRow_made _ _ 0 (Nat.le_refl _) (Nat.zero_le _) rfl) _ o.data.length (cu o.data) rfl (By.alloc HBYA.out _) cu_one (by unfold maxLen; omega) (by omega) (by simp) ?_; intro v3 w3 hown3 hg3 hnil; have HB3 := Lib.hid (((Below.refl wa.heap.size wa).alloc (Nat.le_refl _) _).grown hg3 (by simp) (fun k e => by cases e; exact Nat.le_refl _)); have HO3 := Lib.hid (show Ow 5 w3 wa.heap.size v3 o.data by simpa [Ow] using hown3); have HN3 := Lib.hid hnil; clear hown3 hg3 hnil)
              obtain ⟨g, cap, cur, rfl, hg1, hg2, hcap, hcm, hcs⟩ := own_blk HO3.out (fun e => by have h := (HN3.out.1 e).1; cases h)
              have h3 := HHA.out.add (T := tBlk g (.cells cur 5 (0, 0))) HB3.out ⟨hg2, hg1⟩
              have H3 := Lib.hid h3
              clear h3 hg2
              have HCS := Lib.hid hcs
              have hcl : o.data.length ≤ cur.size := by have := hcs.1; omega
              clear hcs
              have HK3 := Lib.hid (cell_later HB3.out (cell_later HBA.out HK1.out))
              have o0' := cell_later HB3.out o0
              have o1' := cell_later HB3.out o1
              have os' : wr.heap.size < w3.heap.size := Nat.lt_of_lt_of_le os HB3.out.size
              obtain ⟨r0, r1, r2, r3, r4, r5, r6, rf, rs⟩ := H3.out.seven 3 rfl
              have hsend := rSend_h H3.out c HRN.out.ok 4 rfl 2 (fa := fa) (fc := fc) (by rw [HFS.out]; rfl) (by decide) 1 rfl (by decide) xa o.data.length xc o.data (by omega) (fun H Y h => cop_by h HOO.out HK3.out) (by rw [HFS.out]; omega) hls hse htk
              rw [HFS.out] at hsend
              have HSEND := Lib.hid hsend
              clear hsend
              go_wp2_with fail
              refine HSEND.out.mono ?_
              rintro e w4 ⟨va', vc', rfl, h⟩
              have HR' := Lib.hid (HRN.out.send o.data)
              obtain ⟨en, c', hc'⟩ : ∃ en c', c.send o.data = (en, c') := ⟨_, _, rfl⟩
              rw [hc'] at h HR' ⊢
              have HC' := Lib.hid hc'
              have H5 := Lib.hid h
              clear h hc'
              obtain ⟨q0, q1, q2, q3, q4, q5, q6, qf, qs⟩ := H5.out.seven 3 rfl
              have H6 := Lib.hid (H5.out.sts7 3 rfl (.int .i64 (c'.delay : Int)) (.slice fa fs.length fc) (.bool (!c'.up)) (.int .i64 (c'.sent : Int)) (.int .i64 (c'.ticks : Int)) (.slice va' c'.flying.length vc') (.int .i64 (c'.lost : Int)))
              go_wp2_with fail
              refine (send_h H6.out 0 rfl HRN.out.ok (by rw [HFS.out]; omega) htk hse hls (.slice (some ⟨g, 0, none⟩) o.data.length cap) o.data (by omega) 6 _ rfl (by decide) (fun H Y h => ⟨fun k => k = g, fun k hk => .inl (by rw [hk]; exact h.2), own_by h.1 hcap hcm HCS.out⟩)).mono ?_
              rintro e w5 ⟨rfl, h⟩
              rw [HC'.out] at h ⊢
              have H7 := Lib.hid h
              clear h
              go_wp2_with fail
              go_loopw [64] (fun i wv => ∃ (k : Nat) (cur2 : Array Value), k ≤ o.data.length ∧ i = .int .i64 (k : Int) ∧ Hid (cur2.size = cur.size) ∧ Hid (Held (fun _ => False) (Old W) W [tCab p c', tRd eCOp (.slice (some ⟨b, off, none⟩) ops.length oc) ops, tRd eFlt (.slice fa fs.length fc) fs, tBlk rb (.cells #[.int .i64 (c'.delay : Int), .slice fa fs.length fc, .bool (!c'.up), .int .i64 (c'.sent : Int), .int .i64 (c'.ticks : Int), .slice va' c'.flying.length vc', .int .i64 (c'.lost : Int)] 47), tSq eTr 71 (.slice va' c'.flying.length vc') c'.flying, tBlk wr.heap.size (.cells #[.int .i64 o.kind, .slice xa o.data.length xc] 49), tBlk g (.cells cur2 5 (0, 0))] wv)) (fun i _ => o.data.length - (intOf i).toNat)
              case atStart => exact ⟨0, cur, by omega, by go_num, Lib.hid rfl, H7⟩
              case round =>
                clear H7
                obtain ⟨k, cur2, hk, rfl, HSZ, H8⟩ := hrel
                by_cases hkl : k < o.data.length
                · have hrow := H8.out.blk 6 rfl
                  obtain ⟨y, hy⟩ : ∃ y, cur2[k]? = some y := ⟨cur2[k]'(by rw [HSZ.out]; omega), Array.getElem?_eq_getElem _⟩
                  have y0 := blk_cell (i := k) hrow hy
                  have yf := fun i => blk_free hrow i
                  have h10 := H8.out.set 6 rfl (.cells (cur2.setIfInBounds k (.int .u8 255)) 5 (0, 0)) (w' := wr.setCell ⟨g, k, none⟩ (.int .u8 255)) (by (repeat (first | (with_reducible exact Fr.refl _ _) | exact Or.inl rfl | (with_reducible refine Fr.setCell ?_ ?_ _) | (with_reducible refine Fr.drewN ?_ _) | (with_reducible refine Fr.drew ?_)))) (row_set hrow)
                  have HSZ2 := Lib.hid (show (cur2.setIfInBounds k (.int .u8 255)).size = cur.size by rw [Array.size_setIfInBounds]; exact HSZ.out)
                  have H10 := Lib.hid h10
                  clear h10 hrow hy
                  go_wp2_with fail
                  go_roundw
                  case rel => exact ⟨k + 1, _, by omega, by go_num, HSZ2, H10⟩
                  case measure => simp [intOf]; omega
                · have H9 := Lib.hid (H8.out.pick [0, 1, 2, 3, 4] ([tCab p c', tRd eCOp (.slice (some ⟨b, off, none⟩) ops.length oc) ops, tRd eFlt (.slice fa fs.length fc) fs, tBlk rb (.cells #[.int .i64 (c'.delay : Int), .slice fa fs.length fc, .bool (!c'.up), .int .i64 (c'.sent : Int), .int .i64 (c'.ticks : Int), .slice va' c'.flying.length vc', .int .i64 (c'.lost : Int)] 47), tSq eTr 71 (.slice va' c'.flying.length vc') c'.flying]) (by simp) rfl)
                  obtain ⟨q0, q1, q2, q3, q4, q5, q6, qf, qs⟩ := H9.out.seven 3 rfl
                  (go_wp2_with fail; go_quiet ((first | (go_at_call 14; exact Calls.quiet_of_same ((up_h (H9.out.drewN _) 0 rfl).mono fun e' w' h => ⟨show e' = .returned (.bool c'.up) from h.1, h.2.symm⟩)) | (go_at_call 15; exact Calls.quiet_of_same ((flying_h (H9.out.drewN _) 0 rfl).mono fun e' w' h => ⟨show e' = .returned (.int .i64 (c'.flying.length : Int)) from h.1, h.2.symm⟩)) | (go_at_call 16; exact Calls.quiet_of_same ((lost_h (H9.out.drewN _) 0 rfl).mono fun e' w' h => ⟨show e' = .returned (.int .i64 (c'.lost : Int)) from h.1, h.2.symm⟩)))); go_wp2_with fail; go_roundw; (case rel => exact ⟨j + 1, c', va', vc', by omega, by go_num, HR', Lib.hid (H9.out.drewN _)⟩); (case measure => simp [intOf]; omega))
            · have s0 : (o.kind == 0) = false := by rw [hk]; rfl
              have s1 : (o.kind == 1) = true := by simpa using hk
              clear hk
              go_wp2_with fail
              refine (rTick_h HHA.out c HRN.out.ok HRN.out.due 4 rfl fa fs.length fc htk).mono ?_
              rintro e w4 ⟨va', vc', vw, rfl, h⟩
              have H5 := Lib.hid h
              clear h
              have HR' := Lib.hid HRN.out.tick
              obtain ⟨q0, q1, q2, q3, q4, q5, q6, qf, qs⟩ := H5.out.seven 3 rfl
              obtain ⟨c', hc'⟩ : ∃ c', c' = c.tick.2 := ⟨_, rfl⟩
              obtain ⟨arr, harr⟩ : ∃ arr, arr = c.tick.1 := ⟨_, rfl⟩
              rw [← hc'] at HR' H5 ⊢
              rw [← harr] at H5
              have HC' := Lib.hid hc'; have HARR := Lib.hid harr
              clear hc' harr
              have H6 := Lib.hid (H5.out.sts7 3 rfl (.int .i64 (c'.delay : Int)) (.slice fa fs.length fc) (.bool (!c'.up)) (.int .i64 (c'.sent : Int)) (.int .i64 (c'.ticks : Int)) (.slice va' c'.flying.length vc') (.int .i64 (c'.lost : Int)))
              go_wp2_with fail
              refine (tick_h H6.out 0 rfl (by omega) htk).mono ?_
              rintro e w5 ⟨ta, tn, rfl, h⟩
              rw [← HC'.out, ← HARR.out] at h
              rw [← HARR.out]
              have H7 := Lib.hid h
              clear h
              obtain ⟨G1, Y1, hx1⟩ := H7.out.get 7 rfl
              obtain ⟨G2, Y2, hx2⟩ := H7.out.get 6 rfl
              have HX1 := Lib.hid (Sq.rdT (show Sq eBy _ _ _ _ _ _ from hx1))
              have HX2 := Lib.hid (Sq.rdT (show Sq eBy _ _ _ _ _ _ from hx2))
              clear hx1 hx2
              go_wp2_with fail
              refine (same_any w5 _ _ _ _ arr arr HX1.out HX2.out).mono ?_
              rintro e w6 ⟨rfl, hb⟩
              have H9 := Lib.hid ((H7.out.own hb).pick [0, 1, 2, 3, 4] ([tCab p c', tRd eCOp (.slice (some ⟨b, off, none⟩) ops.length oc) ops, tRd eFlt (.slice fa fs.length fc) fs, tBlk rb (.cells #[.int .i64 (c'.delay : Int), .slice fa fs.length fc, .bool (!c'.up), .int .i64 (c'.sent : Int), .int .i64 (c'.ticks : Int), .slice va' c'.flying.length vc', .int .i64 (c'.lost : Int)] 47), tSq eTr 71 (.slice va' c'.flying.length vc') c'.flying]) (by simp) rfl)
              clear hb
              have hsm : (arr == arr) = true := by simp
              obtain ⟨q0, q1, q2, q3, q4, q5, q6, qf, qs⟩ := H9.out.seven 3 rfl
              (go_wp2_with fail; go_quiet ((first | (go_at_call 14; exact Calls.quiet_of_same ((up_h (H9.out.drewN _) 0 rfl).mono fun e' w' h => ⟨show e' = .returned (.bool c'.up) from h.1, h.2.symm⟩)) | (go_at_call 15; exact Calls.quiet_of_same ((flying_h (H9.out.drewN _) 0 rfl).mono fun e' w' h => ⟨show e' = .returned (.int .i64 (c'.flying.length : Int)) from h.1, h.2.symm⟩)) | (go_at_call 16; exact Calls.quiet_of_same ((lost_h (H9.out.drewN _) 0 rfl).mono fun e' w' h => ⟨show e' = .returned (.int .i64 (c'.lost : Int)) from h.1, h.2.symm⟩)))); go_wp2_with fail; go_roundw; (case rel => exact ⟨j + 1, c', va', vc', by omega, by go_num, HR', Lib.hid (H9.out.drewN _)⟩); (case measure => simp [intOf]; omega))
            · have s0 : (o.kind == 0) = false := by rw [hk]; rfl
              have s1 : (o.kind == 1) = false := by rw [hk]; rfl
              have s2 : (o.kind == 2) = true := by simpa using hk
              clear hk
              go_wp2_with fail
              refine (refCut_any _ c fa fs.length fc va vc hfy hls).mono ?_
              rintro e w4 ⟨rfl, hb⟩
              have H5 := Lib.hid (HHA.out.own hb)
              clear hb
              have HR' := Lib.hid HRN.out.cut
              obtain ⟨q0, q1, q2, q3, q4, q5, q6, qf, qs⟩ := H5.out.seven 3 rfl
              have H6 := Lib.hid (H5.out.sts7 3 rfl (.int .i64 (c.cut.delay : Int)) (.slice fa fs.length fc) (.bool (!c.cut.up)) (.int .i64 (c.cut.sent : Int)) (.int .i64 (c.cut.ticks : Int)) (.slice none 0 0) (.int .i64 (c.cut.lost : Int)))
              unfold refV
              go_wp2_with fail
              refine (cut_h H6.out 0 rfl hls (by omega)).mono ?_
              rintro e w5 ⟨rfl, h⟩
              have h9 := (h.add (T := tSq eTr 71 (.slice none 0 0) []) (Below.refl _ _) (Sq.nil _ _ _ _ _)).pick [0, 1, 2, 3, 6] ([tCab p c.cut, tRd eCOp (.slice (some ⟨b, off, none⟩) ops.length oc) ops, tRd eFlt (.slice fa fs.length fc) fs, tBlk rb (.cells #[.int .i64 (c.cut.delay : Int), .slice fa fs.length fc, .bool (!c.cut.up), .int .i64 (c.cut.sent : Int), .int .i64 (c.cut.ticks : Int), .slice none c.cut.flying.length 0, .int .i64 (c.cut.lost : Int)] 47), tSq eTr 71 (.slice none c.cut.flying.length 0) c.cut.flying]) (by simp) rfl
              clear h
              obtain ⟨c', hc'⟩ : ∃ c', c' = c.cut := ⟨_, rfl⟩
              rw [← hc'] at h9 HR'
              have H9 := Lib.hid h9
              clear h9 hc'
              obtain ⟨q0, q1, q2, q3, q4, q5, q6, qf, qs⟩ := H9.out.seven 3 rfl
              (go_wp2_with fail; go_quiet ((first | (go_at_call 14; exact Calls.quiet_of_same ((up_h (H9.out.drewN _) 0 rfl).mono fun e' w' h => ⟨show e' = .returned (.bool c'.up) from h.1, h.2.symm⟩)) | (go_at_call 15; exact Calls.quiet_of_same ((flying_h (H9.out.drewN _) 0 rfl).mono fun e' w' h => ⟨show e' = .returned (.int .i64 (c'.flying.length : Int)) from h.1, h.2.symm⟩)) | (go_at_call 16; exact Calls.quiet_of_same ((lost_h (H9.out.drewN _) 0 rfl).mono fun e' w' h => ⟨show e' = .returned (.int .i64 (c'.lost : Int)) from h.1, h.2.symm⟩)))); go_wp2_with fail; go_roundw; (case rel => exact ⟨j + 1, c', none, 0, by omega, by go_num, HR', Lib.hid (H9.out.drewN _)⟩); (case measure => simp [intOf]; omega))
            · have s0 : (o.kind == 0) = false := by rw [hk]; rfl
              have s1 : (o.kind == 1) = false := by rw [hk]; rfl
              have s2 : (o.kind == 2) = false := by rw [hk]; rfl
              have s3 : (o.kind == 3) = true := by simpa using hk
              clear hk
              have H6 := Lib.hid ((HH.out.sts_2 3 rfl (.bool false)).new (.cells #[.int .i64 o.kind, .slice xa o.data.length xc] 49))
              have HR' := Lib.hid HRN.out.mend
              go_wp2_with fail
              refine (mend_h H6.out 0 rfl).mono ?_
              rintro e w5 ⟨rfl, h⟩
              have h9 := h.pick [0, 1, 2, 3, 4] ([tCab p c.mend, tRd eCOp (.slice (some ⟨b, off, none⟩) ops.length oc) ops, tRd eFlt (.slice fa fs.length fc) fs, tBlk rb (.cells #[.int .i64 (c.mend.delay : Int), .slice fa fs.length fc, .bool (!c.mend.up), .int .i64 (c.mend.sent : Int), .int .i64 (c.mend.ticks : Int), .slice va c.mend.flying.length vc, .int .i64 (c.mend.lost : Int)] 47), tSq eTr 71 (.slice va c.mend.flying.length vc) c.mend.flying]) (by simp) rfl
              clear h
              obtain ⟨c', hc'⟩ : ∃ c', c' = c.mend := ⟨_, rfl⟩
              obtain ⟨va', rfl⟩ : ∃ va', va' = va := ⟨_, rfl⟩
              obtain ⟨vc', rfl⟩ : ∃ vc', vc' = vc := ⟨_, rfl⟩
              rw [← hc'] at h9 HR'
              have H9 := Lib.hid h9
              clear h9 hc'
              obtain ⟨q0, q1, q2, q3, q4, q5, q6, qf, qs⟩ := H9.out.seven 3 rfl
              (go_wp2_with fail; go_quiet ((first | (go_at_call 14; exact Calls.quiet_of_same ((up_h (H9.out.drewN _) 0 rfl).mono fun e' w' h => ⟨show e' = .returned (.bool c'.up) from h.1, h.2.symm⟩)) | (go_at_call 15; exact Calls.quiet_of_same ((flying_h (H9.out.drewN _) 0 rfl).mono fun e' w' h => ⟨show e' = .returned (.int .i64 (c'.flying.length : Int)) from h.1, h.2.symm⟩)) | (go_at_call 16; exact Calls.quiet_of_same ((lost_h (H9.out.drewN _) 0 rfl).mono fun e' w' h => ⟨show e' = .returned (.int .i64 (c'.lost : Int)) from h.1, h.2.symm⟩)))); go_wp2_with fail; go_roundw; (case rel => exact ⟨j + 1, c', va', vc', by omega, by go_num, HR', Lib.hid (H9.out.drewN _)⟩); (case measure => simp [intOf]; omega))
            · have s0 : (o.kind == 0) = false := by simpa using hk0
              have s1 : (o.kind == 1) = false := by simpa using hk1
              have s2 : (o.kind == 2) = false := by simpa using hk2
              have s3 : (o.kind == 3) = false := by simpa using hk3
              have H9 := Lib.hid (HHA.out.pick [0, 1, 2, 3, 4] ([tCab p c, tRd eCOp (.slice (some ⟨b, off, none⟩) ops.length oc) ops, tRd eFlt (.slice fa fs.length fc) fs, tBlk rb (.cells #[.int .i64 (c.delay : Int), .slice fa fs.length fc, .bool (!c.up), .int .i64 (c.sent : Int), .int .i64 (c.ticks : Int), .slice va c.flying.length vc, .int .i64 (c.lost : Int)] 47), tSq eTr 71 (.slice va c.flying.length vc) c.flying]) (by simp) rfl)
              have HR' := Lib.hid HRN.out.up
              obtain ⟨c', rfl⟩ : ∃ c', c' = c := ⟨_, rfl⟩
              obtain ⟨va', rfl⟩ : ∃ va', va' = va := ⟨_, rfl⟩
              obtain ⟨vc', rfl⟩ : ∃ vc', vc' = vc := ⟨_, rfl⟩
              (go_wp2_with fail; go_quiet ((first | (go_at_call 14; exact Calls.quiet_of_same ((up_h (H9.out.drewN _) 0 rfl).mono fun e' w' h => ⟨show e' = .returned (.bool c'.up) from h.1, h.2.symm⟩)) | (go_at_call 15; exact Calls.quiet_of_same ((flying_h (H9.out.drewN _) 0 rfl).mono fun e' w' h => ⟨show e' = .returned (.int .i64 (c'.flying.length : Int)) from h.1, h.2.symm⟩)) | (go_at_call 16; exact Calls.quiet_of_same ((lost_h (H9.out.drewN _) 0 rfl).mono fun e' w' h => ⟨show e' = .returned (.int .i64 (c'.lost : Int)) from h.1, h.2.symm⟩)))); go_wp2_with fail; go_roundw; (case rel => exact ⟨j + 1, c', va', vc', by omega, by go_num, HR', Lib.hid (H9.out.drewN _)⟩); (case measure => simp [intOf]; omega))
          · go_wp2_with fail
            go_ret
            exact ⟨rfl, HH.out.below⟩
  · go_wp2_with fail
    refine (awake_any w2).mono ?_
    rintro e w3 ⟨rfl, hb⟩
    have HB3 := Lib.hid (HB2.out.trans (hb.mono HB2.out.size)); clear hb
    go_wp2_with fail
    go_ret
    exact ⟨rfl, HB3.out⟩
end Go.Proofs.Ytekojekgjfefkaa
