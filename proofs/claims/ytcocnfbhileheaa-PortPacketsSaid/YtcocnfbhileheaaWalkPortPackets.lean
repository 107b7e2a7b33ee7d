/- The walk of PortPackets. -/
import Derived.Test.YtcocnfbhileheaaPprH
import Derived.Test.YtcocnfbhileheaaMgG
import Derived.Test.YtcocnfbhileheaaPotE
import Derived.Test.YtcocnfbhileheaaMgA
namespace Go.Proofs.Ytcocnfbhileheaa
open Go.RowKit

theorem int_u8' {v : Value} (o : IsInt .u8 v) : ∃ a : Nat, v = .int .u8 (a : Int) ∧ a < 256 := by
  obtain ⟨x, rfl, hx⟩ := o
  have := bounds_u8 hx
  obtain ⟨n, rfl⟩ := Int.eq_ofNat_of_zero_le this.1
  exact ⟨n, rfl, by omega⟩
theorem By.at {w : World} {a : Option Addr} {n c : Nat} {bs : Bytes} (h : By w (.slice a n c) bs) {i : Nat} {x : BitVec 8} (hi : bs[i]? = some x) : ∃ b off, a = some ⟨b, off, none⟩ ∧ w.cell? ⟨b, off + i, none⟩ = some (.int .u8 (U x)) := by
  obtain ⟨_, a', cap, e, h1, h2, h3, h4⟩ := h
  obtain ⟨rfl, rfl, rfl⟩ : a = a' ∧ n = bs.length ∧ c = cap := by simpa using e
  have hil : i < bs.length := by
    rcases Nat.lt_or_ge i bs.length with h | h
    · exact h
    · rw [List.getElem?_eq_none h] at hi; cases hi
  cases a with
  | none => have := (h3 rfl).1; omega
  | some b =>
    obtain ⟨b, off, spot⟩ := b
    have := h4 _ rfl i (.int .u8 (U x)) (by rw [cu, List.getElem?_map, hi]; rfl)
    obtain ⟨rfl, h5⟩ := this
    exact ⟨b, off, rfl, h5⟩
/-- the law's events, one behind the other -/
def runs (P : Pr) : List (BitVec 8) → Pr
  | [] => P
  | e :: l => runs ((P.act e.toNat).tick 0 0) l
theorem runs_snoc (P : Pr) (l : List (BitVec 8)) (e : BitVec 8) : runs P (l ++ [e]) = ((runs P l).act e.toNat).tick 0 0 := by
  induction l generalizing P with
  | nil => rfl
  | cons x l ih => exact ih _
set_option maxRecDepth 100000 in
set_option maxHeartbeats 16000000 in
theorem walkPortPackets (W : World) (v0 v1 v2 : Value) (o0 : IsInt .u8 v0) (o1 : IsInt .u8 v1) (o2 : IsBytes W v2) :
    Calls Try.prog 4 #[v0, v1, v2] W fun e w' => e = .returned (.bool true) ∧ Below W.heap.size W w' := by
  obtain ⟨room, rfl, hr⟩ := int_u8' o0
  obtain ⟨window, rfl, hw⟩ := int_u8' o1
  obtain ⟨d, hd⟩ := o2
  have hz := byZ_of hd
  obtain ⟨da, dc, rfl⟩ := hz.slice
  have hmax : d.length ≤ maxLen := hz.1.cases.1
  have HS := Lib.hid ((Held.start0 (fun _ => False) (Old W) (fun _ f _ => f) W).addOld (T := tBy (.slice da d.length dc) d) (ByZ.mono hz fun k h => ⟨h, id⟩))
  clear hz hd
  go_enter Try.func4, Try.ntmps4
  go_wp2_with fail
  refine (awake_any W).mono ?_
  rintro e w1 ⟨rfl, hb⟩
  have H1 := Lib.hid (HS.out.own hb); clear hb
  by_cases hbig : 40 < d.length
  · go_wp2_with fail
    go_ret
    exact ⟨rfl, H1.out.below⟩
  · go_wp2_with fail
    refine (connect_c room window hr hw H1.out).mono ?_
    rintro e w2 ⟨x, rfl, h⟩
    have H2 := Lib.hid (show Held (fun _ => False) (Old W) W [tPair x (newPr room window), tBy (.slice da d.length dc) d] w2 from h)
    clear h H1 HS
    have hd40 : d.length ≤ 40 := by omega
    go_wp2_with fail
    go_loopw [26] (fun i wr => ∃ (k : Nat) (P : Pr), k ≤ d.length ∧ i = .int .i64 (k : Int) ∧ Hid (P.Ok (200 + 2100 * k)) ∧ Hid (P.l.prt.inc = 10 ∧ P.r.prt.inc = 20) ∧ Hid (Held (fun _ => False) (Old W) W [tPair x P, tBy (.slice da d.length dc) d] wr)) (fun i _ => d.length - (intOf i).toNat)
    case atStart => exact ⟨0, _, Nat.zero_le _, rfl, Lib.hid (newPr_ok _ _), Lib.hid ⟨rfl, rfl⟩, H2⟩
    case round =>
      clear H2
      obtain ⟨k, P, hk, rfl, HOK, HIN, HK⟩ := hrel
      by_cases hlt : k < d.length
      · obtain ⟨ev, hev⟩ : ∃ x, d[k]? = some x := ⟨_, List.getElem?_eq_getElem hlt⟩
        obtain ⟨_, _, hby⟩ := HK.out.get 1 rfl
        obtain ⟨eb, eo, rfl, hc⟩ := By.at (show By wr (.slice da d.length dc) d from hby.1) hev
        clear hby hev
        go_wp2_with fail
        refine (show Calls Try.prog 20 #[.pointer (some ⟨x, 0, none⟩), .int .u8 (U ev)] wr _ from pairAct_c HOK.out (by omega) ev.toNat ev.isLt HK.out).mono ?_
        rintro e w3 ⟨rfl, h⟩
        have H3 := Lib.hid h
        have HO3 := Lib.hid (HOK.out.act ev.toNat)
        clear h
        go_wp2_with fail
        refine (show Calls Try.prog 21 #[.pointer (some ⟨x, 0, none⟩), .int .u16 0, .int .u16 0] w3 _ from pairTick_c HO3.out (by omega) 0 0 (by decide) (by decide) H3.out).mono ?_
        rintro e w4 ⟨rfl, h⟩
        have H4 := Lib.hid h
        clear h H3 HK
        have HO4 := Lib.hid ((HO3.out.tick 0 0).mono (show _ ≤ 200 + 2100 * (k + 1) by omega))
        have HFR := Lib.hid (show ((P.act ev.toNat).tick 0 0).l.Form 10 ∧ ((P.act ev.toNat).tick 0 0).r.Form 20 by
          obtain ⟨f1, f2, _, _⟩ := tick00 HO3.out
          obtain ⟨a1, a2⟩ := act_inc P ev.toNat
          rw [a1, HIN.out.1] at f1
          rw [a2, HIN.out.2] at f2
          exact ⟨f1, f2⟩)
        have HIN4 := Lib.hid (show ((P.act ev.toNat).tick 0 0).l.prt.inc = 10 ∧ ((P.act ev.toNat).tick 0 0).r.prt.inc = 20 by
          obtain ⟨_, _, f3, f4⟩ := tick00 HO3.out
          obtain ⟨a1, a2⟩ := act_inc P ev.toNat
          exact ⟨f3.trans (a1.trans HIN.out.1), f4.trans (a2.trans HIN.out.2)⟩)
        clear HOK HIN HO3
        generalize (P.act ev.toNat).tick 0 0 = P' at H4 HO4 HFR HIN4
        go_wp2_with fail
        go_loopw [36] (fun i wr => ∃ (q : Nat), q ≤ 2 ∧ i = .int .i64 (q : Int) ∧ Hid (Held (fun _ => False) (Old W) W [tPair x P', tBy (.slice (some ⟨eb, eo, none⟩) d.length dc) d] wr)) (fun i _ => 2 - (intOf i).toNat)
        case atStart => exact ⟨0, by decide, rfl, H4⟩
        case round =>
          clear H4
          obtain ⟨q, hq, rfl, HK2⟩ := hrel
          obtain rfl | rfl | rfl : q = 0 ∨ q = 1 ∨ q = 2 := by omega
          · obtain ⟨⟨pl, pr, fl, fr, ol, or', gl, gr⟩, h0⟩ := HK2.out.pair'
            have hrow := h0.blk 0 rfl
            obtain ⟨c0, c1, c2, c3, _⟩ := pair_cells hrow
            dsimp only at c0 c1 c2 c3
            obtain ⟨_, _, hrd⟩ := h0.get 3 rfl
            obtain ⟨fa, fc, rfl, hfc, _⟩ := RdS.shape (show RdS ePt wr _ fl P'.l.fly from hrd)
            have HU := Lib.hid (up_any h0 1 rfl)
            have hrd' : RdS ePt wr _ (.slice fa P'.l.fly.length fc) P'.l.fly := hrd
            have HF := HFR.out.1
            clear hrow h0 hrd
            rcases HF with ⟨v, hs, hf⟩ | ⟨v, r, l0, l1, hs, hf⟩ | ⟨v, r, l0, l1, cc, mm, dd, hs, hf⟩
            · have hs' : decide (P'.l.prt.side.state = 2) = false := by simp [hs]
              rw [hs'] at HU
              have hn : P'.l.fly.length = 1 := by rw [hf]; rfl
              obtain ⟨b, off, pa0, pc0, e0, _, k00, k01, k02, k03, k04⟩ := pt_at hrd' (i := 0) (x := ⟨1#8, 0, 10, v, []⟩) (by rw [hf]; rfl)
              subst e0
              rw [hn] at c2 hfc
              simp only [Nat.zero_mul, Nat.add_zero] at k00 k01 k02 k03 k04
              clear hs hs' hf hrd' hn
              go_wp2_with fail
              refine HU.out.mono ?_
              rintro e w' ⟨rfl, rfl⟩
              go_wp2_with fail
              go_roundw
              case rel => exact ⟨1, by decide, by go_num, HK2⟩
              case measure => simp [intOf]
            · have hs' : decide (P'.l.prt.side.state = 2) = true := by simp [hs]
              rw [hs'] at HU
              have hn : P'.l.fly.length = 4 := by rw [hf]; rfl
              obtain ⟨b, off, pa0, pc0, e0, _, k00, k01, k02, k03, k04⟩ := pt_at hrd' (i := 0) (x := ⟨1#8, 0, 10, v, []⟩) (by rw [hf]; rfl)
              subst e0
              obtain ⟨b1, off1, pa1, pc1, e1, _, k10, k11, k12, k13, k14⟩ := pt_at hrd' (i := 1) (x := ⟨3#8, 0, r, 10, []⟩) (by rw [hf]; rfl)
              obtain ⟨rfl, rfl⟩ : b = b1 ∧ off = off1 := by simpa using e1
              obtain ⟨b2, off2, pa2, pc2, e2, _, k20, k21, k22, k23, k24⟩ := pt_at hrd' (i := 2) (x := ⟨4#8, 0, l0, 10, []⟩) (by rw [hf]; rfl)
              obtain ⟨rfl, rfl⟩ : b = b2 ∧ off = off2 := by simpa using e2
              obtain ⟨b3, off3, pa3, pc3, e3, _, k30, k31, k32, k33, k34⟩ := pt_at hrd' (i := 3) (x := ⟨4#8, 1, l1, 10, []⟩) (by rw [hf]; rfl)
              obtain ⟨rfl, rfl⟩ : b = b3 ∧ off = off3 := by simpa using e3
              rw [hn] at c2 hfc
              simp only [Nat.zero_mul, Nat.add_zero] at k00 k01 k02 k03 k04
              simp only [Nat.one_mul, Nat.add_assoc, Nat.reduceAdd] at k10 k11 k12 k13 k14
              simp only [Nat.reduceMul, Nat.add_assoc, Nat.reduceAdd] at k20 k21 k22 k23 k24
              simp only [Nat.reduceMul, Nat.add_assoc, Nat.reduceAdd] at k30 k31 k32 k33 k34
              clear hs hs' hf hrd' hn
              go_wp2_with fail
              refine HU.out.mono ?_
              rintro e w' ⟨rfl, rfl⟩
              go_wp2_with fail
              obtain ⟨wz, rfl⟩ : ∃ wz, wz = wr := ⟨_, rfl⟩
              go_loopw [134] (fun i wr => ∃ m : Nat, m ≤ 3 ∧ i = .int .i64 (m : Int) ∧ Hid (Held (fun _ => False) (Old W) W [tPair x P', tBy (.slice (some ⟨eb, eo, none⟩) d.length dc) d] wr) ∧ Hid (Below wz.heap.size wz wr)) (fun i _ => 3 - (intOf i).toNat)
              case atStart => exact ⟨0, by decide, rfl, HK2, Lib.hid (Below.refl _ _)⟩
              case round =>
                clear HK2
                obtain ⟨m, hm, rfl, HK3, hb⟩ := hrel
                obtain rfl | rfl | rfl | rfl : m = 0 ∨ m = 1 ∨ m = 2 ∨ m = 3 := by omega
                · have q0 := (World.cell?_of_block (hb.out.block b (World.block_lt_of_cell? _ _ k10))).trans k10
                  have q1 := (World.cell?_of_block (hb.out.block b (World.block_lt_of_cell? _ _ k11))).trans k11
                  have q2 := (World.cell?_of_block (hb.out.block b (World.block_lt_of_cell? _ _ k12))).trans k12
                  have q3 := (World.cell?_of_block (hb.out.block b (World.block_lt_of_cell? _ _ k13))).trans k13
                  have q4 := (World.cell?_of_block (hb.out.block b (World.block_lt_of_cell? _ _ k14))).trans k14
                  clear k00 k01 k02 k03 k04 k10 k11 k12 k13 k14 k20 k21 k22 k23 k24 k30 k31 k32 k33 k34 c0 c1 c2 c3
                  go_wp2_with fail
                  go_roundw
                  case rel => exact ⟨1, by decide, by go_num, Lib.hid (HK3.out.alloc _), Lib.hid (hb.out.trans ((below_alloc _ _).mono hb.out.size))⟩
                  case measure => simp [intOf]
                · have q0 := (World.cell?_of_block (hb.out.block b (World.block_lt_of_cell? _ _ k20))).trans k20
                  have q1 := (World.cell?_of_block (hb.out.block b (World.block_lt_of_cell? _ _ k21))).trans k21
                  have q2 := (World.cell?_of_block (hb.out.block b (World.block_lt_of_cell? _ _ k22))).trans k22
                  have q3 := (World.cell?_of_block (hb.out.block b (World.block_lt_of_cell? _ _ k23))).trans k23
                  have q4 := (World.cell?_of_block (hb.out.block b (World.block_lt_of_cell? _ _ k24))).trans k24
                  clear k00 k01 k02 k03 k04 k10 k11 k12 k13 k14 k20 k21 k22 k23 k24 k30 k31 k32 k33 k34 c0 c1 c2 c3
                  go_wp2_with fail
                  go_roundw
                  case rel => exact ⟨2, by decide, by go_num, Lib.hid (HK3.out.alloc _), Lib.hid (hb.out.trans ((below_alloc _ _).mono hb.out.size))⟩
                  case measure => simp [intOf]
                · have q0 := (World.cell?_of_block (hb.out.block b (World.block_lt_of_cell? _ _ k30))).trans k30
                  have q1 := (World.cell?_of_block (hb.out.block b (World.block_lt_of_cell? _ _ k31))).trans k31
                  have q2 := (World.cell?_of_block (hb.out.block b (World.block_lt_of_cell? _ _ k32))).trans k32
                  have q3 := (World.cell?_of_block (hb.out.block b (World.block_lt_of_cell? _ _ k33))).trans k33
                  have q4 := (World.cell?_of_block (hb.out.block b (World.block_lt_of_cell? _ _ k34))).trans k34
                  clear k00 k01 k02 k03 k04 k10 k11 k12 k13 k14 k20 k21 k22 k23 k24 k30 k31 k32 k33 k34 c0 c1 c2 c3
                  go_wp2_with fail
                  go_roundw
                  case rel => exact ⟨3, by decide, by go_num, Lib.hid (HK3.out.alloc _), Lib.hid (hb.out.trans ((below_alloc _ _).mono hb.out.size))⟩
                  case measure => simp [intOf]
                · clear k00 k01 k02 k03 k04 k10 k11 k12 k13 k14 k20 k21 k22 k23 k24 k30 k31 k32 k33 k34 c0 c1 c2 c3
                  go_wp2_with fail
                  go_roundw
                  case rel => exact ⟨1, by decide, by go_num, HK3⟩
                  case measure => simp [intOf]
            · have hs' : decide (P'.l.prt.side.state = 2) = true := by simp [hs]
              rw [hs'] at HU
              have hn : P'.l.fly.length = 5 := by rw [hf]; rfl
              obtain ⟨b, off, pa0, pc0, e0, _, k00, k01, k02, k03, k04⟩ := pt_at hrd' (i := 0) (x := ⟨1#8, 0, 10, v, []⟩) (by rw [hf]; rfl)
              subst e0
              obtain ⟨b1, off1, pa1, pc1, e1, _, k10, k11, k12, k13, k14⟩ := pt_at hrd' (i := 1) (x := ⟨3#8, 0, r, 10, []⟩) (by rw [hf]; rfl)
              obtain ⟨rfl, rfl⟩ : b = b1 ∧ off = off1 := by simpa using e1
              obtain ⟨b2, off2, pa2, pc2, e2, _, k20, k21, k22, k23, k24⟩ := pt_at hrd' (i := 2) (x := ⟨4#8, 0, l0, 10, []⟩) (by rw [hf]; rfl)
              obtain ⟨rfl, rfl⟩ : b = b2 ∧ off = off2 := by simpa using e2
              obtain ⟨b3, off3, pa3, pc3, e3, _, k30, k31, k32, k33, k34⟩ := pt_at hrd' (i := 3) (x := ⟨4#8, 1, l1, 10, []⟩) (by rw [hf]; rfl)
              obtain ⟨rfl, rfl⟩ : b = b3 ∧ off = off3 := by simpa using e3
              obtain ⟨b4, off4, pa4, pc4, e4, _, k40, k41, k42, k43, k44⟩ := pt_at hrd' (i := 4) (x := ⟨2#8, cc, mm, 10, dd⟩) (by rw [hf]; rfl)
              obtain ⟨rfl, rfl⟩ : b = b4 ∧ off = off4 := by simpa using e4
              rw [hn] at c2 hfc
              simp only [Nat.zero_mul, Nat.add_zero] at k00 k01 k02 k03 k04
              simp only [Nat.one_mul, Nat.add_assoc, Nat.reduceAdd] at k10 k11 k12 k13 k14
              simp only [Nat.reduceMul, Nat.add_assoc, Nat.reduceAdd] at k20 k21 k22 k23 k24
              simp only [Nat.reduceMul, Nat.add_assoc, Nat.reduceAdd] at k30 k31 k32 k33 k34
              simp only [Nat.reduceMul, Nat.add_assoc, Nat.reduceAdd] at k40 k41 k42 k43 k44
              clear hs hs' hf hrd' hn
              go_wp2_with fail
              refine HU.out.mono ?_
              rintro e w' ⟨rfl, rfl⟩
              go_wp2_with fail
              obtain ⟨wz, rfl⟩ : ∃ wz, wz = wr := ⟨_, rfl⟩
              go_loopw [134] (fun i wr => ∃ m : Nat, m ≤ 4 ∧ i = .int .i64 (m : Int) ∧ Hid (Held (fun _ => False) (Old W) W [tPair x P', tBy (.slice (some ⟨eb, eo, none⟩) d.length dc) d] wr) ∧ Hid (Below wz.heap.size wz wr)) (fun i _ => 4 - (intOf i).toNat)
              case atStart => exact ⟨0, by decide, rfl, HK2, Lib.hid (Below.refl _ _)⟩
              case round =>
                clear HK2
                obtain ⟨m, hm, rfl, HK3, hb⟩ := hrel
                obtain rfl | rfl | rfl | rfl | rfl : m = 0 ∨ m = 1 ∨ m = 2 ∨ m = 3 ∨ m = 4 := by omega
                · have q0 := (World.cell?_of_block (hb.out.block b (World.block_lt_of_cell? _ _ k10))).trans k10
                  have q1 := (World.cell?_of_block (hb.out.block b (World.block_lt_of_cell? _ _ k11))).trans k11
                  have q2 := (World.cell?_of_block (hb.out.block b (World.block_lt_of_cell? _ _ k12))).trans k12
                  have q3 := (World.cell?_of_block (hb.out.block b (World.block_lt_of_cell? _ _ k13))).trans k13
                  have q4 := (World.cell?_of_block (hb.out.block b (World.block_lt_of_cell? _ _ k14))).trans k14
                  clear k00 k01 k02 k03 k04 k10 k11 k12 k13 k14 k20 k21 k22 k23 k24 k30 k31 k32 k33 k34 k40 k41 k42 k43 k44 c0 c1 c2 c3
                  go_wp2_with fail
                  go_roundw
                  case rel => exact ⟨1, by decide, by go_num, Lib.hid (HK3.out.alloc _), Lib.hid (hb.out.trans ((below_alloc _ _).mono hb.out.size))⟩
                  case measure => simp [intOf]
                · have q0 := (World.cell?_of_block (hb.out.block b (World.block_lt_of_cell? _ _ k20))).trans k20
                  have q1 := (World.cell?_of_block (hb.out.block b (World.block_lt_of_cell? _ _ k21))).trans k21
                  have q2 := (World.cell?_of_block (hb.out.block b (World.block_lt_of_cell? _ _ k22))).trans k22
                  have q3 := (World.cell?_of_block (hb.out.block b (World.block_lt_of_cell? _ _ k23))).trans k23
                  have q4 := (World.cell?_of_block (hb.out.block b (World.block_lt_of_cell? _ _ k24))).trans k24
                  clear k00 k01 k02 k03 k04 k10 k11 k12 k13 k14 k20 k21 k22 k23 k24 k30 k31 k32 k33 k34 k40 k41 k42 k43 k44 c0 c1 c2 c3
                  go_wp2_with fail
                  go_roundw
                  case rel => exact ⟨2, by decide, by go_num, Lib.hid (HK3.out.alloc _), Lib.hid (hb.out.trans ((below_alloc _ _).mono hb.out.size))⟩
                  case measure => simp [intOf]
                · have q0 := (World.cell?_of_block (hb.out.block b (World.block_lt_of_cell? _ _ k30))).trans k30
                  have q1 := (World.cell?_of_block (hb.out.block b (World.block_lt_of_cell? _ _ k31))).trans k31
                  have q2 := (World.cell?_of_block (hb.out.block b (World.block_lt_of_cell? _ _ k32))).trans k32
                  have q3 := (World.cell?_of_block (hb.out.block b (World.block_lt_of_cell? _ _ k33))).trans k33
                  have q4 := (World.cell?_of_block (hb.out.block b (World.block_lt_of_cell? _ _ k34))).trans k34
                  clear k00 k01 k02 k03 k04 k10 k11 k12 k13 k14 k20 k21 k22 k23 k24 k30 k31 k32 k33 k34 k40 k41 k42 k43 k44 c0 c1 c2 c3
                  go_wp2_with fail
                  go_roundw
                  case rel => exact ⟨3, by decide, by go_num, Lib.hid (HK3.out.alloc _), Lib.hid (hb.out.trans ((below_alloc _ _).mono hb.out.size))⟩
                  case measure => simp [intOf]
                · have q0 := (World.cell?_of_block (hb.out.block b (World.block_lt_of_cell? _ _ k40))).trans k40
                  have q1 := (World.cell?_of_block (hb.out.block b (World.block_lt_of_cell? _ _ k41))).trans k41
                  have q2 := (World.cell?_of_block (hb.out.block b (World.block_lt_of_cell? _ _ k42))).trans k42
                  have q3 := (World.cell?_of_block (hb.out.block b (World.block_lt_of_cell? _ _ k43))).trans k43
                  have q4 := (World.cell?_of_block (hb.out.block b (World.block_lt_of_cell? _ _ k44))).trans k44
                  clear k00 k01 k02 k03 k04 k10 k11 k12 k13 k14 k20 k21 k22 k23 k24 k30 k31 k32 k33 k34 k40 k41 k42 k43 k44 c0 c1 c2 c3
                  go_wp2_with fail
                  go_roundw
                  case rel => exact ⟨4, by decide, by go_num, Lib.hid (HK3.out.alloc _), Lib.hid (hb.out.trans ((below_alloc _ _).mono hb.out.size))⟩
                  case measure => simp [intOf]
                · clear k00 k01 k02 k03 k04 k10 k11 k12 k13 k14 k20 k21 k22 k23 k24 k30 k31 k32 k33 k34 k40 k41 k42 k43 k44 c0 c1 c2 c3
                  go_wp2_with fail
                  go_roundw
                  case rel => exact ⟨1, by decide, by go_num, HK3⟩
                  case measure => simp [intOf]
          · obtain ⟨⟨pl, pr, fl, fr, ol, or', gl, gr⟩, h0⟩ := HK2.out.pair'
            have hrow := h0.blk 0 rfl
            obtain ⟨c0, c1, c2, c3, _⟩ := pair_cells hrow
            dsimp only at c0 c1 c2 c3
            obtain ⟨_, _, hrd⟩ := h0.get 4 rfl
            obtain ⟨fa, fc, rfl, hfc, _⟩ := RdS.shape (show RdS ePt wr _ fr P'.r.fly from hrd)
            have HU := Lib.hid (up_any h0 2 rfl)
            have hrd' : RdS ePt wr _ (.slice fa P'.r.fly.length fc) P'.r.fly := hrd
            have HF := HFR.out.2
            clear hrow h0 hrd
            rcases HF with ⟨v, hs, hf⟩ | ⟨v, r, l0, l1, hs, hf⟩ | ⟨v, r, l0, l1, cc, mm, dd, hs, hf⟩
            · have hs' : decide (P'.r.prt.side.state = 2) = false := by simp [hs]
              rw [hs'] at HU
              have hn : P'.r.fly.length = 1 := by rw [hf]; rfl
              obtain ⟨b, off, pa0, pc0, e0, _, k00, k01, k02, k03, k04⟩ := pt_at hrd' (i := 0) (x := ⟨1#8, 0, 20, v, []⟩) (by rw [hf]; rfl)
              subst e0
              rw [hn] at c3 hfc
              simp only [Nat.zero_mul, Nat.add_zero] at k00 k01 k02 k03 k04
              clear hs hs' hf hrd' hn
              go_wp2_with fail
              refine HU.out.mono ?_
              rintro e w' ⟨rfl, rfl⟩
              go_wp2_with fail
              go_roundw
              case rel => exact ⟨2, by decide, by go_num, HK2⟩
              case measure => simp [intOf]
            · have hs' : decide (P'.r.prt.side.state = 2) = true := by simp [hs]
              rw [hs'] at HU
              have hn : P'.r.fly.length = 4 := by rw [hf]; rfl
              obtain ⟨b, off, pa0, pc0, e0, _, k00, k01, k02, k03, k04⟩ := pt_at hrd' (i := 0) (x := ⟨1#8, 0, 20, v, []⟩) (by rw [hf]; rfl)
              subst e0
              obtain ⟨b1, off1, pa1, pc1, e1, _, k10, k11, k12, k13, k14⟩ := pt_at hrd' (i := 1) (x := ⟨3#8, 0, r, 20, []⟩) (by rw [hf]; rfl)
              obtain ⟨rfl, rfl⟩ : b = b1 ∧ off = off1 := by simpa using e1
              obtain ⟨b2, off2, pa2, pc2, e2, _, k20, k21, k22, k23, k24⟩ := pt_at hrd' (i := 2) (x := ⟨4#8, 0, l0, 20, []⟩) (by rw [hf]; rfl)
              obtain ⟨rfl, rfl⟩ : b = b2 ∧ off = off2 := by simpa using e2
              obtain ⟨b3, off3, pa3, pc3, e3, _, k30, k31, k32, k33, k34⟩ := pt_at hrd' (i := 3) (x := ⟨4#8, 1, l1, 20, []⟩) (by rw [hf]; rfl)
              obtain ⟨rfl, rfl⟩ : b = b3 ∧ off = off3 := by simpa using e3
              rw [hn] at c3 hfc
              simp only [Nat.zero_mul, Nat.add_zero] at k00 k01 k02 k03 k04
              simp only [Nat.one_mul, Nat.add_assoc, Nat.reduceAdd] at k10 k11 k12 k13 k14
              simp only [Nat.reduceMul, Nat.add_assoc, Nat.reduceAdd] at k20 k21 k22 k23 k24
              simp only [Nat.reduceMul, Nat.add_assoc, Nat.reduceAdd] at k30 k31 k32 k33 k34
              clear hs hs' hf hrd' hn
              go_wp2_with fail
              refine HU.out.mono ?_
              rintro e w' ⟨rfl, rfl⟩
              go_wp2_with fail
              obtain ⟨wz, rfl⟩ : ∃ wz, wz = wr := ⟨_, rfl⟩
              go_loopw [134] (fun i wr => ∃ m : Nat, m ≤ 3 ∧ i = .int .i64 (m : Int) ∧ Hid (Held (fun _ => False) (Old W) W [tPair x P', tBy (.slice (some ⟨eb, eo, none⟩) d.length dc) d] wr) ∧ Hid (Below wz.heap.size wz wr)) (fun i _ => 3 - (intOf i).toNat)
              case atStart => exact ⟨0, by decide, rfl, HK2, Lib.hid (Below.refl _ _)⟩
              case round =>
                clear HK2
                obtain ⟨m, hm, rfl, HK3, hb⟩ := hrel
                obtain rfl | rfl | rfl | rfl : m = 0 ∨ m = 1 ∨ m = 2 ∨ m = 3 := by omega
                · have q0 := (World.cell?_of_block (hb.out.block b (World.block_lt_of_cell? _ _ k10))).trans k10
                  have q1 := (World.cell?_of_block (hb.out.block b (World.block_lt_of_cell? _ _ k11))).trans k11
                  have q2 := (World.cell?_of_block (hb.out.block b (World.block_lt_of_cell? _ _ k12))).trans k12
                  have q3 := (World.cell?_of_block (hb.out.block b (World.block_lt_of_cell? _ _ k13))).trans k13
                  have q4 := (World.cell?_of_block (hb.out.block b (World.block_lt_of_cell? _ _ k14))).trans k14
                  clear k00 k01 k02 k03 k04 k10 k11 k12 k13 k14 k20 k21 k22 k23 k24 k30 k31 k32 k33 k34 c0 c1 c2 c3
                  go_wp2_with fail
                  go_roundw
                  case rel => exact ⟨1, by decide, by go_num, Lib.hid (HK3.out.alloc _), Lib.hid (hb.out.trans ((below_alloc _ _).mono hb.out.size))⟩
                  case measure => simp [intOf]
                · have q0 := (World.cell?_of_block (hb.out.block b (World.block_lt_of_cell? _ _ k20))).trans k20
                  have q1 := (World.cell?_of_block (hb.out.block b (World.block_lt_of_cell? _ _ k21))).trans k21
                  have q2 := (World.cell?_of_block (hb.out.block b (World.block_lt_of_cell? _ _ k22))).trans k22
                  have q3 := (World.cell?_of_block (hb.out.block b (World.block_lt_of_cell? _ _ k23))).trans k23
                  have q4 := (World.cell?_of_block (hb.out.block b (World.block_lt_of_cell? _ _ k24))).trans k24
                  clear k00 k01 k02 k03 k04 k10 k11 k12 k13 k14 k20 k21 k22 k23 k24 k30 k31 k32 k33 k34 c0 c1 c2 c3
                  go_wp2_with fail
                  go_roundw
                  case rel => exact ⟨2, by decide, by go_num, Lib.hid (HK3.out.alloc _), Lib.hid (hb.out.trans ((below_alloc _ _).mono hb.out.size))⟩
                  case measure => simp [intOf]
                · have q0 := (World.cell?_of_block (hb.out.block b (World.block_lt_of_cell? _ _ k30))).trans k30
                  have q1 := (World.cell?_of_block (hb.out.block b (World.block_lt_of_cell? _ _ k31))).trans k31
                  have q2 := (World.cell?_of_block (hb.out.block b (World.block_lt_of_cell? _ _ k32))).trans k32
                  have q3 := (World.cell?_of_block (hb.out.block b (World.block_lt_of_cell? _ _ k33))).trans k33
                  have q4 := (World.cell?_of_block (hb.out.block b (World.block_lt_of_cell? _ _ k34))).trans k34
                  clear k00 k01 k02 k03 k04 k10 k11 k12 k13 k14 k20 k21 k22 k23 k24 k30 k31 k32 k33 k34 c0 c1 c2 c3
                  go_wp2_with fail
                  go_roundw
                  case rel => exact ⟨3, by decide, by go_num, Lib.hid (HK3.out.alloc _), Lib.hid (hb.out.trans ((below_alloc _ _).mono hb.out.size))⟩
                  case measure => simp [intOf]
                · clear k00 k01 k02 k03 k04 k10 k11 k12 k13 k14 k20 k21 k22 k23 k24 k30 k31 k32 k33 k34 c0 c1 c2 c3
                  go_wp2_with fail
                  go_roundw
                  case rel => exact ⟨2, by decide, by go_num, HK3⟩
                  case measure => simp [intOf]
            · have hs' : decide (P'.r.prt.side.state = 2) = true := by simp [hs]
              rw [hs'] at HU
              have hn : P'.r.fly.length = 5 := by rw [hf]; rfl
              obtain ⟨b, off, pa0, pc0, e0, _, k00, k01, k02, k03, k04⟩ := pt_at hrd' (i := 0) (x := ⟨1#8, 0, 20, v, []⟩) (by rw [hf]; rfl)
              subst e0
              obtain ⟨b1, off1, pa1, pc1, e1, _, k10, k11, k12, k13, k14⟩ := pt_at hrd' (i := 1) (x := ⟨3#8, 0, r, 20, []⟩) (by rw [hf]; rfl)
              obtain ⟨rfl, rfl⟩ : b = b1 ∧ off = off1 := by simpa using e1
              obtain ⟨b2, off2, pa2, pc2, e2, _, k20, k21, k22, k23, k24⟩ := pt_at hrd' (i := 2) (x := ⟨4#8, 0, l0, 20, []⟩) (by rw [hf]; rfl)
              obtain ⟨rfl, rfl⟩ : b = b2 ∧ off = off2 := by simpa using e2
              obtain ⟨b3, off3, pa3, pc3, e3, _, k30, k31, k32, k33, k34⟩ := pt_at hrd' (i := 3) (x := ⟨4#8, 1, l1, 20, []⟩) (by rw [hf]; rfl)
              obtain ⟨rfl, rfl⟩ : b = b3 ∧ off = off3 := by simpa using e3
              obtain ⟨b4, off4, pa4, pc4, e4, _, k40, k41, k42, k43, k44⟩ := pt_at hrd' (i := 4) (x := ⟨2#8, cc, mm, 20, dd⟩) (by rw [hf]; rfl)
              obtain ⟨rfl, rfl⟩ : b = b4 ∧ off = off4 := by simpa using e4
              rw [hn] at c3 hfc
              simp only [Nat.zero_mul, Nat.add_zero] at k00 k01 k02 k03 k04
              simp only [Nat.one_mul, Nat.add_assoc, Nat.reduceAdd] at k10 k11 k12 k13 k14
              simp only [Nat.reduceMul, Nat.add_assoc, Nat.reduceAdd] at k20 k21 k22 k23 k24
              simp only [Nat.reduceMul, Nat.add_assoc, Nat.reduceAdd] at k30 k31 k32 k33 k34
              simp only [Nat.reduceMul, Nat.add_assoc, Nat.reduceAdd] at k40 k41 k42 k43 k44
              clear hs hs' hf hrd' hn
              go_wp2_with fail
              refine HU.out.mono ?_
              rintro e w' ⟨rfl, rfl⟩
              go_wp2_with fail
              obtain ⟨wz, rfl⟩ : ∃ wz, wz = wr := ⟨_, rfl⟩
              go_loopw [134] (fun i wr => ∃ m : Nat, m ≤ 4 ∧ i = .int .i64 (m : Int) ∧ Hid (Held (fun _ => False) (Old W) W [tPair x P', tBy (.slice (some ⟨eb, eo, none⟩) d.length dc) d] wr) ∧ Hid (Below wz.heap.size wz wr)) (fun i _ => 4 - (intOf i).toNat)
              case atStart => exact ⟨0, by decide, rfl, HK2, Lib.hid (Below.refl _ _)⟩
              case round =>
                clear HK2
                obtain ⟨m, hm, rfl, HK3, hb⟩ := hrel
                obtain rfl | rfl | rfl | rfl | rfl : m = 0 ∨ m = 1 ∨ m = 2 ∨ m = 3 ∨ m = 4 := by omega
                · have q0 := (World.cell?_of_block (hb.out.block b (World.block_lt_of_cell? _ _ k10))).trans k10
                  have q1 := (World.cell?_of_block (hb.out.block b (World.block_lt_of_cell? _ _ k11))).trans k11
                  have q2 := (World.cell?_of_block (hb.out.block b (World.block_lt_of_cell? _ _ k12))).trans k12
                  have q3 := (World.cell?_of_block (hb.out.block b (World.block_lt_of_cell? _ _ k13))).trans k13
                  have q4 := (World.cell?_of_block (hb.out.block b (World.block_lt_of_cell? _ _ k14))).trans k14
                  clear k00 k01 k02 k03 k04 k10 k11 k12 k13 k14 k20 k21 k22 k23 k24 k30 k31 k32 k33 k34 k40 k41 k42 k43 k44 c0 c1 c2 c3
                  go_wp2_with fail
                  go_roundw
                  case rel => exact ⟨1, by decide, by go_num, Lib.hid (HK3.out.alloc _), Lib.hid (hb.out.trans ((below_alloc _ _).mono hb.out.size))⟩
                  case measure => simp [intOf]
                · have q0 := (World.cell?_of_block (hb.out.block b (World.block_lt_of_cell? _ _ k20))).trans k20
                  have q1 := (World.cell?_of_block (hb.out.block b (World.block_lt_of_cell? _ _ k21))).trans k21
                  have q2 := (World.cell?_of_block (hb.out.block b (World.block_lt_of_cell? _ _ k22))).trans k22
                  have q3 := (World.cell?_of_block (hb.out.block b (World.block_lt_of_cell? _ _ k23))).trans k23
                  have q4 := (World.cell?_of_block (hb.out.block b (World.block_lt_of_cell? _ _ k24))).trans k24
                  clear k00 k01 k02 k03 k04 k10 k11 k12 k13 k14 k20 k21 k22 k23 k24 k30 k31 k32 k33 k34 k40 k41 k42 k43 k44 c0 c1 c2 c3
                  go_wp2_with fail
                  go_roundw
                  case rel => exact ⟨2, by decide, by go_num, Lib.hid (HK3.out.alloc _), Lib.hid (hb.out.trans ((below_alloc _ _).mono hb.out.size))⟩
                  case measure => simp [intOf]
                · have q0 := (World.cell?_of_block (hb.out.block b (World.block_lt_of_cell? _ _ k30))).trans k30
                  have q1 := (World.cell?_of_block (hb.out.block b (World.block_lt_of_cell? _ _ k31))).trans k31
                  have q2 := (World.cell?_of_block (hb.out.block b (World.block_lt_of_cell? _ _ k32))).trans k32
                  have q3 := (World.cell?_of_block (hb.out.block b (World.block_lt_of_cell? _ _ k33))).trans k33
                  have q4 := (World.cell?_of_block (hb.out.block b (World.block_lt_of_cell? _ _ k34))).trans k34
                  clear k00 k01 k02 k03 k04 k10 k11 k12 k13 k14 k20 k21 k22 k23 k24 k30 k31 k32 k33 k34 k40 k41 k42 k43 k44 c0 c1 c2 c3
                  go_wp2_with fail
                  go_roundw
                  case rel => exact ⟨3, by decide, by go_num, Lib.hid (HK3.out.alloc _), Lib.hid (hb.out.trans ((below_alloc _ _).mono hb.out.size))⟩
                  case measure => simp [intOf]
                · have q0 := (World.cell?_of_block (hb.out.block b (World.block_lt_of_cell? _ _ k40))).trans k40
                  have q1 := (World.cell?_of_block (hb.out.block b (World.block_lt_of_cell? _ _ k41))).trans k41
                  have q2 := (World.cell?_of_block (hb.out.block b (World.block_lt_of_cell? _ _ k42))).trans k42
                  have q3 := (World.cell?_of_block (hb.out.block b (World.block_lt_of_cell? _ _ k43))).trans k43
                  have q4 := (World.cell?_of_block (hb.out.block b (World.block_lt_of_cell? _ _ k44))).trans k44
                  clear k00 k01 k02 k03 k04 k10 k11 k12 k13 k14 k20 k21 k22 k23 k24 k30 k31 k32 k33 k34 k40 k41 k42 k43 k44 c0 c1 c2 c3
                  go_wp2_with fail
                  go_roundw
                  case rel => exact ⟨4, by decide, by go_num, Lib.hid (HK3.out.alloc _), Lib.hid (hb.out.trans ((below_alloc _ _).mono hb.out.size))⟩
                  case measure => simp [intOf]
                · clear k00 k01 k02 k03 k04 k10 k11 k12 k13 k14 k20 k21 k22 k23 k24 k30 k31 k32 k33 k34 k40 k41 k42 k43 k44 c0 c1 c2 c3
                  go_wp2_with fail
                  go_roundw
                  case rel => exact ⟨2, by decide, by go_num, HK3⟩
                  case measure => simp [intOf]
          · go_wp2_with fail
            go_roundw
            case rel => exact ⟨k + 1, P', by omega, by go_num, HO4, HIN4, HK2⟩
            case measure => simp [intOf]; omega
      · obtain rfl : d.length = k := by omega
        go_wp2_with fail
        go_ret
        exact ⟨rfl, HK.out.below⟩
end Go.Proofs.Ytcocnfbhileheaa
