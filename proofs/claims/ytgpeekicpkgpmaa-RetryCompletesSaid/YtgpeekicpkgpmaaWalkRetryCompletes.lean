/- The walk of RetryCompletes. -/
import Derived.Test.YtgpeekicpkgpmaaWalkRetryPrefix
namespace Go.Proofs.Ytgpeekicpkgpmaa
open Go.ChangeShapes Go.WideShapes Go.ChangeAt Go.RowKit

/-- what a conversation that completes leaves -/
def DonePost (y : World) (e : Ending) (w' : World) : Prop := ∃ (N : Nat) (oa aa : Option Addr) (oc ac p : Nat) (s : Snd) (F : Nat → Prop), e = .returned (.tuple #[.slice oa N oc, .slice aa N ac, .pointer (some ⟨p, 0, none⟩), .bool true]) ∧ SnO w' F p s ∧ s.Ok ∧ s.total < 1000000000000 ∧ s.acked = N ∧ s.kept.length = 0 ∧ Below y.heap.size y w'
theorem play_done (y : World) (x : TalkD) (T : Nat) (tv : Int) (hT : tv = (T : Int)) (ov pv bv : Value) (ho : By y ov x.offers) (ht : By y pv x.there) (hb : By y bv x.back) (h1 : 0 ≤ x.window) (h2 : 0 ≤ x.delay) (hc : (cfgOf x T).Live) :
    Calls Try.prog 25 #[.agg #[.int .i64 x.window, .int .i64 tv, .int .i64 x.delay, ov, pv, bv, .bool x.naks], .int .i64 1560] y (DonePost y) := by
  have hp := play_any y (cfgOf x T) 1560 _ _ _ ho ht hb hc.toOk hc.o (by decide)
  have e1 : ((cfgOf x T).window : Int) = x.window := by show ((x.window.toNat : Nat) : Int) = _; omega
  have e3 : ((cfgOf x T).delay : Int) = x.delay := by show ((x.delay.toNat : Nat) : Int) = _; omega
  have e2 : ((cfgOf x T).timeout : Int) = tv := hT.symm
  have e4 : (cfgOf x T).naks = x.naks := rfl
  rw [e1, e2, e3, e4] at hp
  refine hp.mono fun e w' ⟨oa', oc', aa', ac', pr, pt, pb, tv', bv', he, bo', tl, bl, hpm⟩ => ?_
  have hco := completes hc
  have hin := inv_play hc.toOk 1560
  rw [hco.2.1] at he
  obtain ⟨L, hL⟩ := hpm
  refine ⟨(playM (cfgOf x T) 1560).off, oa', aa', oc', ac', y.heap.size + 1, (playM (cfgOf x T) 1560).s, L.is 1, he, hL.s, hin.si.ok, ?_, hco.1, hco.2.2, hL.fl.end⟩
  have h1 := hin.off; have h2 := hco.1; have h3 := hco.2.2
  unfold Snd.total; omega
set_option maxRecDepth 100000 in
set_option maxHeartbeats 4000000 in
theorem walkRetryCompletes (W : World) (v : Value) (o : IsTalk W v) :
    Calls Try.prog 8 #[v] W fun e w' => e = .returned (.bool true) ∧ Below W.heap.size W w' := by
  obtain ⟨x, ov, tv, bv, rfl, ho, ht, hb, w1, w2, w3⟩ := o
  obtain ⟨oa, oc, rfl⟩ := ho.slice
  obtain ⟨ta, tc, rfl⟩ := ht.slice
  obtain ⟨ba, bc, rfl⟩ := hb.slice
  have HO := Lib.hid ho; have HT := Lib.hid ht; have HB := Lib.hid hb
  clear ho ht hb
  go_enter Try.func8, Try.ntmps8
  go_wp2_with fail
  generalize hbo : (Obj.cells #[.int .i64 x.window, .int .i64 x.timeout, .int .i64 x.delay, .slice oa x.offers.length oc, .slice ta x.there.length tc, .slice ba x.back.length bc, .bool x.naks] 47) = bo
  have HBO := Lib.hid hbo; clear hbo
  refine (awake_any _).mono ?_
  rintro e y1 ⟨rfl, hb⟩
  have hz := hb.size
  have HB1 := Lib.hid ((below_alloc W bo).trans (hb.mono (by simp)))
  have HR1 := Lib.hid ((hb.block W.heap.size (by simp)).trans (heap_alloc_new W bo))
  clear hb
  have hrow := HR1.out
  rw [← HBO.out] at hrow
  have b0 := blk_cell (i := 0) hrow rfl; have b1 := blk_cell (i := 1) hrow rfl; have b2 := blk_cell (i := 2) hrow rfl; have b3 := blk_cell (i := 3) hrow rfl; have b4 := blk_cell (i := 4) hrow rfl; have b5 := blk_cell (i := 5) hrow rfl; have b6 := blk_cell (i := 6) hrow rfl
  clear hrow
  go_wp2_with fail
  refine (fits_any _ x oa ta ba oc tc bc).mono ?_
  rintro e y2 ⟨rfl, hb⟩
  have hz2 := hb.size
  have hzW := HB1.out.size
  have HB2 := Lib.hid (HB1.out.trans (hb.mono hzW))
  have HR2 := Lib.hid ((hb.block W.heap.size (lt_of_block HR1.out)).trans HR1.out)
  clear hb b0 b1 b2 b3 b4 b5 b6
  have hrow := HR2.out
  rw [← HBO.out] at hrow
  have b0 := blk_cell (i := 0) hrow rfl; have b1 := blk_cell (i := 1) hrow rfl; have b2 := blk_cell (i := 2) hrow rfl; have b3 := blk_cell (i := 3) hrow rfl; have b4 := blk_cell (i := 4) hrow rfl; have b5 := blk_cell (i := 5) hrow rfl; have b6 := blk_cell (i := 6) hrow rfl
  clear hrow
  by_cases hf : fitsB x = true
  · have HF := Lib.hid hf
    have hf' := hf
    unfold fitsB at hf'
    simp only [Bool.and_eq_true, decide_eq_true_eq] at hf'
    obtain ⟨⟨⟨⟨⟨⟨⟨⟨f1, f2⟩, f3⟩, f4⟩, f5⟩, f6⟩, f7⟩, f8⟩, f9⟩ := hf'
    have fz : y2.frozen? ⟨W.heap.size, 1, none⟩ = false := by
      have hrow := HR2.out
      rw [← HBO.out] at hrow
      exact blk_free hrow _
    by_cases hmx : x.timeout < 2 * x.delay + 3
    · skip
      have HE2 : Hid (2 * x.delay + 3 = (((2 * x.delay + 3).toNat : Nat) : Int)) := Lib.hid (by omega)
      have HCL : Hid ((cfgOf x ((2 * x.delay + 3).toNat)).Live) := Lib.hid ⟨⟨by show 1 ≤ x.window.toNat; omega, by show x.window.toNat ≤ 16; omega, by show 1 ≤ (2 * x.delay + 3).toNat; omega, by show (2 * x.delay + 3).toNat ≤ 1000; omega, by show x.delay.toNat ≤ 6; omega⟩, f7, f8, f9, by show (2 * x.delay + 3).toNat ≤ 40; omega⟩
      have HB3 : Hid (Below W.heap.size W (y2.setCell ⟨W.heap.size, 1, none⟩ (.int .i64 (2 * x.delay + 3)))) := Lib.hid (HB2.out.setCell (Nat.le_refl _) _)
      go_wp2_with fail
      refine (play_done _ x ((2 * x.delay + 3).toNat) _ HE2.out _ _ _ (HO.out.below HB3.out) (HT.out.below HB3.out) (HB.out.below HB3.out) (by omega) f5 HCL.out).mono ?_
      rintro e y4 ⟨N, oa', aa', oc', ac', p, s, F, rfl, hs, hso, hle, e1, e3, hb⟩
      have HB4 := Lib.hid (HB3.out.trans (hb.mono HB3.out.size))
      have HS := Lib.hid hs; have HSO := Lib.hid hso; have HLE := Lib.hid hle; have E1 := Lib.hid e1; have E3 := Lib.hid e3
      clear hs hso hle e1 e3 hb HCL HB3 HO HT HB HE2
      go_wp2_with fail
      refine (total_o HS.out HSO.out HLE.out).mono ?_
      rintro e y5 ⟨rfl, m, rfl⟩
      rw [E1.out, E3.out]
      have HS5 := Lib.hid ((SnO.thing _ _).of (w' := y4.drewN m) HS.out (Nat.le_refl _) (fun _ _ _ => rfl) (G := F) fun _ h _ => h)
      have HB5 := Lib.hid (HB4.out.trans ((below_drew y4 m).mono HB4.out.size))
      go_wp2_with (go_at_call 14; refine (kept_o HS5.out).mono ?_; rintro e y6 ⟨rfl, rfl⟩; rw [E3.out])
      go_ret
      exact ⟨by simp, HB5.out⟩
    · skip
      have HE2 : Hid (x.timeout = ((x.timeout.toNat : Nat) : Int)) := Lib.hid (by omega)
      have HCL : Hid ((cfgOf x (x.timeout.toNat)).Live) := Lib.hid ⟨⟨by show 1 ≤ x.window.toNat; omega, by show x.window.toNat ≤ 16; omega, by show 1 ≤ x.timeout.toNat; omega, by show x.timeout.toNat ≤ 1000; omega, by show x.delay.toNat ≤ 6; omega⟩, f7, f8, f9, by show x.timeout.toNat ≤ 40; omega⟩
      have HB3 : Hid (Below W.heap.size W (y2.setCell ⟨W.heap.size, 1, none⟩ (.int .i64 x.timeout))) := Lib.hid (HB2.out.setCell (Nat.le_refl _) _)
      go_wp2_with fail
      refine (play_done _ x (x.timeout.toNat) _ HE2.out _ _ _ (HO.out.below HB3.out) (HT.out.below HB3.out) (HB.out.below HB3.out) (by omega) f5 HCL.out).mono ?_
      rintro e y4 ⟨N, oa', aa', oc', ac', p, s, F, rfl, hs, hso, hle, e1, e3, hb⟩
      have HB4 := Lib.hid (HB3.out.trans (hb.mono HB3.out.size))
      have HS := Lib.hid hs; have HSO := Lib.hid hso; have HLE := Lib.hid hle; have E1 := Lib.hid e1; have E3 := Lib.hid e3
      clear hs hso hle e1 e3 hb HCL HB3 HO HT HB HE2
      go_wp2_with fail
      refine (total_o HS.out HSO.out HLE.out).mono ?_
      rintro e y5 ⟨rfl, m, rfl⟩
      rw [E1.out, E3.out]
      have HS5 := Lib.hid ((SnO.thing _ _).of (w' := y4.drewN m) HS.out (Nat.le_refl _) (fun _ _ _ => rfl) (G := F) fun _ h _ => h)
      have HB5 := Lib.hid (HB4.out.trans ((below_drew y4 m).mono HB4.out.size))
      go_wp2_with (go_at_call 14; refine (kept_o HS5.out).mono ?_; rintro e y6 ⟨rfl, rfl⟩; rw [E3.out])
      go_ret
      exact ⟨by simp, HB5.out⟩
  · have hf' : fitsB x = false := by simpa using hf
    clear hf
    go_wp2_with fail
    go_ret
    exact ⟨rfl, HB2.out⟩
end Go.Proofs.Ytgpeekicpkgpmaa
