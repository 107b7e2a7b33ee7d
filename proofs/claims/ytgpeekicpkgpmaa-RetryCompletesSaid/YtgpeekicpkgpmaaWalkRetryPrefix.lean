/- The walks of RetryPrefix and RetryCompletes. -/
import Derived.Test.YtgpeekicpkgpmaaPlayX
import Derived.Test.YtgpeekicpkgpmaaPlayL
import Derived.Test.YtgpeekicpkgpmaaRd
import Derived.Test.YtgpeekicpkgpmaaRetI
namespace Go.Proofs.Ytgpeekicpkgpmaa
open Go.ChangeShapes Go.WideShapes Go.ChangeAt Go.RowKit

structure TalkD where
  window : Int
  timeout : Int
  delay : Int
  offers : List (BitVec 8)
  there : List (BitVec 8)
  back : List (BitVec 8)
  naks : Bool
def rTalk : R TalkD := rMap (rPair (rInt .i64) (rPair (rInt .i64) (rPair (rInt .i64) (rPair rBytes (rPair rBytes (rPair rBytes rBool)))))) fun a => ⟨a.1, a.2.1, a.2.2.1, a.2.2.2.1, a.2.2.2.2.1, a.2.2.2.2.2.1, a.2.2.2.2.2.2⟩
theorem opensTalk {H : Type} {enc : TypeId × Value → H} {W : World} : Opens enc Try.prog W 47 rTalk :=
  have ob : Opens enc Try.prog W 28 rBytes := opens_bytes Try.underlying28 (by kernel_rfl) Try.underlying5 (by kernel_rfl)
  have oi : Opens enc Try.prog W 3 (rInt .i64) := opens_int Try.underlying3 (by kernel_rfl)
  opens_map (opens_struct Try.underlying47 (by kernel_rfl)
    (.cons oi rfl (.cons oi rfl (.cons oi rfl (.cons ob rfl (.cons ob rfl (.cons ob rfl (.one (opens_bool Try.underlying4 (by kernel_rfl)) rfl)))))))) _
/-- an argument that is a conversation -/
def IsTalk (W : World) (v : Value) : Prop := ∃ (x : TalkD) (ov tv bv : Value), v = .agg #[.int .i64 x.window, .int .i64 x.timeout, .int .i64 x.delay, ov, tv, bv, .bool x.naks] ∧ By W ov x.offers ∧ By W tv x.there ∧ By W bv x.back ∧ (Lit.int .i64 x.window).wf = true ∧ (Lit.int .i64 x.timeout).wf = true ∧ (Lit.int .i64 x.delay).wf = true
theorem open_isTalk {H : Type} {enc : TypeId × Value → H} {W : World} {v : Value} {d : DataW H} {ps : List MemPlace} {q : Reach} {base : Nat} (hval : Value.okWide Try.prog W q base 47 v) (hd : DataW.Trod enc Try.prog W 0 (fun _ => true) true 47 v d ps) : IsTalk W v := by
  obtain ⟨cs, rfl, _⟩ := okWide_struct Try.underlying47 hval
  obtain ⟨x, ⟨a, b, c, o, t, k, n⟩, h, rfl⟩ := open_isR opensTalk hd
  obtain ⟨_, _, e1, ⟨rfl, w1⟩, _, _, rfl, ⟨rfl, w2⟩, _, _, rfl, ⟨rfl, w3⟩, _, _, rfl, ⟨ov, rfl, ho⟩, _, _, rfl, ⟨tv, rfl, ht⟩, _, _, rfl, ⟨bv, rfl, hb⟩, rfl⟩ := h
  refine ⟨⟨a, b, c, o, t, k, n⟩, ov, tv, bv, ?_, ho, ht, hb, w1, w2, w3⟩
  congr 1
  exact Array.toList_inj.1 e1
def fitsB (x : TalkD) : Bool := decide (1 ≤ x.window) && decide (x.window ≤ 16) && decide (1 ≤ x.timeout) && decide (x.timeout ≤ 40) && decide (0 ≤ x.delay) && decide (x.delay ≤ 6) && decide (x.offers.length ≤ 60) && decide (x.there.length ≤ 60) && decide (x.back.length ≤ 60)
set_option maxRecDepth 100000 in
set_option maxHeartbeats 4000000 in
theorem fits_any (w : World) (x : TalkD) (oa ta ba : Option Addr) (oc tc bc : Nat) :
    Calls Try.prog 24 #[.agg #[.int .i64 x.window, .int .i64 x.timeout, .int .i64 x.delay, .slice oa x.offers.length oc, .slice ta x.there.length tc, .slice ba x.back.length bc, .bool x.naks]] w fun e w' => e = .returned (.bool (fitsB x)) ∧ Below w.heap.size w w' := by
  unfold fitsB
  generalize x.offers.length = a at *
  generalize x.there.length = b at *
  generalize x.back.length = c at *
  obtain ⟨x1, x2, x3, _, _, _, n⟩ := x
  dsimp only
  go_enter Try.func24, Try.ntmps24
  go_wp2_with fail
  all_goals go_ret
  all_goals refine ⟨?_, below_alloc _ _⟩
  all_goals first | (simp; done) | (simp; omega) | (simp; rw [Bool.eq_iff_iff]; simp only [Bool.and_eq_true, decide_eq_true_eq]; omega)
/-- the conversation of the arguments -/
def cfgOf (x : TalkD) (timeout : Nat) : Cfg := ⟨x.window.toNat, timeout, x.delay.toNat, x.offers, x.there, x.back, x.naks⟩
set_option maxRecDepth 100000 in
set_option maxHeartbeats 4000000 in
theorem walkRetryPrefix (W : World) (v : Value) (o : IsTalk W v) :
    Calls Try.prog 6 #[v] W fun e w' => e = .returned (.bool true) ∧ Below W.heap.size W w' := by
  obtain ⟨x, ov, tv, bv, rfl, ho, ht, hb, w1, w2, w3⟩ := o
  obtain ⟨oa, oc, rfl⟩ := ho.slice
  obtain ⟨ta, tc, rfl⟩ := ht.slice
  obtain ⟨ba, bc, rfl⟩ := hb.slice
  have HO := Lib.hid ho; have HT := Lib.hid ht; have HB := Lib.hid hb
  clear ho ht hb
  go_enter Try.func6, Try.ntmps6
  go_wp2_with fail
  generalize hbo : (Obj.cells #[.int .i64 x.window, .int .i64 x.timeout, .int .i64 x.delay, .slice oa x.offers.length oc, .slice ta x.there.length tc, .slice ba x.back.length bc, .bool x.naks] 47) = bo
  have HBO := Lib.hid hbo; clear hbo
  refine (awake_any _).mono ?_
  rintro e y1 ⟨rfl, hb⟩
  have hz := hb.size
  have HB1 := Lib.hid ((below_alloc W bo).trans (hb.mono (by simp)))
  have HR1 := Lib.hid ((hb.block W.heap.size (by simp)).trans (heap_alloc_new W bo))
  clear hb
  have hrow := HR1.out
  rw [← HBO.out] at hrow
  have b0 := blk_cell (i := 0) hrow rfl; have b1 := blk_cell (i := 1) hrow rfl; have b2 := blk_cell (i := 2) hrow rfl; have b3 := blk_cell (i := 3) hrow rfl; have b4 := blk_cell (i := 4) hrow rfl; have b5 := blk_cell (i := 5) hrow rfl; have b6 := blk_cell (i := 6) hrow rfl
  clear hrow
  go_wp2_with fail
  refine (fits_any _ x oa ta ba oc tc bc).mono ?_
  rintro e y2 ⟨rfl, hb⟩
  have hz2 := hb.size
  have hzW := HB1.out.size
  have HB2 := Lib.hid (HB1.out.trans (hb.mono hzW))
  have HR2 := Lib.hid ((hb.block W.heap.size (lt_of_block HR1.out)).trans HR1.out)
  clear hb b0 b1 b2 b3 b4 b5 b6
  have hrow := HR2.out
  rw [← HBO.out] at hrow
  have b0 := blk_cell (i := 0) hrow rfl; have b1 := blk_cell (i := 1) hrow rfl; have b2 := blk_cell (i := 2) hrow rfl; have b3 := blk_cell (i := 3) hrow rfl; have b4 := blk_cell (i := 4) hrow rfl; have b5 := blk_cell (i := 5) hrow rfl; have b6 := blk_cell (i := 6) hrow rfl
  clear hrow
  by_cases hf : fitsB x = true
  · have HF := Lib.hid hf
    have hf' := hf
    unfold fitsB at hf'
    simp only [Bool.and_eq_true, decide_eq_true_eq] at hf'
    obtain ⟨⟨⟨⟨⟨⟨⟨⟨f1, f2⟩, f3⟩, f4⟩, f5⟩, f6⟩, f7⟩, f8⟩, f9⟩ := hf'
    go_wp2_with fail
    have e1 : x.window = ((x.window.toNat : Nat) : Int) := by omega
    have e2 : x.timeout = ((x.timeout.toNat : Nat) : Int) := by omega
    have e3 : x.delay = ((x.delay.toNat : Nat) : Int) := by omega
    have hp := play_any y2 (cfgOf x x.timeout.toNat) 80 _ _ _ (HO.out.below HB2.out) (HT.out.below HB2.out) (HB.out.below HB2.out) ⟨by show 1 ≤ x.window.toNat; omega, by show x.window.toNat ≤ 16; omega, by show 1 ≤ x.timeout.toNat; omega, by show x.timeout.toNat ≤ 1000; omega, by show x.delay.toNat ≤ 6; omega⟩ f7 (by decide)
    have hp' : Calls Try.prog 25 #[.agg #[.int .i64 x.window, .int .i64 x.timeout, .int .i64 x.delay, .slice oa x.offers.length oc, .slice ta x.there.length tc, .slice ba x.back.length bc, .bool x.naks], .int .i64 80] y2 _ := Calls.of_eq hp (by
      unfold cfgOf; dsimp only; rw [← e1, ← e2, ← e3]; rfl)
    refine hp'.mono ?_
    rintro e y3 ⟨oa', oc', aa', ac', pr, pt, pb, tv', bv', rfl, bo', tl, bl, hpm⟩
    have HB3 := Lib.hid (HB2.out.trans (hpm.below.mono HB2.out.size))
    clear hpm hp hp' e1 e2 e3
    go_wp2_with fail
    go_ret
    exact ⟨rfl, HB3.out⟩
  · have hf' : fitsB x = false := by simpa using hf
    clear hf
    go_wp2_with fail
    go_ret
    exact ⟨rfl, HB2.out⟩
end Go.Proofs.Ytgpeekicpkgpmaa
