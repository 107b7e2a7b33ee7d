/- A cable in memory; the search for a fault. -/
import Derived.Test.YtekojekgjfefkaaCabP
import Derived.Test.YtekojekgjfefkaaRdE
import Derived.Deep.QuietTactic
import Derived.BigQuiet
namespace Go.Proofs.Ytekojekgjfefkaa
open Go.RowKit

/-- a fault in three cells -/
def eFlt : El Flt where
  size := 3
  rd _ _ _ cs f := cs = [.int .i64 f.at', .int .i64 f.kind, .int .i64 f.arg] ∧ (Lit.int .i64 f.at').wf = true ∧ (Lit.int .i64 f.kind).wf = true ∧ (Lit.int .i64 f.arg).wf = true
  len h := by rw [h.1]; rfl
  keep h _ _ := h
  mono h _ _ := h
  one h u hu := by
    rw [h.1] at hu
    simp at hu
    rcases hu with rfl | rfl | rfl <;> rfl
def rFlt : R Flt := rMap (rPair (rInt .i64) (rPair (rInt .i64) (rInt .i64))) fun a => ⟨a.1, a.2.1, a.2.2⟩
theorem eFlt_of {W : World} {F Z : BS} {cs : List Value} {f : Flt} (h : rFlt.rd W cs f) : eFlt.rd W F Z cs f := by
  obtain ⟨⟨k, n, d⟩, ⟨c1, c2, rfl, ⟨rfl, h1⟩, c3, c4, rfl, ⟨rfl, h2⟩, rfl, h3⟩, rfl⟩ := h
  exact ⟨rfl, h1, h2, h3⟩
theorem opensFlts {H : Type} {enc : TypeId × Value → H} {W : World} : Opens enc Try.prog W 22 (rSlice rFlt) :=
  opens_slice Try.underlying22 (by kernel_rfl) (opens_map (opens_struct Try.underlying39 (by kernel_rfl)
    (.cons (opens_int Try.underlying3 (by kernel_rfl)) rfl (.cons (opens_int Try.underlying3 (by kernel_rfl)) rfl (.one (opens_int Try.underlying3 (by kernel_rfl)) rfl)))) _) (by decide)
theorem flts_of {W : World} {v : Value} {fs : List Flt} (h : (rSlice rFlt).rd W [v] fs) : RdS eFlt W (Old W) v fs := rdS_of rfl (by decide) (fun _ _ h => eFlt_of h) h
theorem flt_at {w : World} {Z : BS} {a : Option Addr} {n c : Nat} {fs : List Flt} (h : RdS eFlt w Z (.slice a n c) fs) {i : Nat} {f : Flt} (hi : fs[i]? = some f) :
    ∃ b off, a = some ⟨b, off, none⟩ ∧ w.cell? ⟨b, off + i * 3, none⟩ = some (.int .i64 f.at') ∧ w.cell? ⟨b, off + i * 3 + 1, none⟩ = some (.int .i64 f.kind) ∧ w.cell? ⟨b, off + i * 3 + 2, none⟩ = some (.int .i64 f.arg) ∧
      (Lit.int .i64 f.at').wf = true ∧ (Lit.int .i64 f.kind).wf = true ∧ (Lit.int .i64 f.arg).wf = true := by
  obtain ⟨b, off, cs, e, _, ⟨rfl, h1⟩, h2⟩ := h.at (by decide) hi
  exact ⟨b, off, e, h2 0 _ rfl, h2 1 _ rfl, h2 2 _ rfl, h1⟩
def cmpI (a b : Int) : Int := if a < b then -1 else if b < a then 1 else 0
theorem isNaN_any (a : Int) (w : World) : Calls Try.prog 35 #[.int .i64 a] w fun e w' => e = .returned (.bool false) ∧ w = w' := by
  go_enter Try.func35, Try.ntmps35
  go_wp2
  go_ret
  exact ⟨rfl, rfl⟩
theorem compare_any (a b : Int) (w : World) : Calls Try.prog 34 #[.int .i64 a, .int .i64 b] w fun e w' => e = .returned (.int .i64 (cmpI a b)) ∧ w = w' := by
  have hc : (a < b ∧ cmpI a b = -1) ∨ (b < a ∧ cmpI a b = 1) ∨ (a = b ∧ cmpI a b = 0) := by unfold cmpI; split <;> (try split) <;> simp <;> omega
  generalize cmpI a b = z at *
  rcases hc with ⟨h, rfl⟩ | ⟨h, rfl⟩ | ⟨rfl, rfl⟩
  all_goals
    go_enter Try.func34, Try.ntmps34
    go_wp2_with (go_at_call 35; refine (isNaN_any _ _).mono ?_; rintro e w' ⟨rfl, rfl⟩)
    go_ret
    exact ⟨rfl, rfl⟩
theorem cmpF_any (f : Flt) (t : Int) (w : World) : Calls Try.prog 33 #[.agg #[.int .i64 f.at', .int .i64 f.kind, .int .i64 f.arg], .int .i64 t] w fun e w' => e = .returned (.int .i64 (cmpI f.at' t)) ∧ Below w.heap.size w w' := by
  go_enter Try.func33, Try.ntmps33
  go_wp2_with (go_at_call 34; refine (compare_any _ _ _).mono ?_; rintro e w' ⟨rfl, rfl⟩)
  go_ret
  exact ⟨rfl, below_alloc _ _⟩
/-- the first of the sorted faults that is not before t, and whether it is at t -/
def Low (fs : List Flt) (t : Int) (i : Nat) (b : Bool) : Prop := i ≤ fs.length ∧ (∀ (k : Nat) f, k < i → fs[k]? = some f → f.at' < t) ∧ (∀ (k : Nat) f, i ≤ k → fs[k]? = some f → t ≤ f.at') ∧ (b = true → ∃ f, fs[i]? = some f ∧ f.at' = t) ∧ (b = false → ∀ f, fs[i]? = some f → f.at' ≠ t)
def LowPost (w : World) (fs : List Flt) (t : Int) (e : Ending) (w' : World) : Prop := ∃ (i : Nat) (b : Bool), e = .returned (.tuple #[.int .i64 (i : Int), .bool b]) ∧ Low fs t i b ∧ Below w.heap.size w w'
set_option maxHeartbeats 2000000 in
theorem search_any (w : World) (Z : BS) (v : Value) (fs : List Flt) (h : RdS eFlt w Z v fs) (ha : Asc fs) (hl : fs.length ≤ 1000000) (t : Int) :
    Calls Try.prog 32 #[v, .int .i64 t, .func (.func 33) #[] #[]] w (LowPost w fs t) := by
  obtain ⟨a, c, rfl, hc1, hc2⟩ := h.shape
  have H := Lib.hid h
  have HA := Lib.hid ha
  clear h ha
  unfold maxLen at hc2
  go_enter Try.func32, Try.ntmps32
  go_wp2_with fail
  go_loopw [9, 10] (fun x y wr => ∃ i j : Nat, x = .int .i64 i ∧ y = .int .i64 j ∧ i ≤ j ∧ j ≤ fs.length ∧ Hid (∀ (k : Nat) f, k < i → fs[k]? = some f → f.at' < t) ∧ Hid (∀ (k : Nat) f, j ≤ k → fs[k]? = some f → t ≤ f.at') ∧ Hid (Below w.heap.size w wr)) (fun x y _ => (intOf y - intOf x).toNat)
  case atStart => exact ⟨0, fs.length, rfl, rfl, by omega, by omega, Lib.hid fun k f hk => by omega, Lib.hid fun k f hk hf => by have := lt_of_get hf; omega, Lib.hid (Below.refl _ _)⟩
  case round =>
    obtain ⟨i, j, rfl, rfl, hij, hj, H1, H2, HB⟩ := hrel
    have hz := HB.out.size
    by_cases hlt : i < j
    · have hsh : ((i : Int) + (j : Int)).toNat >>> 1 = (i + j) / 2 := by rw [Nat.shiftRight_eq_div_pow]; omega
      have hu : IntKind.u64.wrap ((i : Int) + (j : Int)) = ((i + j : Nat) : Int) := by unfold IntKind.wrap; simp [IntKind.bits, IntKind.signed]; omega
      obtain ⟨f, hf⟩ : ∃ f, fs[(i + j) / 2]? = some f := ⟨fs[(i + j) / 2], List.getElem?_eq_getElem (by omega)⟩
      obtain ⟨b, off, rfl, c0, c1, c2, w0, w1, w2⟩ := flt_at (H.out.below HB.out) hf
      have HF := Lib.hid hf
      clear hf
      have H1' := Lib.hid H1.out; have H2' := Lib.hid H2.out; clear H1 H2
      have HLT : f.at' < t ∨ t ≤ f.at' := by omega
      rcases HLT with hft | hft
      · have hc : cmpI f.at' t = -1 := if_pos hft
        go_wp2_with fail
        refine (cmpF_any f t wr).mono ?_
        rintro e w1 ⟨rfl, hb⟩
        have HB1 := Lib.hid (HB.out.trans (hb.mono hz))
        clear hb
        go_wp2_with fail
        go_roundw
        case rel => exact ⟨(i + j) / 2 + 1, j, by go_num, rfl, by omega, hj, Lib.hid fun k g hk hg => by
            rcases Nat.lt_or_ge k ((i + j) / 2) with h | h
            · exact Int.lt_trans (HA.out k _ g f h hg HF.out) hft
            · obtain rfl : k = (i + j) / 2 := by omega
              obtain rfl := Option.some.inj (HF.out.symm.trans hg)
              exact hft, H2', HB1⟩
        case measure => simp [intOf]; omega
      · have hc : cmpI f.at' t = 0 ∨ cmpI f.at' t = 1 := by unfold cmpI; rw [if_neg (by omega)]; split <;> simp
        have hc0 : 0 ≤ cmpI f.at' t := by omega
        clear hc
        go_wp2_with fail
        refine (cmpF_any f t wr).mono ?_
        rintro e w1 ⟨rfl, hb⟩
        have HB1 := Lib.hid (HB.out.trans (hb.mono hz))
        clear hb
        go_wp2_with fail
        go_roundw
        case rel => exact ⟨i, (i + j) / 2, rfl, by go_num, by omega, by omega, H1', Lib.hid fun k g hk hg => by
            rcases Nat.lt_or_ge ((i + j) / 2) k with h | h
            · exact Int.le_of_lt (Int.lt_of_le_of_lt hft (HA.out _ k f g h HF.out hg))
            · obtain rfl : k = (i + j) / 2 := by omega
              obtain rfl := Option.some.inj (HF.out.symm.trans hg)
              exact hft, HB1⟩
        case measure => simp [intOf]; omega
    · obtain rfl : i = j := by omega
      by_cases hin : i < fs.length
      · obtain ⟨f, hf⟩ : ∃ f, fs[i]? = some f := ⟨fs[i], List.getElem?_eq_getElem hin⟩
        obtain ⟨b, off, rfl, c0, c1, c2, w0, w1, w2⟩ := flt_at (H.out.below HB.out) hf
        have hge := H2.out i f (Nat.le_refl _) hf
        have HF := Lib.hid hf
        clear hf
        by_cases heq : f.at' = t
        · have hc : cmpI f.at' t = 0 := by unfold cmpI; rw [if_neg (by omega), if_neg (by omega)]
          have HEQ := Lib.hid heq; clear heq
          go_wp2_with fail
          refine (cmpF_any f t wr).mono ?_
          rintro e w1 ⟨rfl, hb⟩
          have HB1 := Lib.hid (HB.out.trans (hb.mono hz))
          clear hb
          go_wp2_with fail
          go_ret2
          exact ⟨i, true, rfl, ⟨by omega, H1.out, H2.out, fun _ => ⟨f, HF.out, HEQ.out⟩, fun h => by cases h⟩, HB1.out⟩
        · have hc : cmpI f.at' t = 1 := by unfold cmpI; rw [if_neg (by omega), if_pos (by omega)]
          go_wp2_with fail
          refine (cmpF_any f t wr).mono ?_
          rintro e w1 ⟨rfl, hb⟩
          have HB1 := Lib.hid (HB.out.trans (hb.mono hz))
          clear hb
          go_wp2_with fail
          go_ret2
          exact ⟨i, false, rfl, ⟨by omega, H1.out, H2.out, (fun h => by cases h), fun _ g hg => by obtain rfl := Option.some.inj (HF.out.symm.trans hg); exact heq⟩, HB1.out⟩
      · go_wp2_with fail
        go_ret2
        exact ⟨i, false, rfl, ⟨by omega, H1.out, H2.out, (fun h => by cases h), fun _ g hg => by have := lt_of_get hg; omega⟩, HB.out⟩
end Go.Proofs.Ytekojekgjfefkaa
