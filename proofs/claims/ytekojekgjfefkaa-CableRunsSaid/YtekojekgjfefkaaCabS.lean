/- The reference's cable, a struct that is handed on by value: its contracts. -/
import Derived.Test.YtekojekgjfefkaaCabK
namespace Go.Proofs.Ytekojekgjfefkaa
open Go.RowKit

/-- the reference's cable, as a value, that says c -/
def refV (c : Cab) (fv lv : Value) : Value := .agg #[.int .i64 (c.delay : Int), fv, .bool (!c.up), .int .i64 (c.sent : Int), .int .i64 (c.ticks : Int), lv, .int .i64 (c.lost : Int)]
set_option maxHeartbeats 4000000 in
theorem refCut_any (w : World) (c : Cab) (fa : Option Addr) (fn fc : Nat) (la : Option Addr) (lc : Nat) (hl : c.flying.length ≤ 64) (hs : c.lost < 1000000000) :
    Calls Try.prog 23 #[refV c (.slice fa fn fc) (.slice la c.flying.length lc)] w fun e w' => e = .returned (refV c.cut (.slice fa fn fc) (.slice none 0 0)) ∧ Below w.heap.size w w' := by
  unfold refV
  go_enter Try.func23, Try.ntmps23
  go_wp2_with fail
  exact bodyPost_ret (v := .agg #[.int .i64 (c.delay : Int), .slice fa fn fc, .bool true, .int .i64 (c.sent : Int), .int .i64 (c.ticks : Int), .slice none 0 0, .int .i64 ((c.lost : Int) + (c.flying.length : Int))]) (by simp [results, Try.results23, go_sem]) rfl ⟨by simp [Cab.cut], by (repeat (first | (with_reducible exact Below.refl _ _) | (with_reducible refine Bw.alloc ?_ _) | (with_reducible refine Bw.drewN ?_ _) | (with_reducible refine Bw.drew ?_)))⟩
set_option maxHeartbeats 4000000 in
theorem refFault_any (w : World) (Z : BS) (v : Value) (fs : List Flt) (h : RdS eFlt w Z v fs) (hl : fs.length ≤ 1000000) (t : Int) :
    Calls Try.prog 30 #[v, .int .i64 t] w fun e w' => e = .returned (.agg #[.int .i64 (faultOf fs t).at', .int .i64 (faultOf fs t).kind, .int .i64 (faultOf fs t).arg]) ∧ Below w.heap.size w w' := by
  obtain ⟨a, c, rfl, hc1, hc2⟩ := h.shape
  have H := Lib.hid h
  clear h
  go_enter Try.func30, Try.ntmps30
  go_wp2_with fail
  have HB0 := Lib.hid ((Below.refl w.heap.size w).alloc (Nat.le_refl _) (.cells #[.int .i64 0, .int .i64 0, .int .i64 0] 39))
  go_loopw [5] (fun i wr => ∃ j : Nat, j ≤ fs.length ∧ i = .int .i64 j ∧ Hid ((fs.take j).find? (fun f => f.at' == t) = none) ∧ wr = w.alloc (.cells #[.int .i64 0, .int .i64 0, .int .i64 0] 39)) (fun i _ => fs.length - (intOf i).toNat)
  case atStart => exact ⟨0, by omega, rfl, Lib.hid rfl, rfl⟩
  case round =>
    obtain ⟨j, hj, rfl, HN, rfl⟩ := hrel
    by_cases hlt : j < fs.length
    · obtain ⟨f, hf⟩ : ∃ f, fs[j]? = some f := ⟨fs[j], List.getElem?_eq_getElem hlt⟩
      obtain ⟨b, off, rfl, c0, c1, c2, w0, w1, w2⟩ := flt_at (H.out.below HB0.out) hf
      have HF := Lib.hid hf
      clear hf
      by_cases he : f.at' = t
      · have hb : (f.at' == t) = true := by simpa using he
        have HE : Hid (faultOf fs t = f) := Lib.hid (by
          have hfi : fs.find? (fun f => f.at' == t) = some f := by
            rw [show fs = fs.take j ++ fs.drop j by simp, List.find?_append, HN.out]
            have hd : fs.drop j = f :: fs.drop (j + 1) := by
              have h0 := HF.out
              rw [List.getElem?_eq_getElem hlt] at h0
              obtain rfl := Option.some.inj h0
              exact List.drop_eq_getElem_cons hlt
            rw [hd, List.find?_cons_of_pos (by simpa using he)]; rfl
          unfold faultOf
          rw [hfi])
        clear he
        go_wp2_with fail
        exact bodyPost_ret (v := .agg #[.int .i64 f.at', .int .i64 f.kind, .int .i64 f.arg]) (by simp [results, Try.results30, go_sem]) rfl ⟨by rw [HE.out], by (repeat (first | (with_reducible exact Below.refl _ _) | (with_reducible refine Bw.alloc ?_ _) | (with_reducible refine Bw.drewN ?_ _) | (with_reducible refine Bw.drew ?_)))⟩
      · have hb : (f.at' == t) = false := by simpa using he
        have HN2 : Hid ((fs.take (j + 1)).find? (fun f => f.at' == t) = none) := Lib.hid (by
          rw [List.take_add_one, HF.out, List.find?_append, HN.out]
          simpa using he)
        clear he
        go_wp2_with fail
        go_roundw
        case rel => exact ⟨j + 1, by omega, by go_num, HN2, by trivial⟩
        case measure => simp [intOf]; omega
    · obtain rfl : j = fs.length := by omega
      have HE : Hid (faultOf fs t = Flt.zero) := Lib.hid (by
        have h0 := HN.out
        rw [List.take_length] at h0
        unfold faultOf
        rw [h0])
      go_wp2_with fail
      exact bodyPost_ret (v := .agg #[.int .i64 0, .int .i64 0, .int .i64 0]) (by simp [results, Try.results30, go_sem]) rfl ⟨by rw [HE.out]; rfl, by (repeat (first | (with_reducible exact Below.refl _ _) | (with_reducible refine Bw.alloc ?_ _) | (with_reducible refine Bw.drewN ?_ _) | (with_reducible refine Bw.drew ?_)))⟩
end Go.Proofs.Ytekojekgjfefkaa
