/- The contracts of the line code's reference: Index, Encode. -/
import Derived.Test.YtdmfjmdnkfeljaaDoorFrmL
namespace Go.Proofs.YtdmfjmdnkfeljaaDoor
open Go.RowKit

/-- what Index returns -/
def idxI (s : Byte) : Int := if idx s < 20 then (idx s : Int) else -1
theorem vs_getD (k : Nat) : vs.getD k 0 = sym k := rfl
set_option maxRecDepth 100000 in
set_option maxHeartbeats 4000000 in
theorem refIndex_any (s : Byte) (w : World) : Calls Tryd.prog 54 #[.int .u8 (U s)] w fun e w' => e = .returned (.int .i64 (idxI s)) ∧ Below w.heap.size w w' := by
  have hi := idx_le s
  go_enter Tryd.func54, Tryd.ntmps54
  go_wp2_with fail
  refine (refSyms_any w).mono ?_
  rintro e w1 ⟨a, c, rfl, hn, hb⟩
  have HB1 := Lib.hid hb
  obtain ⟨g, off, gc, e, _, _, hc⟩ := nb_shape hn (by decide)
  obtain ⟨rfl, rfl⟩ : a = some ⟨g, off, none⟩ ∧ c = gc := by
    have e' : Value.slice a 20 c = .slice (some ⟨g, off, none⟩) 20 gc := e
    simpa using e'
  have HC := Lib.hid hc
  clear hn hb hc e
  go_wp2_with fail
  go_loop [4] (fun i => ∃ k : Nat, k ≤ idx s ∧ i = .int .i64 (k : Int)) (fun i => 20 - (intOf i).toNat)
  case atStart => exact ⟨0, by omega, by go_num⟩
  case round =>
    obtain ⟨k, hk, rfl⟩ := hrel
    by_cases hlt : k < 20
    · have hck := HC.out k hlt
      rw [vs_getD] at hck
      by_cases he : k = idx s
      · have hsy : sym k = s := by rw [he]; exact sym_idx s (by omega)
        have hne : (sym k == s) = true := by rw [hsy]; simp
        have HV := Lib.hid (show idxI s = (k : Int) by unfold idxI; rw [if_pos (by omega), he])
        clear he hsy
        go_wp2_with fail
        go_ret
        exact ⟨by rw [HV.out]; rfl, HB1.out⟩
      · have hsy := sym_lt s ⟨k, hlt⟩ (by show k < idx s; omega)
        have hne : (sym k == s) = false := by simpa using hsy
        clear hsy
        go_wp2_with fail
        go_round
        case rel => exact ⟨k + 1, by omega, by go_num⟩
        case measure => simp [intOf]; omega
    · have HV := Lib.hid (show idxI s = -1 by unfold idxI; rw [if_neg (by omega)])
      go_wp2_with fail
      go_ret
      exact ⟨by rw [HV.out]; rfl, HB1.out⟩
end Go.Proofs.YtdmfjmdnkfeljaaDoor
