/- The contract of slices.Clone on bytes. -/
import Derived.Test.YtdmfjmdnkfeljaaDoorFrmS
namespace Go.Proofs.YtdmfjmdnkfeljaaDoor
open Go.RowKit

set_option maxRecDepth 100000 in
set_option maxHeartbeats 4000000 in
theorem clone_any (v : Value) (bs : List Byte) (w : World) (hv : By w v bs) (hm : bs.length ≤ 1000000) :
    Calls Tryd.prog 14 #[v] w fun e w' => ∃ v', e = .returned v' ∧ Nb w' w.heap.size v' bs ∧ Below w.heap.size w w' := by
  have HV := Lib.hid hv
  have hsn := fun a n c n' c' => Lib.run_eql_slice_nil (P := Tryd.prog) w 22 5 a n c n' c' Tryd.underlying22
  obtain ⟨_, a, cap, rfl, _, _, hnil, _⟩ := hv
  cases a with
  | none =>
    obtain ⟨h0, hc0⟩ := hnil rfl
    have hb0 : bs = [] := List.eq_nil_of_length_eq_zero h0
    subst hb0
    subst hc0
    clear hnil h0
    go_enter Tryd.func14, Tryd.ntmps14
    go_wp2_with fail
    go_ret
    exact ⟨_, rfl, Nb.nil _ _, Below.refl _ _⟩
  | some ad =>
    clear hnil
    go_enter Tryd.func14, Tryd.ntmps14
    go_wp2_with (at_builtin; refine wpList_nb rfl _ _ rfl w.heap.size _ [] rfl (Nb.lit w w.heap.size [] #[] 0 rfl (Nat.le_refl _) rfl rfl (by decide)) _ bs rfl (By.alloc HV.out _) (by show 0 + _ ≤ _; omega) (by simp) ?_; intro x1a x1c w1 hn1 hb1; have HN1 := Lib.hid (show Nb w1 w.heap.size (.slice x1a bs.length x1c) bs by simpa using hn1); have HB1 := Lib.hid ((below_alloc w (.cells #[] 5)).trans hb1); clear hn1 hb1)
    go_ret
    exact ⟨_, rfl, HN1.out, HB1.out⟩
end Go.Proofs.YtdmfjmdnkfeljaaDoor
