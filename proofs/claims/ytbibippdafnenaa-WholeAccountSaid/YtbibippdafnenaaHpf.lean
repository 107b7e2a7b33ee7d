/- The contract of bytes.HasPrefix at a beginning. -/
import Derived.Test.YtbibippdafnenaaMgB
import Derived.Test.YtbibippdafnenaaBEq
import Derived.Laws.BytesArg
namespace Go.Proofs.Ytbibippdafnenaa
open Go.RowKit
theorem By.sliceV {w : World} {v : Value} {bs : List (BitVec 8)} (h : By w v bs) : ∃ a cap, v = .slice a bs.length cap := by
  obtain ⟨_, a, cap, rfl, _⟩ := h; exact ⟨a, cap, rfl⟩
theorem By.partsV {w : World} {a : Option Addr} {l c : Nat} {bs : List (BitVec 8)} (h : By w (.slice a l c) bs) : l = bs.length ∧ l ≤ c ∧ c ≤ maxLen ∧ (a = none → l = 0 ∧ c = 0) := by
  obtain ⟨_, a', c', e, h1, h2, h3, _⟩ := h
  obtain ⟨rfl, rfl, rfl⟩ : a = a' ∧ l = bs.length ∧ c = c' := by simpa using e
  exact ⟨rfl, h1, h2, h3⟩

set_option maxRecDepth 100000 in
set_option maxHeartbeats 4000000 in
theorem hasPrefix_c {u v : Value} {xs ys : List (BitVec 8)} {w : World} (hu : By w u xs) (hv : By w v ys) (h : ys <+: xs) :
    Calls Try.prog 20 #[u, v] w fun e w' => e = .returned (.bool true) ∧ w = w' := by
  obtain ⟨a, ca, rfl⟩ := hu.sliceV
  obtain ⟨b, cb, rfl⟩ := hv.sliceV
  obtain ⟨_, hca⟩ := hu.partsV
  have hmx : xs.length ≤ maxLen := hu.cases.1
  have hle : ys.length ≤ xs.length := h.length_le
  have hge : decide ((ys.length : Int) ≤ (xs.length : Int)) = true := by simp; omega
  have ht : By w (.slice a ys.length ca) ys := by
    have := hu.take (n := ys.length) hle
    rwa [List.prefix_iff_eq_take.1 h |>.symm] at this
  have HE := Lib.hid (bytesEqual_refl ht hv)
  clear hu hv ht h
  go_enter Try.func20, Try.ntmps20
  go_wp2_with (go_at_call 33; refine HE.out.mono ?_; rintro e w' ⟨rfl, rfl⟩)
  go_ret
  exact ⟨by simp, rfl⟩
end Go.Proofs.Ytbibippdafnenaa
