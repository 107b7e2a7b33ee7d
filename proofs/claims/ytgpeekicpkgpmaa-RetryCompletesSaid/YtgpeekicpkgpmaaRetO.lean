/- What the walks of the laws of retry share. -/
import Derived.Test.YtgpeekicpkgpmaaRetI
import Derived.Test.YtgpeekicpkgpmaaRetN
import Derived.Test.YtgpeekicpkgpmaaRow
namespace Go.Proofs.Ytgpeekicpkgpmaa
open Go.RowKit

theorem int_nat {k : IntKind} {v : Value} (o : IsInt k v) (h : ∀ x : Int, (Lit.int k x).wf = true → 0 ≤ x) : ∃ a : Nat, v = .int k (a : Int) ∧ (Lit.int k (a : Int)).wf = true := by
  obtain ⟨x, rfl, hx⟩ := o
  obtain ⟨n, rfl⟩ := Int.eq_ofNat_of_zero_le (h x hx)
  exact ⟨n, rfl, hx⟩
theorem int_u8 {v : Value} (o : IsInt .u8 v) : ∃ a : Nat, v = .int .u8 (a : Int) ∧ a < 256 := by
  obtain ⟨a, h1, h2⟩ := int_nat o fun x h => (bounds_u8 h).1
  have := bounds_u8 h2
  exact ⟨a, h1, by omega⟩
theorem Calls.of_eq {P : Program} {f : FuncId} {xs ys : Array Value} {w : World} {Q : Ending → World → Prop} (h : Calls P f xs w Q) (e : xs = ys) : Calls P f ys w Q := e ▸ h
theorem Calls.qs {P : Program} {f : FuncId} {args : Array Value} {w : World} {n : Nat} {v : Value}
    (h : Calls P f args (w.drewN n) fun e w' => e = .returned v ∧ w.drewN n = w') : Calls P f args (w.drewN n) fun e w'' => e = .returned v ∧ ∃ m, w'' = w.drewN m :=
  h.mono fun _ _ ⟨he, hm⟩ => ⟨he, n, hm.symm⟩
theorem one_le (i : Nat) : (oneB i).length ≤ 64 := by simp [oneB]
theorem emod_cast (b w : Nat) : (b : Int) % ((w : Int) + 1) = ((b % (w + 1) : Nat) : Int) := by rw [Int.natCast_emod]; rfl
theorem U_small (i : Nat) (h : i < 256) : U (BitVec.ofNat 8 i) = (i : Int) := by
  unfold U; rw [BitVec.toNat_ofNat, Nat.mod_eq_of_lt (by omega)]
/-- one byte that is read -/
theorem By.one {w : World} {v : Value} {x : BitVec 8} (h : By w v [x]) : ∃ b off cap, v = .slice (some ⟨b, off, none⟩) 1 cap ∧ 1 ≤ cap ∧ w.cell? ⟨b, off, none⟩ = some (.int .u8 (U x)) := by
  obtain ⟨_, ⟨h0, _⟩ | ⟨b, off, cap, rfl, _, h1, _, hc⟩⟩ := h.cases
  · cases h0
  · exact ⟨b, off, cap, rfl, h1, by simpa using hc 0 (by simp)⟩
end Go.Proofs.Ytgpeekicpkgpmaa
