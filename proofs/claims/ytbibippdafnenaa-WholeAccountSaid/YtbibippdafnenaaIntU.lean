/- A byte as an argument. -/
import Derived.Test.YtbibippdafnenaaMgB
import Derived.Test.YtbibippdafnenaaMgA
namespace Go.Proofs.Ytbibippdafnenaa
open Go.RowKit Go.ChangeShapes Go.WideShapes Go.ChangeAt

theorem int_u8' {v : Value} (o : IsInt .u8 v) : ∃ a : Nat, v = .int .u8 (a : Int) ∧ a < 256 := by
  obtain ⟨x, rfl, hx⟩ := o
  have := bounds_u8 hx
  obtain ⟨n, rfl⟩ := Int.eq_ofNat_of_zero_le this.1
  exact ⟨n, rfl, by omega⟩
end Go.Proofs.Ytbibippdafnenaa
