/- Reading lists of numbers of 16 bits. -/
import Derived.Test.YtbibippdafnenaaMgB
namespace Go.Proofs.Ytbibippdafnenaa
open Go.RowKit Go.ChangeShapes Go.WideShapes Go.ChangeAt

/-- a number of 16 bits -/
def eU16 : El Nat where
  size := 1
  rd _ _ _ cs n := cs = [.int .u16 (n : Int)] ∧ n < 65536
  len h := by rw [h.1]; rfl
  keep h _ _ := h
  mono h _ _ := h
  one h u hu := by rw [h.1] at hu; obtain rfl := List.mem_singleton.1 hu; rfl
def r16 : R Nat := rMap (rInt .u16) Int.toNat
theorem opens16 {H : Type} {enc : TypeId × Value → H} {W : World} : Opens enc Try.prog W 22 (rSlice r16) :=
  opens_slice Try.underlying22 (by kernel_rfl) (opens_map (opens_int Try.underlying41 (by kernel_rfl)) _) (by decide)
theorem u16s_of {W : World} {v : Value} (h : IsSl r16 W v) : ∃ l, RdS eU16 W (Old W) v l := by
  obtain ⟨l, hl⟩ := h
  refine ⟨l, rdS_of (r := r16) (E := eU16) rfl (by decide) (fun cs p hp => ?_) hl⟩
  obtain ⟨n, ⟨rfl, hw⟩, rfl⟩ := hp
  have := bounds_u16 hw
  exact ⟨by rw [Int.toNat_of_nonneg this.1], by omega⟩
end Go.Proofs.Ytbibippdafnenaa
