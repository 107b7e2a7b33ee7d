/- Bytes of the law: literals, parts. -/
import Derived.Test.YtbibippdafnenaaWbH
import Derived.Test.YtbibippdafnenaaWaA
import Derived.Test.YtbibippdafnenaaWaT
import Derived.Laws.BitsAllLaws
namespace Go.Proofs.Ytbibippdafnenaa
open Go.RowKit
set_option maxRecDepth 100000

theorem Ln.low {x : Ln} {k : Nat} (h : x.Ok) (h1 : x.w.all.length ≤ 4 * k) (h2 : x.r.n ≤ 16 * k) (h3 : x.r.fin ≤ 1000) (hk : k < 200) : x.r.Low := by
  have q1 := h.r.win; have q2 := h.r.le; have q3 := h.r.top; have q4 := h.w.tt
  refine ⟨by omega, by omega, by omega, by omega, by omega, fun j b hj => ?_⟩
  have := (h.r.key j b hj).2.1
  omega
theorem and7 (n : Nat) (h : n < 65536) : bits .and .u16 (n : Int) 7 = ((n % 8 : Nat) : Int) := by
  rw [show (7 : Int) = ((7 : Nat) : Int) from rfl, u16_and_nat n 7 h (by decide), show n &&& 7 = n % 8 from Nat.and_two_pow_sub_one_eq_mod n 3]
theorem wrap_byte (n : Nat) : IntKind.u8.wrap (n : Int) = U (BitVec.ofNat 8 n) := by
  unfold U
  rw [BitVec.toNat_ofNat, IntKind.wrap_u8]; omega
theorem own_lit {g n k b : Nat} (h : (Value.slice (some ⟨g, 0, none⟩) n k).ownBlock = some b) : g ≤ b := by
  obtain rfl : g = b := by simpa [Value.ownBlock] using h
  exact Nat.le_refl _
theorem own_any {a : Option Addr} {n c m d b : Nat} (h : (Value.slice a n c).ownBlock = some b) : (Value.slice a m d).ownBlock = some b := by
  cases a with
  | none => cases h
  | some _ => exact h
section
variable {F Z : BS} {W w : World} {ts : List Th}
theorem Held.lit_by (h : Held F Z W ts w) (bs : List Byte) (f : Nat × Nat) (hn : bs.length ≤ 1000) : Held F Z W (tBy (.slice (some ⟨w.heap.size, 0, none⟩) bs.length bs.length) bs :: ts) (w.alloc (.cells (cu bs).toArray 5 f)) :=
  (h.addZ (T := tBy (.slice (some ⟨w.heap.size, 0, none⟩) bs.length bs.length) bs) (below_alloc w _) ⟨rd_lit w _ 1 bs.length (cu bs) _ _ rfl (by rw [cu_length]; omega) hn, fun _ b hb => own_lit hb⟩).front
/-- a beginning of bytes that are held -/
theorem Held.takeB {a : Option Addr} {n c : Nat} {bs : List Byte} (h : Held F Z W (tBy (.slice a n c) bs :: ts) w) {j : Nat} (hj : j ≤ n) : Held F Z W (tBy (.slice a j c) (bs.take j) :: ts) w :=
  ((h.weakL (T := tBy (.slice a j c) (bs.take j)) 0 rfl fun _ Y hb => ⟨By.take (show ByZ w Y (.slice a n c) bs from hb).1 hj, fun hl b hb' => (show ByZ w Y (.slice a n c) bs from hb).2 (by rw [List.length_take] at hl; omega) b (own_any hb')⟩).tail).front
end
end Go.Proofs.Ytbibippdafnenaa
