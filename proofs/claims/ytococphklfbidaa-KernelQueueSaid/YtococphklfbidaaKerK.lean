/- The arguments of the laws: calls in five cells, events. -/
import Derived.Test.YtococphklfbidaaKerJ
namespace Go.Proofs.Ytococphklfbidaa
open Go.RowKit Go.Maps

theorem int_u8' {v : Value} (o : IsInt .u8 v) : ∃ m : Nat, v = .int .u8 (m : Int) ∧ m < 256 := by
  obtain ⟨x, rfl, hx⟩ := o
  have := bounds_u8 hx
  obtain ⟨m, rfl⟩ := Int.eq_ofNat_of_zero_le this.1
  exact ⟨m, rfl, by omega⟩
theorem i64_of_wf {n : Int} (h : (Lit.int .i64 n).wf = true) : -9223372036854775808 ≤ n ∧ n ≤ 9223372036854775807 := by
  simp [Lit.wf, IntKind.min, IntKind.max, IntKind.signed, IntKind.bits] at h; omega
structure Ac where
  kind : Int
  at' : Int
  sort : Int
  node : Int
  arg : Int
def eAc : El Ac where
  size := 5
  rd _ _ _ cs a := cs = [.int .i64 a.kind, .int .i64 a.at', .int .i64 a.sort, .int .i64 a.node, .int .i64 a.arg] ∧ (Lit.int .i64 a.at').wf = true ∧ (Lit.int .i64 a.arg).wf = true
  len h := by rw [h.1]; rfl
  keep h _ _ := h
  mono h _ _ := h
  one h u hu := by
    rw [h.1] at hu
    simp at hu
    rcases hu with rfl | rfl | rfl | rfl | rfl <;> rfl
def rI : R Int := rInt .i64
def rAc : R Ac := rMap (rPair rI (rPair rI (rPair rI (rPair rI rI)))) fun a => ⟨a.1, a.2.1, a.2.2.1, a.2.2.2.1, a.2.2.2.2⟩
theorem eAc_of {W : World} {F Z : BS} {cs : List Value} {f : Ac} (h : rAc.rd W cs f) : eAc.rd W F Z cs f := by
  obtain ⟨⟨k, n, d, e, g⟩, ⟨c1, c2, rfl, ⟨rfl, h1⟩, c3, c4, rfl, ⟨rfl, h2⟩, c5, c6, rfl, ⟨rfl, h3⟩, c7, c8, rfl, ⟨rfl, h4⟩, rfl, h5⟩, rfl⟩ := h
  exact ⟨rfl, h2, h5⟩
theorem opensActs {H : Type} {enc : TypeId × Value → H} {W : World} : Opens enc Try.prog W 22 (rSlice rAc) :=
  opens_slice Try.underlying22 (by kernel_rfl) (opens_map (opens_struct Try.underlying25 (by kernel_rfl)
    (.cons (opens_int Try.underlying3 (by kernel_rfl)) rfl (.cons (opens_int Try.underlying3 (by kernel_rfl)) rfl (.cons (opens_int Try.underlying3 (by kernel_rfl)) rfl (.cons (opens_int Try.underlying3 (by kernel_rfl)) rfl (.one (opens_int Try.underlying3 (by kernel_rfl)) rfl)))))) _) (by decide)
theorem acts_of {W : World} {v : Value} {l : List Ac} (h : (rSlice rAc).rd W [v] l) : RdS eAc W (Old W) v l := rdS_of rfl (by decide) (fun _ _ h => eAc_of h) h
theorem act_at {w : World} {Z : BS} {a : Option Addr} {n c : Nat} {l : List Ac} (h : RdS eAc w Z (.slice a n c) l) {i : Nat} {f : Ac} (hi : l[i]? = some f) :
    ∃ b off, a = some ⟨b, off, none⟩ ∧ w.cell? ⟨b, off + i * 5, none⟩ = some (.int .i64 f.kind) ∧ w.cell? ⟨b, off + i * 5 + 1, none⟩ = some (.int .i64 f.at') ∧ w.cell? ⟨b, off + i * 5 + 2, none⟩ = some (.int .i64 f.sort) ∧
      w.cell? ⟨b, off + i * 5 + 3, none⟩ = some (.int .i64 f.node) ∧ w.cell? ⟨b, off + i * 5 + 4, none⟩ = some (.int .i64 f.arg) ∧ (Lit.int .i64 f.at').wf = true ∧ (Lit.int .i64 f.arg).wf = true := by
  obtain ⟨b, off, cs, e, _, ⟨rfl, h1⟩, h2⟩ := h.at (by decide) hi
  exact ⟨b, off, e, h2 0 _ rfl, h2 1 _ rfl, h2 2 _ rfl, h2 3 _ rfl, h2 4 _ rfl, h1⟩
theorem Qu.push_small {q : Qu} (a k n g : Int) : (q.push a k n g).1.last ≤ q.last + 1 ∧ (q.push a k n g).1.evs.length ≤ q.evs.length + 1 ∧ (q.push a k n g).1.now = q.now := by
  unfold Qu.push
  split
  · exact ⟨by simp, by simp, rfl⟩
  · split
    · exact ⟨by simp, by simp, rfl⟩
    · exact ⟨Nat.le_refl _, by simp [ins_length], rfl⟩
end Go.Proofs.Ytococphklfbidaa
