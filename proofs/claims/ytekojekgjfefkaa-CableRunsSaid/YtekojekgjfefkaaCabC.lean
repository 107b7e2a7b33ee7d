/- A cable in memory: its thing, and the fault of the next transmission. -/
import Derived.Test.YtekojekgjfefkaaCabB
import Derived.Test.YtekojekgjfefkaaRetA
import Derived.Test.YtekojekgjfefkaaRw
namespace Go.Proofs.Ytekojekgjfefkaa
open Go.RowKit

/-- a transmission in two cells -/
def eTr : El (Nat × Byt) where
  size := 2
  rd w _ Z cs x := ∃ v, cs = [.int .i64 (x.1 : Int), v] ∧ ByZ w Z v x.2
  len h := by obtain ⟨v, h, _⟩ := h; rw [h]; rfl
  keep h _ hk := by obtain ⟨v, e, h⟩ := h; exact ⟨v, e, h.stay fun k hz => hk k (.inr hz)⟩
  mono h _ hZ := by obtain ⟨v, e, h⟩ := h; exact ⟨v, e, h.mono hZ⟩
  one h u hu := by
    obtain ⟨v, rfl, h⟩ := h
    obtain ⟨a, c, rfl⟩ := h.slice
    simp at hu
    rcases hu with rfl | rfl <;> rfl
def cabCells (c : Cab) (fv lv : Value) : Array Value := #[.int .i64 (c.delay : Int), fv, .bool c.up, .int .i64 (c.ticks : Int), .int .i64 (c.sent : Int), .int .i64 (c.lost : Int), lv]
def CabAt (p : Nat) (c : Cab) (w : World) (F Z : BS) : Prop := F p ∧ ∃ fv lv, w.heap[p]? = some (.cells (cabCells c fv lv) 62 (0, 0)) ∧ RdS eFlt w Z fv c.faults ∧ Sq eTr 66 w (fun k => F k ∧ k ≠ p) Z lv c.flying
def tCab (p : Nat) (c : Cab) : Th where
  on := CabAt p c
  keep := fun ⟨h0, fv, lv, h1, h2, h3⟩ hs hk => ⟨⟨h0, lt_of_block h1⟩, fv, lv, (hk p (.inl h0) (lt_of_block h1)).trans h1, h2.stay hs fun k hz => hk k (.inr hz), (h3.keep hs fun k hh => hk k (hh.imp (·.1) id)).mono (fun _ h => ⟨⟨h.1.1, h.2⟩, h.1.2⟩) fun _ h => h⟩
  mono := fun ⟨h0, fv, lv, h1, h2, h3⟩ hF hZ => ⟨hF p h0, fv, lv, h1, h2.mono hZ, h3.mono (fun k h => ⟨hF k h.1, h.2⟩) hZ⟩
theorem cab_cells {w : World} {p : Nat} {c : Cab} {fv lv : Value} (h : w.heap[p]? = some (.cells (cabCells c fv lv) 62 (0, 0))) :
    w.cell? ⟨p, 0, none⟩ = some (.int .i64 (c.delay : Int)) ∧ w.cell? ⟨p, 1, none⟩ = some fv ∧ w.cell? ⟨p, 2, none⟩ = some (.bool c.up) ∧ w.cell? ⟨p, 3, none⟩ = some (.int .i64 (c.ticks : Int)) ∧ w.cell? ⟨p, 4, none⟩ = some (.int .i64 (c.sent : Int)) ∧
    w.cell? ⟨p, 5, none⟩ = some (.int .i64 (c.lost : Int)) ∧ w.cell? ⟨p, 6, none⟩ = some lv :=
  ⟨blk_cell h rfl, blk_cell h rfl, blk_cell h rfl, blk_cell h rfl, blk_cell h rfl, blk_cell h rfl, blk_cell h rfl⟩
theorem cab_free {w : World} {p : Nat} {c : Cab} {fv lv : Value} (h : w.heap[p]? = some (.cells (cabCells c fv lv) 62 (0, 0))) :
    w.frozen? ⟨p, 2, none⟩ = false ∧ w.frozen? ⟨p, 3, none⟩ = false ∧ w.frozen? ⟨p, 4, none⟩ = false ∧ w.frozen? ⟨p, 5, none⟩ = false ∧ w.frozen? ⟨p, 6, none⟩ = false :=
  ⟨blk_free h _, blk_free h _, blk_free h _, blk_free h _, blk_free h _⟩
def fltV (f : Flt) : Value := .agg #[.int .i64 f.at', .int .i64 f.kind, .int .i64 f.arg]
theorem flt_wf {w : World} {Z : BS} {v : Value} {fs : List Flt} (h : RdS eFlt w Z v fs) {i : Nat} {f : Flt} (hi : fs[i]? = some f) : (Lit.int .i64 f.at').wf = true ∧ (Lit.int .i64 f.kind).wf = true ∧ (Lit.int .i64 f.arg).wf = true := by
  obtain ⟨a, c, rfl, _⟩ := h.shape
  obtain ⟨b, off, e, _, _, _, h⟩ := flt_at h hi
  exact h
theorem fault_wf {w : World} {Z : BS} {v : Value} {fs : List Flt} (h : RdS eFlt w Z v fs) (t : Int) : (Lit.int .i64 (faultOf fs t).arg).wf = true := by
  unfold faultOf
  cases hf : fs.find? (fun f => f.at' == t) with
  | none => rfl
  | some f =>
    obtain ⟨i, hi⟩ := List.getElem?_of_mem (List.mem_of_find?_eq_some hf)
    exact (flt_wf h hi).2.2
set_option maxHeartbeats 2000000 in
theorem fault_any (p : Nat) (c : Cab) (hok : c.Ok) (hl : c.faults.length ≤ 1000000) (w : World) (F Z : BS) (h : (tCab p c).on w F Z) :
    Calls Try.prog 27 #[.pointer (some ⟨p, 0, none⟩), .int .i64 (c.sent : Int)] w fun e w' => e = .returned (.agg #[.int .i64 c.fault.at', .int .i64 c.fault.kind, .int .i64 c.fault.arg]) ∧ Below w.heap.size w w' := by
  obtain ⟨h0, fv, lv, hrow, hf, hs⟩ := h
  obtain ⟨_, c1, _, _, c4, _, _⟩ := cab_cells hrow
  have HF := Lib.hid hf
  obtain ⟨fa, fc, rfl, fl, fm⟩ := hf.shape
  have HASC := Lib.hid hok.asc
  have hbl := lt_of_block hrow
  clear hf hs hrow hok h0
  unfold maxLen at fm
  go_enter Try.func27, Try.ntmps27
  go_wp2_with fail
  refine (search_any _ Z _ _ (HF.out.below (below_alloc _ _)) HASC.out hl _).mono ?_
  rintro e w1 ⟨i, b, rfl, hlow, hb⟩
  have HB := Lib.hid hb
  have k1 := cell_later hb (alloc_cell w (.cells #[.int .i64 0, .int .i64 0, .int .i64 0] 39) c1)
  have hz := hb.size
  have HR := Lib.hid ((hb.block w.heap.size (by simp)).trans (heap_alloc_new w _))
  clear hb
  have g0 := blk_cell (i := 0) HR.out rfl; have g1 := blk_cell (i := 1) HR.out rfl; have g2 := blk_cell (i := 2) HR.out rfl
  have fr := fun i => blk_free HR.out i
  cases b with
  | true =>
    obtain ⟨f, hfi, hft⟩ := hlow.2.2.2.1 rfl
    have hfo : c.fault = f := faultOf_at HASC.out hfi hft
    have hil := lt_of_get hfi
    obtain ⟨b, off, rfl, d0, d1, d2, _⟩ := flt_at HF.out hfi
    have HFO := Lib.hid hfo; clear hfo hlow hfi hft
    have m0 := cell_later HB.out (alloc_cell w (.cells #[.int .i64 0, .int .i64 0, .int .i64 0] 39) d0)
    have m1 := cell_later HB.out (alloc_cell w (.cells #[.int .i64 0, .int .i64 0, .int .i64 0] 39) d1)
    have m2 := cell_later HB.out (alloc_cell w (.cells #[.int .i64 0, .int .i64 0, .int .i64 0] 39) d2)
    have hbb := World.block_lt_of_cell? _ _ d0
    clear d0 d1 d2
    go_wp2_with fail
    exact bodyPost_ret (v := .agg #[.int .i64 f.at', .int .i64 f.kind, .int .i64 f.arg]) (by simp [results, Try.results27, go_sem, g0, g1, g2]) rfl ⟨by rw [HFO.out], by (repeat (first | (with_reducible exact Below.refl _ _) | (with_reducible exact below_alloc _ _) | (with_reducible exact ((below_alloc _ _).trans (HB.out.mono (by simp)))) | (with_reducible refine Below.setCell ?_ (by simp) _)))⟩
  | false =>
    have hfo : c.fault = Flt.zero := faultOf_none fun k g hg e => by
      rcases Nat.lt_trichotomy k i with h | h | h
      · have := hlow.2.1 k g h hg; omega
      · subst h; exact hlow.2.2.2.2 rfl g hg e
      · have hil := lt_of_get hg
        obtain ⟨g0, hg0⟩ : ∃ g0, c.faults[i]? = some g0 := ⟨c.faults[i], List.getElem?_eq_getElem (by omega)⟩
        have h1 := hlow.2.2.1 i g0 (Nat.le_refl _) hg0
        have h2 := HASC.out i k g0 g h hg0 hg
        omega
    have HFO := Lib.hid hfo; clear hfo hlow
    go_wp2_with fail
    exact bodyPost_ret (v := .agg #[.int .i64 0, .int .i64 0, .int .i64 0]) (by simp [results, Try.results27, go_sem, g0, g1, g2]) rfl ⟨by rw [HFO.out]; rfl, by (repeat (first | (with_reducible exact Below.refl _ _) | (with_reducible exact below_alloc _ _) | (with_reducible exact ((below_alloc _ _).trans (HB.out.mono (by simp)))) | (with_reducible refine Below.setCell ?_ (by simp) _)))⟩
end Go.Proofs.Ytekojekgjfefkaa
