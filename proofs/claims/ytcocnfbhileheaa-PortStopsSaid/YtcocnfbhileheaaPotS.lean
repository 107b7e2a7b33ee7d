/- The reference's Same, at two packets that are the same; bytes.Equal. -/
import Derived.Test.YtcocnfbhileheaaPotD
namespace Go.Proofs.Ytcocnfbhileheaa
open Go.RowKit

set_option maxRecDepth 100000 in
set_option maxHeartbeats 4000000 in
theorem sameP_refl (x : Pt) (pa qa : Option Addr) (pc qc : Nat) (w : World) (h1 : By w (.slice pa x.pay.length pc) x.pay) (h2 : By w (.slice qa x.pay.length qc) x.pay) :
    Calls Try.prog 17 #[ptV x (.slice pa x.pay.length pc), ptV x (.slice qa x.pay.length qc)] w fun e w' => e = .returned (.bool true) ∧ Below w.heap.size w w' := by
  obtain ⟨hm, h1⟩ := h1.cases
  obtain ⟨_, h2⟩ := h2.cases
  have hm2 : x.pay.length ≤ 9223372036854775807 := hm
  have hb := (show Below w.heap.size w ((w.alloc (ptCells x (.slice pa x.pay.length pc))).alloc (ptCells x (.slice qa x.pay.length qc))) by (repeat (first | (with_reducible exact Below.refl _ _) | (with_reducible refine Bw.alloc ?_ _) | (with_reducible refine Bw.drewN ?_ _) | (with_reducible refine Bw.drew ?_))))
  have HB := Lib.hid hb
  have H1 := Lib.hid h1
  have H2 := Lib.hid h2
  have r1 := (Below.heap_alloc (w.alloc (ptCells x (.slice pa x.pay.length pc))) (ptCells x (.slice qa x.pay.length qc)) w.heap.size (by simp)).trans (heap_alloc_new w (ptCells x (.slice pa x.pay.length pc)))
  have r2 := heap_alloc_new (w.alloc (ptCells x (.slice pa x.pay.length pc))) (ptCells x (.slice qa x.pay.length qc))
  rw [World.size_alloc] at r2
  have k4 := (pt_cells r1).2.2.2.2
  have l4 := (pt_cells r2).2.2.2.2
  clear hb h1 h2 hm r1 r2
  go_enter Try.func17, Try.ntmps17
  go_wp2_with fail
  generalize (w.alloc (ptCells x (.slice pa x.pay.length pc))).alloc (ptCells x (.slice qa x.pay.length qc)) = w1 at *
  go_loopw [5] (fun i wr => ∃ k : Nat, k ≤ x.pay.length ∧ i = .int .i64 (k : Int) ∧ ∃ n, wr = w1.drewN n) (fun i _ => x.pay.length - (intOf i).toNat)
  case atStart => exact ⟨0, Nat.zero_le _, rfl, 0, rfl⟩
  case round =>
    obtain ⟨k, hk, rfl, n, rfl⟩ := hrel
    by_cases hlt : k < x.pay.length
    · obtain ⟨b, off, c, e, _, _, _, hc⟩ := H1.out.resolve_left (fun h => by have h0 := hlt; rw [h.1] at h0; simp at h0)
      obtain ⟨b', off', c', e', _, _, _, hc'⟩ := H2.out.resolve_left (fun h => by have h0 := hlt; rw [h.1] at h0; simp at h0)
      obtain ⟨rfl, rfl⟩ : pa = some ⟨b, off, none⟩ ∧ pc = c := by simpa using e
      obtain ⟨rfl, rfl⟩ : qa = some ⟨b', off', none⟩ ∧ qc = c' := by simpa using e'
      have e1 := hc k hlt
      have e2 := hc' k hlt
      have d1 := (World.cell?_of_block (HB.out.block b (World.block_lt_of_cell? w _ e1))).trans e1
      have d2 := (World.cell?_of_block (HB.out.block b' (World.block_lt_of_cell? w _ e2))).trans e2
      generalize x.pay.getD k 0 = y at d1 d2
      clear hc hc' e e' e1 e2
      go_wp2_with fail
      go_quiet (fail)
      go_wp2_with fail
      go_roundw
      case rel => exact ⟨k + 1, by omega, by go_num, _, rfl⟩
      case measure => simp [intOf]; omega
    · obtain rfl : x.pay.length = k := by omega
      go_wp2_with fail
      go_ret
      exact ⟨rfl, Bw.drewN HB.out n⟩
end Go.Proofs.Ytcocnfbhileheaa
