/- The reference's Send where nothing flies. -/
import Derived.Test.YtekojekgjfefkaaCabU
namespace Go.Proofs.Ytekojekgjfefkaa
open Go.RowKit

set_option maxHeartbeats 8000000 in
set_option maxRecDepth 100000 in
theorem refSend_drop (w : World) (Z : BS) (c : Cab) (fa : Option Addr) (fc : Nat) (la : Option Addr) (lc : Nat) (a : Option Addr) (n cap : Nat) (hf : RdS eFlt w Z (.slice fa c.faults.length fc) c.faults) (hfl : c.faults.length ≤ 1000000) (hls : c.lost < 1000000000) (hse : c.sent < 1000000000)
    (hk : c.up = false ∨ c.fault.kind = 1) :
    Calls Try.prog 21 #[refV c (.slice fa c.faults.length fc) (.slice la c.flying.length lc), .slice a n cap] w fun e w' => e = .returned (.tuple #[refV { c with sent := c.sent + 1, lost := c.lost + 1 } (.slice fa c.faults.length fc) (.slice la c.flying.length lc), .int .i64 0]) ∧ Below w.heap.size w w' := by
  have HF := Lib.hid hf
  clear hf
  obtain ⟨u, hu⟩ : ∃ u, u = c.up := ⟨_, rfl⟩
  obtain ⟨f, hff⟩ : ∃ f, f = c.fault := ⟨_, rfl⟩
  rw [← hu, ← hff] at hk
  have HFF : Hid (faultOf c.faults (c.sent : Int) = f) := Lib.hid hff.symm
  have HU := Lib.hid hu
  clear hu hff
  have hh := (Held.start0 (fun _ => False) (fun _ => False) (fun _ f _ => f) w).new (.cells #[.int .i64 (c.delay : Int), .slice fa c.faults.length fc, .bool (!u), .int .i64 (c.sent : Int), .int .i64 (c.ticks : Int), .slice la c.flying.length lc, .int .i64 (c.lost : Int)] 47)
  have hh2 := hh.new (.cells #[.int .i64 0, .slice none 0 0, .bool false, .int .i64 0, .int .i64 0, .slice none 0 0, .int .i64 0] 47)
  rw [heap_size_alloc] at hh2
  have H2 := Lib.hid hh2
  clear hh hh2
  unfold refV
  rw [← HU.out]
  go_enter Try.func21, Try.ntmps21
  go_wp2_with fail
  refine (refFault_any _ Z _ _ (HF.out.below (by (repeat (first | (with_reducible exact Below.refl _ _) | (with_reducible refine Bw.alloc ?_ _) | (with_reducible refine Bw.drewN ?_ _) | (with_reducible refine Bw.drew ?_))))) hfl _).mono ?_
  rintro e w1 ⟨rfl, hb⟩
  rw [HFF.out]
  have H3 := Lib.hid (H2.out.own hb)
  clear hb
  have H4 := Lib.hid (H3.out.new (.cells #[.int .i64 f.at', .int .i64 f.kind, .int .i64 f.arg] 39))
  have hrow := H4.out.blk 0 rfl
  have hrow2 := H4.out.blk 1 rfl
  have hrow3 := H4.out.blk 2 rfl
  have m1 := blk_cell (i := 1) hrow3 rfl
  have hs1 : w.heap.size + 1 < w1.heap.size := lt_of_block (H3.out.blk 1 rfl)
  have k0 := blk_cell (i := 0) hrow rfl
  have q0 := blk_cell (i := 0) hrow2 rfl
  have k1 := blk_cell (i := 1) hrow rfl
  have q1 := blk_cell (i := 1) hrow2 rfl
  have k2 := blk_cell (i := 2) hrow rfl
  have q2 := blk_cell (i := 2) hrow2 rfl
  have k3 := blk_cell (i := 3) hrow rfl
  have q3 := blk_cell (i := 3) hrow2 rfl
  have k4 := blk_cell (i := 4) hrow rfl
  have q4 := blk_cell (i := 4) hrow2 rfl
  have k5 := blk_cell (i := 5) hrow rfl
  have q5 := blk_cell (i := 5) hrow2 rfl
  have k6 := blk_cell (i := 6) hrow rfl
  have q6 := blk_cell (i := 6) hrow2 rfl
  have kf := fun i => blk_free hrow i
  have qf := fun i => blk_free hrow2 i
  have hs0 := lt_of_block hrow2
  clear hrow hrow2 hrow3
  rcases u with _ | _
  · have e1 : (f.kind == 1) = true ∨ (f.kind == 1) = false := by cases (f.kind == 1) <;> simp
    go_wp2_with fail
    have HROW1 := Lib.hid (H4.out.blk 0 rfl)
    have h1 := H4.out.set 0 rfl (.cells #[.int .i64 (c.delay : Int), .slice fa c.faults.length fc, .bool true, .int .i64 ((c.sent : Int) + 1), .int .i64 (c.ticks : Int), .slice la c.flying.length lc, .int .i64 ((c.lost : Int) + 1)] 47 (0, 0)) (w' := ((w1.alloc (.cells #[.int .i64 f.at', .int .i64 f.kind, .int .i64 f.arg] 39)).setCell ⟨w.heap.size, 3, none⟩ (.int .i64 ((c.sent : Int) + 1))).setCell ⟨w.heap.size, 6, none⟩ (.int .i64 ((c.lost : Int) + 1))) (by (repeat (first | (with_reducible exact Fr.refl _ _) | exact Or.inl rfl | (with_reducible refine Fr.setCell ?_ ?_ _) | (with_reducible refine Fr.drewN ?_ _) | (with_reducible refine Fr.drew ?_)))) (by (apply row_trans; focus (repeat (first | (with_reducible exact HROW1.out) | (with_reducible apply row_set) | (with_reducible apply row_drewN) | (with_reducible apply row_drew)))); simp)
    have HROW2 := Lib.hid (h1.blk 1 rfl)
    refine bodyPost_ret (v := .tuple #[.agg #[.int .i64 (c.delay : Int), .slice fa c.faults.length fc, .bool true, .int .i64 ((c.sent : Int) + 1), .int .i64 (c.ticks : Int), .slice la c.flying.length lc, .int .i64 ((c.lost : Int) + 1)], .int .i64 0]) (by simp [results, Try.results21, go_sem, q0, q1, q2, q3, q4, q5, q6]) rfl ⟨by simp, Held.below (Held.set h1 1 rfl (.cells #[.int .i64 (c.delay : Int), .slice fa c.faults.length fc, .bool true, .int .i64 ((c.sent : Int) + 1), .int .i64 (c.ticks : Int), .slice la c.flying.length lc, .int .i64 ((c.lost : Int) + 1)] 47 (0, 0)) ?_ ?_)⟩
    · (repeat (first | (with_reducible exact Fr.refl _ _) | exact Or.inl rfl | (with_reducible refine Fr.setCell ?_ ?_ _) | (with_reducible refine Fr.drewN ?_ _) | (with_reducible refine Fr.drew ?_)))
    · (apply row_trans; focus (repeat (first | (with_reducible exact HROW2.out) | (with_reducible apply row_set) | (with_reducible apply row_drewN) | (with_reducible apply row_drew))))
      simp
  · have e1 : (f.kind == 1) = true := by simpa using hk
    go_wp2_with fail
    have HROW1 := Lib.hid (H4.out.blk 0 rfl)
    have h1 := H4.out.set 0 rfl (.cells #[.int .i64 (c.delay : Int), .slice fa c.faults.length fc, .bool false, .int .i64 ((c.sent : Int) + 1), .int .i64 (c.ticks : Int), .slice la c.flying.length lc, .int .i64 ((c.lost : Int) + 1)] 47 (0, 0)) (w' := ((w1.alloc (.cells #[.int .i64 f.at', .int .i64 f.kind, .int .i64 f.arg] 39)).setCell ⟨w.heap.size, 3, none⟩ (.int .i64 ((c.sent : Int) + 1))).setCell ⟨w.heap.size, 6, none⟩ (.int .i64 ((c.lost : Int) + 1))) (by (repeat (first | (with_reducible exact Fr.refl _ _) | exact Or.inl rfl | (with_reducible refine Fr.setCell ?_ ?_ _) | (with_reducible refine Fr.drewN ?_ _) | (with_reducible refine Fr.drew ?_)))) (by (apply row_trans; focus (repeat (first | (with_reducible exact HROW1.out) | (with_reducible apply row_set) | (with_reducible apply row_drewN) | (with_reducible apply row_drew)))); simp)
    have HROW2 := Lib.hid (h1.blk 1 rfl)
    refine bodyPost_ret (v := .tuple #[.agg #[.int .i64 (c.delay : Int), .slice fa c.faults.length fc, .bool false, .int .i64 ((c.sent : Int) + 1), .int .i64 (c.ticks : Int), .slice la c.flying.length lc, .int .i64 ((c.lost : Int) + 1)], .int .i64 0]) (by simp [results, Try.results21, go_sem, q0, q1, q2, q3, q4, q5, q6]) rfl ⟨by simp, Held.below (Held.set h1 1 rfl (.cells #[.int .i64 (c.delay : Int), .slice fa c.faults.length fc, .bool false, .int .i64 ((c.sent : Int) + 1), .int .i64 (c.ticks : Int), .slice la c.flying.length lc, .int .i64 ((c.lost : Int) + 1)] 47 (0, 0)) ?_ ?_)⟩
    · (repeat (first | (with_reducible exact Fr.refl _ _) | exact Or.inl rfl | (with_reducible refine Fr.setCell ?_ ?_ _) | (with_reducible refine Fr.drewN ?_ _) | (with_reducible refine Fr.drew ?_)))
    · (apply row_trans; focus (repeat (first | (with_reducible exact HROW2.out) | (with_reducible apply row_set) | (with_reducible apply row_drewN) | (with_reducible apply row_drew))))
      simp
end Go.Proofs.Ytekojekgjfefkaa
