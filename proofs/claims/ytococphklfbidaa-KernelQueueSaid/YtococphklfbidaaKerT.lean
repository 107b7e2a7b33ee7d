/- The reference's Cancel. -/
import Derived.Test.YtococphklfbidaaKerS
namespace Go.Proofs.Ytococphklfbidaa
open Go.RowKit Go.Maps

def CanR (w : World) (now : Int) (last : Nat) (v : Value) (l : List Ev) (number : Int) (e : Ending) (w' : World) : Prop :=
  if (l.any fun x => x.number == number) then (∃ (a' : Option Addr) (n' c' : Nat), e = .returned (.tuple #[refV now last (.slice a' n' c'), .int .i64 0]) ∧ NewEv w w' a' n' c' (l.filter fun x => !(x.number == number)) ∧ Below w.heap.size w w')
  else e = .returned (.tuple #[refV now last v, .int .i64 7]) ∧ Below w.heap.size w w'
set_option maxRecDepth 100000 in
set_option maxHeartbeats 8000000 in
theorem refCancel_any (w : World) (now : Int) (last : Nat) (a : Option Addr) (c : Nat) (l : List Ev) (h : EvR w (.slice a l.length c) l) (hl : l.length ≤ 10000) (hn : (l.map (·.number)).Nodup) (number : Int) :
    Calls Try.prog 23 #[.agg #[.int .i64 now, .int .i64 (last : Int), .slice a l.length c], .int .i64 number] w (CanR w now last (.slice a l.length c) l number) := by
  have H := Lib.hid h
  have HN := Lib.hid hn
  have HBX := Lib.hid (heap_alloc_new w (.cells #[.int .i64 now, .int .i64 (last : Int), .slice a l.length c] 52))
  have c2 := blk_cell (i := 2) HBX.out rfl
  clear h hn
  go_enter Try.func23, Try.ntmps23
  go_wp2_with fail
  obtain ⟨w1, hw1⟩ : ∃ w1, w1 = ((w.alloc (.cells #[.int .i64 now, .int .i64 (last : Int), .slice a l.length c] 52)).alloc (.cells #[.int .i64 0, .int .i64 0, .slice none 0 0] 52)) := ⟨_, rfl⟩
  rw [← hw1]
  have HB0 := Lib.hid (show Below w.heap.size w w1 by rw [hw1]; (repeat (first | (with_reducible exact Below.refl _ _) | (with_reducible refine Bw.alloc ?_ _) | (with_reducible refine Bw.drewN ?_ _) | (with_reducible refine Bw.drew ?_))))
  have hq1 : w1.heap[w.heap.size]? = some (.cells #[.int .i64 now, .int .i64 (last : Int), .slice a l.length c] 52) := by rw [hw1]; (repeat (first | (with_reducible exact HBX.out) | (with_reducible apply row_drewN) | (with_reducible apply row_drew) | (with_reducible apply row_alloc)))
  have hr1 : w1.heap[w.heap.size + 1]? = some (.cells #[.int .i64 0, .int .i64 0, .slice none 0 0] 52) := by rw [hw1]; exact heap_alloc_at _ _ _ (by simp)
  have hz1 : w1.heap.size = w.heap.size + 2 := by rw [hw1]; simp
  have HQ1 := Lib.hid hq1; have HR1 := Lib.hid hr1; have HZ1 := Lib.hid hz1
  clear c2 hw1 HBX hr1 hz1
  obtain ⟨q0, q1, q2⟩ := refq_cells hq1
  obtain ⟨p0, p1, p2⟩ := refq_cells HR1.out
  have fr := fun i => blk_free HR1.out i
  clear hq1
  go_loopw [6] (fun i wr => ∃ j : Nat, j ≤ l.length ∧ i = .int .i64 j ∧ Hid ((l.take j).any (fun x => x.number == number) = false) ∧ wr = w1) (fun i _ => l.length - (intOf i).toNat)
  case atStart => exact ⟨0, by omega, rfl, Lib.hid rfl, rfl⟩
  case round =>
    obtain ⟨j, hj, rfl, HA, rfl⟩ := hrel
    by_cases hlt : j < l.length
    · obtain ⟨e, he⟩ : ∃ e, l[j]? = some e := ⟨l[j], List.getElem?_eq_getElem hlt⟩
      have HE := Lib.hid he
      obtain ⟨b, off, rfl, x0, x1, x2, x3, x4⟩ := ev_at (Rd.below H.out HB0.out) he
      clear he
      by_cases hb : e.number = number
      · subst hb
        go_wp2_with fail
        refine (remove_any wr b off c l (Rd.below H.out HB0.out) hl j hlt).mono ?_
        rintro ee w2 ⟨a2, c2, rfl, hev2, hbk2, hbw2⟩
        have HQ2 := Lib.hid ((hbw2.block w.heap.size (show w.heap.size < wr.heap.size by have := HZ1.out; omega)).trans HQ1.out)
        have HR2 := Lib.hid ((hbw2.block (w.heap.size + 1) (show w.heap.size + 1 < wr.heap.size by have := HZ1.out; omega)).trans HR1.out)
        obtain ⟨z0, z1, z2⟩ := refq_cells HQ2.out
        obtain ⟨t0, t1, t2⟩ := refq_cells HR2.out
        have fr2 := fun i => blk_free HR2.out i
        have f2 := blk_free HQ2.out 2
        have HEV2 := Lib.hid hev2; have HBK2 := Lib.hid hbk2; have HBW2 := Lib.hid (HB0.out.trans (hbw2.mono (show w.heap.size ≤ wr.heap.size by have := HZ1.out; omega)))
        clear hev2 hbk2 hbw2
        go_wp2_with fail
        have hlen : (l.take j ++ l.drop (j + 1)).length = j + (l.length - (j + 1)) := by simp; omega
        rw [hlen] at HEV2 HBK2
        have hr5 : ((((w2.setCell ⟨w.heap.size, 2, none⟩ (.slice a2 (j + (l.length - (j + 1))) c2)).setCell ⟨w.heap.size + 1, 0, none⟩ (.int .i64 now)).setCell ⟨w.heap.size + 1, 1, none⟩ (.int .i64 (last : Int))).setCell ⟨w.heap.size + 1, 2, none⟩ (.slice a2 (j + (l.length - (j + 1))) c2)).heap[w.heap.size + 1]? = some (.cells #[.int .i64 now, .int .i64 (last : Int), .slice a2 (j + (l.length - (j + 1))) c2] 52) := by (apply row_trans; focus (repeat (first | (with_reducible exact HR2.out) | (with_reducible apply row_set) | (with_reducible apply row_drewN) | (with_reducible apply row_drew) | (with_reducible apply row_alloc) | (apply row_set_other (by first | omega | (simp <;> omega)))))); rfl
        obtain ⟨y0, y1, y2⟩ := refq_cells hr5
        refine bodyPost_ret (v := .tuple #[.agg #[.int .i64 now, .int .i64 (last : Int), .slice a2 (j + (l.length - (j + 1))) c2], .int .i64 0]) (by simp [results, Try.results23, go_sem, y0, y1, y2]) rfl ?_
        unfold CanR
        rw [if_pos (by rw [List.any_eq_true]; exact ⟨e, List.mem_of_getElem? HE.out, by simp⟩), ← cut_filter HN.out HE.out]
        refine ⟨a2, j + (l.length - (j + 1)), c2, rfl, ⟨hlen.symm, ?_, fun k hk => Nat.le_trans (by have := HZ1.out; omega) (HBK2.out k hk)⟩, Below.setCell (Below.setCell (Below.setCell (Below.setCell HBW2.out (by simp) _) (by simp) _) (by simp) _) (by simp) _⟩
        have h := HEV2.out
        unfold EvR at h ⊢
        refine h.keep fun k hk _ => ?_
        have h1 := HBK2.out k hk
        have h2 := HZ1.out
        rw [Below.heap_setCell _ _ _ _ (by simp; omega), Below.heap_setCell _ _ _ _ (by simp; omega), Below.heap_setCell _ _ _ _ (by simp; omega), Below.heap_setCell _ _ _ _ (by simp; omega)]
      · have HA2 : Hid ((l.take (j + 1)).any (fun x => x.number == number) = false) := Lib.hid (by
          rw [List.take_add_one, HE.out, List.any_append, HA.out]
          simpa using hb)
        go_wp2_with fail
        go_roundw
        case rel => exact ⟨j + 1, by omega, by go_num, HA2, by trivial⟩
        case measure => simp [intOf]; omega
    · obtain rfl : j = l.length := by omega
      go_wp2_with fail
      have hr5 : (((wr.setCell ⟨w.heap.size + 1, 0, none⟩ (.int .i64 now)).setCell ⟨w.heap.size + 1, 1, none⟩ (.int .i64 (last : Int))).setCell ⟨w.heap.size + 1, 2, none⟩ (.slice a l.length c)).heap[w.heap.size + 1]? = some (.cells #[.int .i64 now, .int .i64 (last : Int), .slice a l.length c] 52) := by (apply row_trans; focus (repeat (first | (with_reducible exact HR1.out) | (with_reducible apply row_set) | (with_reducible apply row_drewN) | (with_reducible apply row_drew) | (with_reducible apply row_alloc) | (apply row_set_other (by first | omega | (simp <;> omega)))))); rfl
      obtain ⟨y0, y1, y2⟩ := refq_cells hr5
      refine bodyPost_ret (v := .tuple #[.agg #[.int .i64 now, .int .i64 (last : Int), .slice a l.length c], .int .i64 7]) (by simp [results, Try.results23, go_sem, y0, y1, y2]) rfl ?_
      have h0 := HA.out
      rw [List.take_length] at h0
      unfold CanR
      rw [if_neg (by rw [h0]; simp)]
      exact ⟨rfl, Below.setCell (Below.setCell (Below.setCell HB0.out (by simp) _) (by simp) _) (by simp) _⟩
end Go.Proofs.Ytococphklfbidaa
