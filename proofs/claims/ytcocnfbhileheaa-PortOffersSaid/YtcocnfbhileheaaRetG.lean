/- The receiver. -/
import Derived.Test.YtcocnfbhileheaaRetF
namespace Go.Proofs.Ytcocnfbhileheaa
open Go.RowKit

def RcvAt (w : World) (p : Nat) (n : Nat) : Prop := w.heap[p]? = some (.cells #[.int .i64 (n : Int)] 143 (0, 0))
theorem rcv_cell {w : World} {p n : Nat} (h : RcvAt w p n) : w.cell? ⟨p, 0, none⟩ = some (.int .i64 (n : Int)) := blk_cell (i := 0) h rfl
theorem newReceiver_ok (w : World) : Calls Try.prog 68 #[] w fun e w' => e = .returned (.pointer (some ⟨w.heap.size, 0, none⟩)) ∧ RcvAt w' w.heap.size 0 ∧ Below w.heap.size w w' := by
  go_enter Try.func68, Try.ntmps68
  go_wp2_with fail
  go_ret
  exact ⟨rfl, heap_alloc_new w _, (Below.refl _ _).alloc (Nat.le_refl _) _⟩
theorem expected_any (p n : Nat) (w : World) (h : RcvAt w p n) : Calls Try.prog 48 #[.pointer (some ⟨p, 0, none⟩)] w fun e w' => e = .returned (.int .i64 ((n : Int) % 256)) ∧ w = w' := by
  have c0 := rcv_cell h
  clear h
  go_enter Try.func48, Try.ntmps48
  go_wp2_with fail
  go_ret
  exact ⟨rfl, rfl⟩
theorem expected_nil (w : World) : Calls Try.prog 48 #[.pointer none] w fun e w' => e = .returned (.int .i64 0) ∧ w = w' := by
  go_enter Try.func48, Try.ntmps48
  go_wp2_with fail
  go_ret
  exact ⟨rfl, rfl⟩
theorem receive_nil (n : Int) (v : Value) (d : Bytes) (w : World) (hv : By w v d) : Calls Try.prog 98 #[.pointer none, .int .i64 n, v] w fun e w' => e = .returned (.tuple #[.slice none 0 0, .bool false]) ∧ w = w' := by
  obtain ⟨a, cap, rfl⟩ := hv.slice
  clear hv
  go_enter Try.func98, Try.ntmps98
  go_wp2_with fail
  go_ret2
  exact ⟨rfl, rfl⟩
set_option maxHeartbeats 1000000 in
theorem receive_no (p k : Nat) (n : Int) (v : Value) (d : Bytes) (w : World) (h : RcvAt w p k) (hv : By w v d) (hn : n ≠ (k : Int) % 256) : Calls Try.prog 98 #[.pointer (some ⟨p, 0, none⟩), .int .i64 n, v] w fun e w' => e = .returned (.tuple #[.slice none 0 0, .bool false]) ∧ w = w' := by
  obtain ⟨a, cap, rfl⟩ := hv.slice
  have c0 := rcv_cell h
  clear hv h
  go_enter Try.func98, Try.ntmps98
  go_wp2_with fail
  go_ret2
  exact ⟨rfl, rfl⟩
set_option maxHeartbeats 1000000 in
theorem receive_yes' (p k : Nat) (v : Value) (d : Bytes) (w : World) (h : RcvAt w p k) (hk : k < 1000000000000) (hv : By (w.setCell ⟨p, 0, none⟩ (.int .i64 ((k : Int) + 1))) v d) (hd : d.length ≤ 1048576) :
    Calls Try.prog 98 #[.pointer (some ⟨p, 0, none⟩), .int .i64 ((k : Int) % 256), v] w fun e w' => ∃ v', e = .returned (.tuple #[v', .bool true]) ∧ Ow 5 w' w.heap.size v' d ∧ RcvAt w' p (k + 1) ∧ Fr (fun x => x = p) w w' := by
  have c0 := rcv_cell h
  have f0 := blk_free h 0
  have hlt := lt_of_block h
  have HF := Lib.hid (show Fr (fun x => x = p) w (w.setCell ⟨p, 0, none⟩ (.int .i64 ((k : Int) + 1))) by (repeat (first | (with_reducible exact Fr.refl _ _) | exact Or.inl rfl | (with_reducible refine Fr.setCell ?_ ?_ _) | (with_reducible refine Fr.drewN ?_ _) | (with_reducible refine Fr.drew ?_))))
  have HV := Lib.hid hv
  have HR := Lib.hid (show RcvAt (w.setCell ⟨p, 0, none⟩ (.int .i64 ((k : Int) + 1))) p (k + 1) by have h' : w.heap[p]? = some (.cells #[.int .i64 (k : Int)] 143 (0, 0)) := h; unfold RcvAt; (apply row_trans; focus (repeat (first | (with_reducible exact h') | (with_reducible apply row_set) | (with_reducible apply row_drewN) | (with_reducible apply row_drew)))); rfl)
  obtain ⟨a, cap, rfl⟩ := hv.slice
  clear hv h
  go_enter Try.func98, Try.ntmps98
  go_wp2_with (go_at_call 44; refine (clone_any _ d _ (by exact HV.out) hd).mono ?_; rintro e w1 ⟨v1, rfl, hO1, hB1⟩; have HO1 := Lib.hid hO1; have HB1 := Lib.hid hB1; clear hO1 hB1)
  go_ret2
  refine ⟨_, rfl, by simpa using HO1.out, (HB1.out.block p (by simpa using hlt)).trans HR.out, HF.out.of_below HB1.out⟩
theorem receive_yes (p k : Nat) (v : Value) (d : Bytes) (w : World) (h : RcvAt w p k) (hk : k < 1000000000000) (hv : By w v d) (hd : d.length ≤ 1048576) (hn : ∀ b, v.ownBlock = some b → b ≠ p) :
    Calls Try.prog 98 #[.pointer (some ⟨p, 0, none⟩), .int .i64 ((k : Int) % 256), v] w fun e w' => ∃ v', e = .returned (.tuple #[v', .bool true]) ∧ Ow 5 w' w.heap.size v' d ∧ RcvAt w' p (k + 1) ∧ Fr (fun x => x = p) w w' :=
  receive_yes' p k v d w h hk (Rd.keep hv fun b hb _ => heap_setCell_other w _ b _ (hn b hb)) hd
end Go.Proofs.Ytcocnfbhileheaa
