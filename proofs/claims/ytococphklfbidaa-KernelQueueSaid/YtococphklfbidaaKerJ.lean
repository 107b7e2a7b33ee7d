/- The equality of two events; awake. -/
import Derived.Test.YtococphklfbidaaKerI
import Derived.Laws.StructEq
namespace Go.Proofs.Ytococphklfbidaa
open Go.RowKit Go.Maps

def eqB (a b : Ev) : Bool := a.at' == b.at' && a.kind == b.kind && a.node == b.node && a.number == b.number && a.arg == b.arg
theorem eqB_iff {a b : Ev} : eqB a b = true ↔ a = b := by
  unfold eqB
  obtain ⟨a1, a2, a3, a4, a5⟩ := a
  obtain ⟨b1, b2, b3, b4, b5⟩ := b
  simp [and_assoc]
theorem eqB_self (a : Ev) : eqB a a = true := eqB_iff.2 rfl
theorem run_eqEv (a b : Ev) (w : World) : (binOp .eql 32 (.agg #[.int .i64 a.at', .int .i64 a.kind, .int .i64 a.node, .int .i64 a.number, .int .i64 a.arg]) (.agg #[.int .i64 b.at', .int .i64 b.kind, .int .i64 b.node, .int .i64 b.number, .int .i64 b.arg])).run Try.prog w = .ok (.bool (eqB a b)) w := by
  have hS : Try.prog.underlying 32 = some (.struct (Try.prog.fieldsOf 32)) := by kernel_rfl
  have hp : Try.prog.stoodInHeld 32 = false := by kernel_rfl
  have u3 := Try.underlying3
  rw [run_eql_struct, show (10000 : Nat) = 9999 + 1 from rfl, run_equalIn_agg w 9999 32 _ _ hS hp]
  simp only [Program.fieldsOf, Try.underlying32]
  unfold eqB
  go_simp
  by_cases h1 : a.at' = b.at' <;> by_cases h2 : a.kind = b.kind <;> by_cases h3 : a.node = b.node <;> by_cases h4 : a.number = b.number <;> by_cases h5 : a.arg = b.arg <;> simp [h1, h2, h3, h4, h5]
theorem run_neqEv (a b : Ev) (w : World) : (binOp .neq 32 (.agg #[.int .i64 a.at', .int .i64 a.kind, .int .i64 a.node, .int .i64 a.number, .int .i64 a.arg]) (.agg #[.int .i64 b.at', .int .i64 b.kind, .int .i64 b.node, .int .i64 b.number, .int .i64 b.arg])).run Try.prog w = .ok (.bool (!eqB a b)) w := by
  have h := run_eqEv a b w
  rw [run_eql_struct] at h
  rw [run_neq_struct]
  cases hr : (Op.equalIn 10000 32 (.agg #[.int .i64 a.at', .int .i64 a.kind, .int .i64 a.node, .int .i64 a.number, .int .i64 a.arg]) (.agg #[.int .i64 b.at', .int .i64 b.kind, .int .i64 b.node, .int .i64 b.number, .int .i64 b.arg])).run Try.prog w with
  | ok v w' => rw [hr] at h; simp at h; simp [h]
  | _ => rw [hr] at h; simp at h
theorem eqGuardEv : Try.prog.eqGuardType Try.prog.depth 32 = false := by kernel_rfl
def aw1 : Qu := ⟨0, 1, [⟨5, 1, 0, 1, 7⟩]⟩
def aw2 : Qu := ⟨0, 2, [⟨3, 2, 1, 2, 8⟩, ⟨5, 1, 0, 1, 7⟩]⟩
def aw3 : Qu := ⟨0, 3, [⟨3, 2, 1, 2, 8⟩, ⟨5, 0, 2, 3, 9⟩, ⟨5, 1, 0, 1, 7⟩]⟩
theorem aw_1 : Qu.new.push 5 1 0 7 = (aw1, 1, 0) := rfl
theorem aw_2 : aw1.push 3 2 1 8 = (aw2, 2, 0) := rfl
theorem aw_3 : aw2.push 5 0 2 9 = (aw3, 3, 0) := rfl
theorem aw1_ok : aw1.Ok := by have := Qu.push_ok Qu.new_ok (a := 5) (k := 1) (n := 0) (g := 7) (by omega); rw [aw_1] at this; exact this
theorem aw2_ok : aw2.Ok := by have := Qu.push_ok aw1_ok (a := 3) (k := 2) (n := 1) (g := 8) (by omega); rw [aw_2] at this; exact this
theorem aw3_ok : aw3.Ok := by have := Qu.push_ok aw2_ok (a := 5) (k := 0) (n := 2) (g := 9) (by omega); rw [aw_3] at this; exact this
set_option maxRecDepth 100000 in
set_option maxHeartbeats 4000000 in
theorem awake_any (w : World) : Calls Try.prog 11 #[] w fun e w' => e = .returned (.bool true) ∧ Below w.heap.size w w' := by
  have HS := Lib.hid (Held.start0 (fun _ => False) (fun _ => False) (fun _ f _ => f) w)
  have hE : ∀ w, (binOp .eql 32 (.agg #[.int .i64 5, .int .i64 1, .int .i64 0, .int .i64 1, .int .i64 7]) (.agg #[.int .i64 5, .int .i64 1, .int .i64 0, .int .i64 1, .int .i64 7])).run Try.prog w = .ok (.bool true) w := fun w => run_eqEv ⟨5, 1, 0, 1, 7⟩ ⟨5, 1, 0, 1, 7⟩ w
  have hG := eqGuardEv
  go_enter Try.func11, Try.ntmps11
  go_wp2_with fail
  refine (new_h HS.out).mono ?_
  rintro e w1 ⟨p, rfl, h⟩
  have H1 := Lib.hid (show Held (fun _ => False) (fun _ => False) w [tQu p Qu.new] w1 from h); clear h
  go_wp2_with fail
  refine (push_h H1.out 0 rfl Qu.new_ok (by decide) 5 1 0 7).mono ?_
  rintro e w2 ⟨rfl, h⟩
  rw [aw_1] at h ⊢
  have H2 := Lib.hid (show Held (fun _ => False) (fun _ => False) w [tQu p aw1] w2 from h); clear h
  go_wp2_with fail
  refine (push_h H2.out 0 rfl aw1_ok (by decide) 3 2 1 8).mono ?_
  rintro e w3 ⟨rfl, h⟩
  rw [aw_2] at h ⊢
  have H3 := Lib.hid (show Held (fun _ => False) (fun _ => False) w [tQu p aw2] w3 from h); clear h
  go_wp2_with fail
  refine (push_h H3.out 0 rfl aw2_ok (by decide) 5 0 2 9).mono ?_
  rintro e w4 ⟨rfl, h⟩
  rw [aw_3] at h ⊢
  have H4 := Lib.hid (show Held (fun _ => False) (fun _ => False) w [tQu p aw3] w4 from h); clear h
  go_wp2_with fail
  refine (pop_h H4.out 0 rfl aw3_ok (by decide)).mono ?_
  rintro e w5 ⟨rfl, h⟩
  have H5 := Lib.hid (show Held (fun _ => False) (fun _ => False) w [tQu p ⟨3, 3, [⟨5, 0, 2, 3, 9⟩, ⟨5, 1, 0, 1, 7⟩]⟩] w5 from h); clear h
  rw [show aw3.pop = (⟨3, 3, [⟨5, 0, 2, 3, 9⟩, ⟨5, 1, 0, 1, 7⟩]⟩, ⟨3, 2, 1, 2, 8⟩, true) from rfl]
  go_wp2_with fail
  have H5b := Lib.hid (show Held (fun _ => False) (fun _ => False) w [tQu p ⟨3, 3, [⟨5, 0, 2, 3, 9⟩, ⟨5, 1, 0, 1, 7⟩]⟩, tBlk w5.heap.size (.cells #[.int .i64 3, .int .i64 2, .int .i64 1, .int .i64 2, .int .i64 8] 32)] _ from H5.out.new (.cells #[.int .i64 3, .int .i64 2, .int .i64 1, .int .i64 2, .int .i64 8] 32))
  refine (pop_h H5b.out 0 rfl (Qu.tail_ok aw3_ok) (by decide)).mono ?_
  rintro e w6 ⟨rfl, h⟩
  have H6 := Lib.hid (show Held (fun _ => False) (fun _ => False) w [tQu p ⟨5, 3, [⟨5, 1, 0, 1, 7⟩]⟩, tBlk w5.heap.size (.cells #[.int .i64 3, .int .i64 2, .int .i64 1, .int .i64 2, .int .i64 8] 32)] w6 from h); clear h
  rw [show (Qu.mk 3 3 [⟨5, 0, 2, 3, 9⟩, ⟨5, 1, 0, 1, 7⟩]).pop = (⟨5, 3, [⟨5, 1, 0, 1, 7⟩]⟩, ⟨5, 0, 2, 3, 9⟩, true) from rfl]
  go_wp2_with fail
  have H6b := Lib.hid (show Held (fun _ => False) (fun _ => False) w [tQu p ⟨5, 3, [⟨5, 1, 0, 1, 7⟩]⟩, tBlk w5.heap.size (.cells #[.int .i64 3, .int .i64 2, .int .i64 1, .int .i64 2, .int .i64 8] 32), tBlk w6.heap.size (.cells #[.int .i64 5, .int .i64 0, .int .i64 2, .int .i64 3, .int .i64 9] 32)] _ from H6.out.new (.cells #[.int .i64 5, .int .i64 0, .int .i64 2, .int .i64 3, .int .i64 9] 32))
  refine (pop_h H6b.out 0 rfl (Qu.tail_ok (Qu.tail_ok aw3_ok)) (by decide)).mono ?_
  rintro e w7 ⟨rfl, h⟩
  have H7 := Lib.hid (show Held (fun _ => False) (fun _ => False) w [tQu p ⟨5, 3, []⟩, tBlk w5.heap.size (.cells #[.int .i64 3, .int .i64 2, .int .i64 1, .int .i64 2, .int .i64 8] 32), tBlk w6.heap.size (.cells #[.int .i64 5, .int .i64 0, .int .i64 2, .int .i64 3, .int .i64 9] 32)] w7 from h); clear h
  rw [show (Qu.mk 5 3 [⟨5, 1, 0, 1, 7⟩]).pop = (⟨5, 3, []⟩, ⟨5, 1, 0, 1, 7⟩, true) from rfl]
  have ba := H7.out.blk 1 rfl; have bb := H7.out.blk 2 rfl
  have a3 := blk_cell (i := 3) ba rfl; have b3 := blk_cell (i := 3) bb rfl
  have la := lt_of_block ba; have lb := lt_of_block bb
  clear ba bb
  have H7b := Lib.hid (show Held (fun _ => False) (fun _ => False) w [tQu p ⟨5, 3, []⟩, tBlk w5.heap.size (.cells #[.int .i64 3, .int .i64 2, .int .i64 1, .int .i64 2, .int .i64 8] 32), tBlk w6.heap.size (.cells #[.int .i64 5, .int .i64 0, .int .i64 2, .int .i64 3, .int .i64 9] 32)] (w7.alloc (.cells #[.int .i64 5, .int .i64 1, .int .i64 0, .int .i64 1, .int .i64 7] 32)) from H7.out.alloc _)
  go_wp2_with (first
    | (go_at_call 15; refine (len_h H7b.out 0 rfl).mono ?_; rintro e w8 ⟨rfl, rfl⟩)
    | (go_at_call 17; refine (now_h H7b.out 0 rfl).mono ?_; rintro e w8 ⟨rfl, rfl⟩))
  go_ret
  exact ⟨rfl, H7b.out.below⟩
end Go.Proofs.Ytococphklfbidaa
