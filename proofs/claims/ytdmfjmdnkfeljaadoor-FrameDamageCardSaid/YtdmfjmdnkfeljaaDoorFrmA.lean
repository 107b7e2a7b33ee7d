/- The contracts of linecode's Control, Data and Value. The table of symbols must lie as laid. -/
import Derived.Test.YtdmfjmdnkfeljaaDoorMgC
import Derived.Test.YtdmfjmdnkfeljaaDoorCrcK
import Derived.Test.YtdmfjmdnkfeljaaDoorMgB
import Derived.Deep.QuietTactic
import Derived.BigQuiet
import Derived.IntWalk
import Derived.Deep.MidRow
import Derived.Deep.RegionHeld3
namespace Go.Proofs.YtdmfjmdnkfeljaaDoor
open Go.RowKit

/-- the table of the valid symbols lies in its block -/
def Val (w : World) : Prop := ∀ k, k < 20 → w.cell? ⟨0, k, none⟩ = some (.int .u8 (U (sym k)))
theorem Val.keep {w w' : World} (h : Val w) (hk : 0 < w.heap.size → w'.heap[0]? = w.heap[0]?) : Val w' := fun r hr => by
  have := h r hr
  have hlt := World.block_lt_of_cell? w _ this
  exact (World.cell?_of_block (hk hlt)).trans this
theorem Val.below {w w' : World} (h : Val w) (hb : Below w.heap.size w w') : Val w' := h.keep fun hk => hb.block _ hk
/-- both tables -/
structure Tabs (w : World) : Prop where
  tab : Tab w
  val : Val w
theorem Tabs.below {w w' : World} (h : Tabs w) (hb : Below w.heap.size w w') : Tabs w' := ⟨h.tab.below hb, h.val.below hb⟩
theorem sym_lt : ∀ (s : Byte) (k : Fin 20), k.val < idx s → sym k.val ≠ s := by decide +kernel
theorem sym_16 : (U (sym 16)) = 49 ∧ (U (sym 17)) = 50 ∧ (U (sym 18)) = 52 := by decide
set_option maxHeartbeats 1000000 in
theorem control_0 (w : World) (hv : Val w) : Calls Tryd.prog 31 #[.int .i64 0] w fun e w' => e = .returned (.tuple #[.int .u8 49, .int .i64 0]) ∧ w = w' := by
  have h := hv 16 (by decide)
  rw [sym_16.1] at h
  clear hv
  go_enter Tryd.func31, Tryd.ntmps31
  go_wp2_with fail
  go_ret2
  exact ⟨rfl, rfl⟩
set_option maxHeartbeats 1000000 in
theorem control_1 (w : World) (hv : Val w) : Calls Tryd.prog 31 #[.int .i64 1] w fun e w' => e = .returned (.tuple #[.int .u8 50, .int .i64 0]) ∧ w = w' := by
  have h := hv 17 (by decide)
  rw [sym_16.2.1] at h
  clear hv
  go_enter Tryd.func31, Tryd.ntmps31
  go_wp2_with fail
  go_ret2
  exact ⟨rfl, rfl⟩
set_option maxHeartbeats 1000000 in
theorem control_2 (w : World) (hv : Val w) : Calls Tryd.prog 31 #[.int .i64 2] w fun e w' => e = .returned (.tuple #[.int .u8 52, .int .i64 0]) ∧ w = w' := by
  have h := hv 18 (by decide)
  rw [sym_16.2.2] at h
  clear hv
  go_enter Tryd.func31, Tryd.ntmps31
  go_wp2_with fail
  go_ret2
  exact ⟨rfl, rfl⟩
set_option maxHeartbeats 1000000 in
theorem data_any (n : Nat) (hn : n < 16) (w : World) (hv : Val w) : Calls Tryd.prog 32 #[.int .i64 (n : Int)] w fun e w' => e = .returned (.tuple #[.int .u8 (U (sym n)), .int .i64 0]) ∧ w = w' := by
  have h := hv n (by omega)
  clear hv
  go_enter Tryd.func32, Tryd.ntmps32
  go_wp2_with fail
  go_ret2
  exact ⟨rfl, rfl⟩
def vsArr : Array Value := (cu vs).toArray
theorem run_index_vs (k : Nat) (hk : k < 20) (w : World) : (Instr.index 84 (.agg vsArr) (.int .i64 (k : Int))).run Tryd.prog w = .ok (.int .u8 (U (sym k))) w := by
  have : k = 0 ∨ k = 1 ∨ k = 2 ∨ k = 3 ∨ k = 4 ∨ k = 5 ∨ k = 6 ∨ k = 7 ∨ k = 8 ∨ k = 9 ∨ k = 10 ∨ k = 11 ∨ k = 12 ∨ k = 13 ∨ k = 14 ∨ k = 15 ∨ k = 16 ∨ k = 17 ∨ k = 18 ∨ k = 19 := by omega
  rcases this with rfl | rfl | rfl | rfl | rfl | rfl | rfl | rfl | rfl | rfl | rfl | rfl | rfl | rfl | rfl | rfl | rfl | rfl | rfl | rfl <;> rfl
theorem cu_vs : ∀ (k : Fin 20), (cu vs)[k.val]? = some (.int .u8 (U (sym k.val))) := by intro ⟨k, hk⟩; rw [cu, List.getElem?_map]; unfold sym List.getD; rw [List.getElem?_eq_getElem (show k < vs.length from hk)]; rfl
theorem Val.range {w : World} (hv : Val w) : w.rangeAt 0 0 (cu vs) := fun j v hj => by
  have hl : j < 20 := by have := lt_of_get hj; rw [cu_length] at this; exact this
  rw [cu_vs ⟨j, hl⟩] at hj
  rw [Nat.zero_add, ← Option.some.inj hj]
  exact hv j hl
theorem under20 : Tryd.prog.underlying 84 = some (.array 20 5) := Tryd.underlying84
theorem size20 : (Tryd.prog.info? 84).map (·.size) = some (cu vs).length := by kernel_rfl
/-- what Value returns -/
def valV (s : Byte) : Value := if idx s < 16 then .tuple #[.int .i64 (idx s : Int), .bool false, .int .i64 0] else if idx s < 20 then .tuple #[.int .i64 ((idx s : Int) - 16), .bool true, .int .i64 0] else .tuple #[.int .i64 0, .bool false, .int .i64 3]
set_option maxHeartbeats 4000000 in
theorem value_any (s : Byte) (w : World) (hv : Val w) : Calls Tryd.prog 51 #[.int .u8 (U s)] w fun e w' => e = .returned (valV s) ∧ w = w' := by
  have HV := Lib.hid hv.range
  have hi := idx_le s
  clear hv
  go_enter Tryd.func51, Tryd.ntmps51
  go_wp2_with (refine wpList_load_mid rfl 84 (.global 0) rfl 0 0 (by rfl) (cu vs) _ HV.out under20 rfl size20 ?_)
  go_loop [8] (fun i => ∃ k : Nat, k ≤ idx s ∧ i = .int .i64 (k : Int)) (fun i => 20 - (intOf i).toNat)
  case atStart => exact ⟨0, by omega, by go_num⟩
  case round =>
    obtain ⟨k, hk, rfl⟩ := hrel
    by_cases hlt : k < 20
    · have hix := run_index_vs k hlt w
      unfold vsArr at hix
      by_cases he : k = idx s
      · have hsy : sym k = s := by rw [he]; exact sym_idx s (by omega)
        have hne : (sym k != s) = false := by rw [hsy]; simp
        have HE := Lib.hid he
        by_cases h16 : k < 16
        · have HVV : Hid (valV s = .tuple #[.int .i64 (k : Int), .bool false, .int .i64 0]) := Lib.hid (by unfold valV; rw [← HE.out, if_pos h16])
          clear he hsy
          go_wp2_with fail
          go_ret3
          exact ⟨by rw [HVV.out]; rfl, rfl⟩
        · have HVV : Hid (valV s = .tuple #[.int .i64 ((k : Int) - 16), .bool true, .int .i64 0]) := Lib.hid (by unfold valV; rw [← HE.out, if_neg h16, if_pos hlt])
          clear he hsy
          go_wp2_with fail
          go_ret3
          exact ⟨by rw [HVV.out]; rfl, rfl⟩
      · have hsy := sym_lt s ⟨k, hlt⟩ (by show k < idx s; omega)
        have hne : (sym k != s) = true := by simpa using hsy
        clear hsy
        go_wp2_with fail
        go_round
        case rel => exact ⟨k + 1, by omega, by go_num⟩
        case measure => simp [intOf]; omega
    · have HVV : Hid (valV s = .tuple #[.int .i64 0, .bool false, .int .i64 3]) := Lib.hid (by unfold valV; rw [if_neg (by omega), if_neg (by omega)])
      go_wp2_with fail
      go_ret3
      exact ⟨by rw [HVV.out]; rfl, rfl⟩
end Go.Proofs.YtdmfjmdnkfeljaaDoor
