/- Credits in memory: NewGiver. -/
import Derived.Test.YtcocnfbhileheaaPorK
namespace Go.Proofs.Ytcocnfbhileheaa
open Go.RowKit

/-- the givers behind j rounds -/
def givTo (rooms : List Nat) (j : Nat) : List Giv := (List.range rooms.length).map fun i => if i < j then ⟨rooms.getD i 0, 0, 0⟩ else ⟨0, 0, 0⟩
theorem givTo_length (rooms : List Nat) (j : Nat) : (givTo rooms j).length = rooms.length := by simp [givTo]
theorem givTo_zero (rooms : List Nat) : givTo rooms 0 = List.replicate rooms.length ⟨0, 0, 0⟩ := by
  apply List.ext_getElem
  · simp [givTo]
  · intro i h1 h2; simp [givTo]
theorem givTo_all (rooms : List Nat) : givTo rooms rooms.length = rooms.map fun r => ⟨r, 0, 0⟩ := by
  apply List.ext_getElem
  · simp [givTo]
  · intro i h1 h2
    have h3 : i < rooms.length := by simpa [givTo] using h1
    simp [givTo, List.getD, h3]
theorem givTo_get {rooms : List Nat} {j : Nat} (hj : j < rooms.length) : (givTo rooms j)[j]? = some ⟨0, 0, 0⟩ := by
  unfold givTo
  rw [List.getElem?_map, List.getElem?_range hj, Option.map_some, if_neg (by omega)]
theorem givTo_set {rooms : List Nat} {j : Nat} : (givTo rooms j).set j ⟨rooms.getD j 0, 0, 0⟩ = givTo rooms (j + 1) := by
  apply List.ext_getElem?
  intro i
  rw [List.getElem?_set]
  unfold givTo
  by_cases hij : j = i
  · subst hij
    rw [if_pos rfl]
    by_cases hl : j < rooms.length
    · rw [if_pos (by simpa using hl), List.getElem?_map, List.getElem?_range hl, Option.map_some, if_pos (by omega)]
    · rw [if_neg (by simpa using hl), List.getElem?_map, List.getElem?_eq_none (by simp; omega)]; rfl
  · rw [if_neg hij, List.getElem?_map, List.getElem?_map]
    by_cases hl : i < rooms.length
    · rw [List.getElem?_range hl, Option.map_some, Option.map_some]
      by_cases h : i < j
      · simp only [if_pos h, if_pos (show i < j + 1 by omega)]
      · simp only [if_neg h, if_neg (show ¬ i < j + 1 by omega)]
    · rw [List.getElem?_eq_none (by simp; omega)]; rfl
set_option maxRecDepth 100000 in
set_option maxHeartbeats 4000000 in
theorem newGiv_any {rooms : List Nat} {rb ro rc : Nat} (w : World) (h1 : 1 ≤ rooms.length) (h2 : rooms.length ≤ 4) (hr : ∀ x ∈ rooms, 1 ≤ x ∧ x ≤ 64) (hcell : ∀ (k x : Nat), rooms[k]? = some x → w.cell? ⟨rb, ro + k, none⟩ = some (.int .i64 (x : Int))) :
    Calls Try.prog 70 #[.slice (some ⟨rb, ro, none⟩) rooms.length rc] w fun e w' => ∃ p, e = .returned (.tuple #[.pointer (some ⟨p, 0, none⟩), .int .i64 0]) ∧ Made w (tGiv p (rooms.map fun r => ⟨r, 0, 0⟩)) w' := by
  have hbl : rb < w.heap.size := by
    obtain ⟨x, hx⟩ : ∃ x, rooms[0]? = some x := ⟨rooms[0], List.getElem?_eq_getElem h1⟩
    exact World.block_lt_of_cell? w _ (hcell 0 x hx)
  have HC := Lib.hid hcell
  have HR := Lib.hid hr
  clear hcell hr
  go_enter Try.func70, Try.ntmps70
  go_wp2_with (at_make; refine wpList_mkH (E := eGiv) slGiv rfl (u := .int .i64 0) (a0 := ⟨0, 0, 0⟩) (fun _ _ => rfl) rfl _ _ rfl rooms.length rfl rfl (by omega) (by unfold maxLen; omega) ?_; intro w1 hb1 hs1; have HB1 := Lib.hid hb1; have HS1 := Lib.hid hs1; clear hb1 hs1)
  have hh := ((Held.start0 (fun _ => False) (fun _ => False) (fun _ f => f.elim) w).add HB1.out (T := tSq eGiv 155 (.slice (some ⟨w.heap.size, 0, none⟩) rooms.length rooms.length) (List.replicate rooms.length ⟨0, 0, 0⟩)) HS1.out).new (.cells #[.slice (some ⟨w.heap.size, 0, none⟩) rooms.length rooms.length] 165)
  have hsz := (Sq.free HS1.out).2.2.1
  have HH := Lib.hid (hh.pick [1, 0] [tBlk w1.heap.size (.cells #[.slice (some ⟨w.heap.size, 0, none⟩) rooms.length rooms.length] 165), tSq eGiv 155 (.slice (some ⟨w.heap.size, 0, none⟩) rooms.length rooms.length) (List.replicate rooms.length ⟨0, 0, 0⟩)] (by simp) rfl)
  clear hh
  go_loopw [22, 5, 6] (fun i _ _ wr => ∃ k : Nat, k ≤ rooms.length ∧ i = .int .i64 (k : Int) ∧ Hid (Held (fun _ => False) (fun _ => False) w [tBlk w1.heap.size (.cells #[.slice (some ⟨w.heap.size, 0, none⟩) rooms.length rooms.length] 165), tSq eGiv 155 (.slice (some ⟨w.heap.size, 0, none⟩) rooms.length rooms.length) (givTo rooms k)] wr)) (fun i _ _ _ => rooms.length - (intOf i).toNat)
  case atStart => exact ⟨0, Nat.zero_le _, rfl, Lib.hid (by rw [givTo_zero]; exact HH.out)⟩
  case round =>
    clear HH
    obtain ⟨k, hk, rfl, HK⟩ := hrel
    by_cases hlt : k < rooms.length
    · have hx : rooms[k]? = some (rooms.getD k 0) := by simp [List.getD, hlt]
      have hrk := HR.out _ (List.mem_of_getElem? hx)
      have hck := (World.cell?_of_block (HK.out.below.block rb hbl)).trans (HC.out k _ hx)
      have hc0 := blk_cell (i := 0) (HK.out.blk 0 rfl) rfl
      obtain ⟨_, _, hsq⟩ := HK.out.get 1 rfl
      have hfr := (Sq.free hsq).2.2.2
      have hg0 := (giv_cells hsq (givTo_get hlt)).1
      rw [Nat.zero_add] at hg0
      have HS := Lib.hid (HK.out.put pure_giv 1 rfl (c := k) (j := 0) (a := ⟨0, 0, 0⟩) (a' := ⟨rooms.getD k 0, 0, 0⟩) (u := .int .i64 ((rooms.getD k 0 : Nat) : Int)) (givTo_get hlt) (by decide) rfl)
      obtain ⟨x, hxx⟩ : ∃ x, x = rooms.getD k 0 := ⟨_, rfl⟩
      have HX := Lib.hid hxx
      rw [← hxx] at hrk hck
      obtain ⟨hx1, hx2⟩ := hrk
      clear hx hsq hxx
      have hz : w1.heap.size ≠ w.heap.size := by omega
      go_wp2_with fail
      go_roundw
      case rel =>
        refine ⟨k + 1, by omega, by go_num, Lib.hid ?_⟩
        rw [← givTo_set, HX.out]
        have := HS.out
        simpa [eGiv, ePure] using this
      case measure => simp [intOf]; omega
    · obtain rfl : rooms.length = k := by omega
      go_wp2_with fail
      go_ret2
      refine ⟨w1.heap.size, rfl, Made.of ?_⟩
      have := HK.out
      rw [givTo_all] at this
      exact Held.shut (f := fun v : Value => [tBlk w1.heap.size (.cells #[v] 165), tSq eGiv 155 v (rooms.map fun r => ⟨r, 0, 0⟩)]) (ts := []) this
end Go.Proofs.Ytcocnfbhileheaa
