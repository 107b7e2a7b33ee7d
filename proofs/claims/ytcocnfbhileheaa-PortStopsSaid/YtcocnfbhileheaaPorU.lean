/- A port in memory: what configurations are valid. -/
import Derived.Test.YtcocnfbhileheaaPorT
import Derived.Test.YtcocnfbhileheaaMkr
namespace Go.Proofs.Ytcocnfbhileheaa
open Go.RowKit

abbrev cfgV (inc : Int) (ra : Option Addr) (n rc : Nat) (wi ti de : Int) : Value := .agg #[.int .i64 inc, .slice ra n rc, .int .i64 wi, .int .i64 ti, .int .i64 de]
/-- the numbers of a slice, as the walk reads them -/
def Nums (w : World) (ra : Option Addr) (rooms : List Int) : Prop := ∀ (k : Nat) (x : Int), rooms[k]? = some x → ∃ b o, ra = some ⟨b, o, none⟩ ∧ w.cell? ⟨b, o + k, none⟩ = some (.int .i64 x)
theorem Nums.below {w w' : World} {ra : Option Addr} {rooms : List Int} (h : Nums w ra rooms) (hb : Below w.heap.size w w') : Nums w' ra rooms := fun k x hk => by
  obtain ⟨b, o, e, hc⟩ := h k x hk
  exact ⟨b, o, e, (World.cell?_of_block (hb.block b (World.block_lt_of_cell? w _ hc))).trans hc⟩
structure CfgOk (inc : Int) (rooms : List Int) (wi ti de : Int) : Prop where
  n1 : 1 ≤ rooms.length
  n4 : rooms.length ≤ 4
  rm : ∀ x ∈ rooms, 1 ≤ x ∧ x ≤ 64
  i1 : 1 ≤ inc
  i2 : inc ≤ 1099511627775
  w1 : 1 ≤ wi
  w2 : wi ≤ 128
  t1 : 1 ≤ ti
  t2 : ti ≤ 1000
  d1 : 1 ≤ de
  d2 : de ≤ 1000
set_option maxRecDepth 100000 in
set_option maxHeartbeats 4000000 in
theorem valid_yes {inc wi ti de : Int} {rooms : List Int} {ra : Option Addr} {rc : Nat} (w : World) (hok : CfgOk inc rooms wi ti de) (hr : Nums w ra rooms) :
    Calls Try.prog 38 #[cfgV inc ra rooms.length rc wi ti de] w fun e w' => e = .returned (.bool true) ∧ Below w.heap.size w w' := by
  obtain ⟨n1, n4, rm, i1, i2, w1, w2, t1, t2, d1, d2⟩ := hok
  have HR := Lib.hid hr; have HM := Lib.hid rm
  clear hr rm
  go_enter Try.func38, Try.ntmps38
  go_wp2_with fail
  generalize hwx : w.alloc _ = wx
  have HB := Lib.hid (show Below w.heap.size w wx by rw [← hwx]; exact below_alloc w _)
  have hrow : wx.heap[w.heap.size]? = some (.cells #[.int .i64 inc, .slice ra rooms.length rc, .int .i64 wi, .int .i64 ti, .int .i64 de] 26) := by rw [← hwx]; exact heap_alloc_new w _
  have c0 := blk_cell (i := 0) hrow rfl; have c1 := blk_cell (i := 1) hrow rfl; have c2 := blk_cell (i := 2) hrow rfl; have c3 := blk_cell (i := 3) hrow rfl; have c4 := blk_cell (i := 4) hrow rfl
  clear hwx hrow
  go_loop [18, 4] (fun i _ => ∃ k : Nat, k ≤ rooms.length ∧ i = .int .i64 (k : Int)) (fun i _ => rooms.length - (intOf i).toNat)
  case atStart => exact ⟨0, Nat.zero_le _, rfl⟩
  case round =>
    obtain ⟨k, hk, rfl⟩ := hrel
    by_cases hlt : k < rooms.length
    · have hx : rooms[k]? = some (rooms.getD k 0) := getD_of hlt
      obtain ⟨b, o, e, hc⟩ := HR.out.below HB.out k _ hx
      subst e
      obtain ⟨m1, m2⟩ := HM.out _ (List.mem_of_getElem? hx)
      generalize rooms.getD k 0 = x at hc m1 m2 hx
      clear hx
      go_wp2_with fail
      go_round
      case rel => exact ⟨k + 1, by omega, by go_num⟩
      case measure => simp [intOf]; omega
    · obtain rfl : rooms.length = k := by omega
      go_wp2_with fail
      go_ret
      exact ⟨rfl, HB.out⟩
set_option maxRecDepth 100000 in
set_option maxHeartbeats 8000000 in
theorem valid_no {inc wi ti de : Int} {rooms : List Int} {ra : Option Addr} {rc : Nat} (w : World) (hl : rooms.length ≤ 1000000) (hok : ¬ CfgOk inc rooms wi ti de) (hr : Nums w ra rooms) :
    Calls Try.prog 38 #[cfgV inc ra rooms.length rc wi ti de] w fun e w' => e = .returned (.bool false) ∧ Below w.heap.size w w' := by
  by_cases hn : rooms.length < 1 ∨ (1 ≤ rooms.length ∧ 4 < rooms.length)
  · clear hok hr
    rcases hn with h1 | ⟨h1, h2⟩
    all_goals
      go_enter Try.func38, Try.ntmps38
      go_wp2_with fail
      go_ret
      exact ⟨rfl, by (repeat (first | (with_reducible exact Below.refl _ _) | (with_reducible refine Bw.alloc ?_ _) | (with_reducible refine Bw.drewN ?_ _) | (with_reducible refine Bw.drew ?_)))⟩
  · have n1 : 1 ≤ rooms.length := by omega
    have n4 : rooms.length ≤ 4 := by omega
    have HR := Lib.hid hr
    have HBAD := Lib.hid (fun (hm : ∀ x ∈ rooms, 1 ≤ x ∧ x ≤ 64) => show inc < 1 ∨ (1 ≤ inc ∧ 1099511627775 < inc) ∨ (1 ≤ inc ∧ inc ≤ 1099511627775 ∧ wi < 1) ∨ (1 ≤ inc ∧ inc ≤ 1099511627775 ∧ 1 ≤ wi ∧ 128 < wi) ∨ (1 ≤ inc ∧ inc ≤ 1099511627775 ∧ 1 ≤ wi ∧ wi ≤ 128 ∧ ti < 1) ∨
        (1 ≤ inc ∧ inc ≤ 1099511627775 ∧ 1 ≤ wi ∧ wi ≤ 128 ∧ 1 ≤ ti ∧ 1000 < ti) ∨ (1 ≤ inc ∧ inc ≤ 1099511627775 ∧ 1 ≤ wi ∧ wi ≤ 128 ∧ 1 ≤ ti ∧ ti ≤ 1000 ∧ de < 1) ∨ (1 ≤ inc ∧ inc ≤ 1099511627775 ∧ 1 ≤ wi ∧ wi ≤ 128 ∧ 1 ≤ ti ∧ ti ≤ 1000 ∧ 1 ≤ de ∧ 1000 < de) from
      Decidable.byContradiction fun hc => hok ⟨n1, n4, hm, by omega, by omega, by omega, by omega, by omega, by omega, by omega, by omega⟩)
    clear hr hn hok
    go_enter Try.func38, Try.ntmps38
    go_wp2_with fail
    generalize hwx : w.alloc _ = wx
    have HB := Lib.hid (show Below w.heap.size w wx by rw [← hwx]; exact below_alloc w _)
    have hrow : wx.heap[w.heap.size]? = some (.cells #[.int .i64 inc, .slice ra rooms.length rc, .int .i64 wi, .int .i64 ti, .int .i64 de] 26) := by rw [← hwx]; exact heap_alloc_new w _
    have c0 := blk_cell (i := 0) hrow rfl; have c1 := blk_cell (i := 1) hrow rfl; have c2 := blk_cell (i := 2) hrow rfl; have c3 := blk_cell (i := 3) hrow rfl; have c4 := blk_cell (i := 4) hrow rfl
    clear hwx hrow
    go_loop [18, 4] (fun i _ => ∃ k : Nat, k ≤ rooms.length ∧ i = .int .i64 (k : Int) ∧ Hid (∀ x ∈ rooms.take k, 1 ≤ x ∧ x ≤ 64)) (fun i _ => rooms.length - (intOf i).toNat)
    case atStart => exact ⟨0, Nat.zero_le _, rfl, Lib.hid (by simp)⟩
    case round =>
      obtain ⟨k, hk, rfl, HM⟩ := hrel
      by_cases hlt : k < rooms.length
      · have hx : rooms[k]? = some (rooms.getD k 0) := getD_of hlt
        obtain ⟨b, o, e, hc⟩ := HR.out.below HB.out k _ hx
        subst e
        have HX := Lib.hid (show rooms.take (k + 1) = rooms.take k ++ [rooms.getD k 0] by rw [List.take_add_one, hx]; rfl)
        generalize rooms.getD k 0 = x at hc hx HX
        clear hx
        by_cases hb : x < 1 ∨ (1 ≤ x ∧ 64 < x)
        · rcases hb with m1 | ⟨m1, m2⟩
          all_goals
            go_wp2_with fail
            go_ret
            exact ⟨rfl, HB.out⟩
        · have m1 : 1 ≤ x := by omega
          have m2 : x ≤ 64 := by omega
          clear hb
          go_wp2_with fail
          go_round
          case rel => exact ⟨k + 1, by omega, by go_num, Lib.hid fun y hy => by
              rw [HX.out] at hy
              rcases List.mem_append.1 hy with hy | hy
              · exact HM.out y hy
              · obtain rfl := List.mem_singleton.1 hy; exact ⟨m1, m2⟩⟩
          case measure => simp [intOf]; omega
      · obtain rfl : rooms.length = k := by omega
        have hbad := HBAD.out (by have := HM.out; rwa [List.take_length] at this)
        rcases hbad with h | ⟨h, h2⟩ | ⟨h, h2, h3⟩ | ⟨h, h2, h3, h4⟩ | ⟨h, h2, h3, h4, h5⟩ | ⟨h, h2, h3, h4, h5, h6⟩ | ⟨h, h2, h3, h4, h5, h6, h7⟩ | ⟨h, h2, h3, h4, h5, h6, h7, h8⟩
        all_goals
          go_wp2_with fail
          go_ret
          exact ⟨by first | rfl | simp; try omega, HB.out⟩
end Go.Proofs.Ytcocnfbhileheaa
