/- The example of the chapter. -/
import Derived.Test.YtgpeekicpkgpmaaRetH
import Derived.Test.YtgpeekicpkgpmaaStr
import Derived.Lib.SlBytesConst
namespace Go.Proofs.Ytgpeekicpkgpmaa
open Go.RowKit

theorem By_lit1 (w : World) (g : Nat) (x : BitVec 8) (c : Int) (T : TypeId) (fr : Nat × Nat) (h : c = U x) (hg : g = w.heap.size) : By (w.alloc (.cells #[.int .u8 c] T fr)) (.slice (some ⟨g, 0, none⟩) 1 1) [x] := by
  subst h; subst hg
  refine ⟨rfl, _, 1, rfl, Nat.le_refl _, by decide, (fun e => by cases e), fun b hb j v hj => ?_⟩
  obtain rfl := Option.some.inj hb
  refine ⟨rfl, ?_⟩
  have h0 : (w.alloc (.cells #[.int .u8 (U x)] T fr)).heap[w.heap.size]? = some (.cells #[.int .u8 (U x)] T fr) := heap_alloc_new w _
  simp only [World.cell?, h0, Nat.zero_add]
  match j, hj with
  | 0, hj => simpa [cu] using hj
/-- the example's sender behind i ticks -/
def exs : Nat → Snd
  | 0 => ⟨2, 3, [[0x61], [0x62]], 0, 0, 0, 0⟩
  | 1 => ⟨2, 3, [[0x61], [0x62]], 0, 1, 1, 0⟩
  | 2 => ⟨2, 3, [[0x61], [0x62]], 0, 2, 2, 0⟩
  | 3 => ⟨2, 3, [[0x61], [0x62]], 0, 2, 2, 1⟩
  | 4 => ⟨2, 3, [[0x61], [0x62]], 0, 2, 2, 2⟩
  | _ => ⟨2, 3, [[0x61], [0x62]], 0, 1, 2, 0⟩
def exn : Nat → Nat
  | 1 => 1
  | _ => 0
def exb : Nat → Bool
  | 2 => false
  | 3 => false
  | _ => true
def exw : Nat → Int
  | 0 => 0
  | 1 => 1
  | 2 => -1
  | 3 => -1
  | _ => 0
theorem exs_ok (i : Nat) : (exs i).Ok := by
  match i with
  | 0 | 1 | 2 | 3 | 4 => exact ⟨by decide, by decide, by decide, by decide, by decide, by decide, by decide, by decide, by decide⟩
  | i + 5 => exact (show Snd.Ok ⟨2, 3, [[0x61], [0x62]], 0, 1, 2, 0⟩ from ⟨by decide, by decide, by decide, by decide, by decide, by decide, by decide, by decide, by decide⟩)
theorem exs_total (i : Nat) : (exs i).total < 1000000000000 := by
  match i with
  | 0 | 1 | 2 | 3 | 4 => decide
  | i + 5 => exact (show Snd.total ⟨2, 3, [[0x61], [0x62]], 0, 1, 2, 0⟩ < 1000000000000 by decide)
theorem exs_tick (i : Nat) (hi : i < 5) : (exs i).tick.1.elim 0 (·.1) = exn i ∧ (exs i).tick.1.isSome = exb i ∧ (exs i).tick.2 = exs (i + 1) := by
  match i, hi with
  | 0, _ => exact ⟨rfl, rfl, rfl⟩
  | 1, _ => exact ⟨rfl, rfl, rfl⟩
  | 2, _ => exact ⟨rfl, rfl, rfl⟩
  | 3, _ => exact ⟨rfl, rfl, rfl⟩
  | 4, _ => exact ⟨rfl, rfl, rfl⟩
theorem exw_cell (i : Nat) (hi : i < 5) : (#[Value.int .i64 0, Value.int .i64 1, Value.int .i64 (-1), Value.int .i64 (-1), Value.int .i64 0] : Array Value)[i]? = some (.int .i64 (exw i)) := by
  match i, hi with
  | 0, _ => rfl
  | 1, _ => rfl
  | 2, _ => rfl
  | 3, _ => rfl
  | 4, _ => rfl
theorem exw_is (i : Nat) (hi : i < 5) : (exb i = false ∧ exw i = -1) ∨ (exb i = true ∧ exw i = exn i) := by
  match i, hi with
  | 0, _ => exact .inr ⟨rfl, rfl⟩
  | 1, _ => exact .inr ⟨rfl, rfl⟩
  | 2, _ => exact .inl ⟨rfl, rfl⟩
  | 3, _ => exact .inl ⟨rfl, rfl⟩
  | 4, _ => exact .inr ⟨rfl, rfl⟩
set_option maxHeartbeats 4000000 in
theorem awake_any (w : World) : Calls Try.prog 11 #[] w fun e w' => e = .returned (.bool true) ∧ Below w.heap.size w w' := by
  have kc := fun (w : World) (C : Array Value) (n c : Nat) => Lib.run_convert_bytes_const (P := Try.prog) w 28 5 C n c Try.underlying28 Try.underlying5
  go_enter Try.func11, Try.ntmps11
  go_wp2_with fail
  refine (new_sn 2 3 w (fun k => k < w.heap.size) (fun k h => h) (by decide) (by decide) (by decide) (by decide)).mono ?_
  rintro e w1 ⟨rfl, hs, hb⟩
  have HS1 := Lib.hid hs; have HB1 := Lib.hid hb; have hlt1 := hb.size; clear hs hb
  go_wp2_with fail
  refine (offer_sn (X := fun k => k < w.heap.size) (s := newSnd 2 3) (HS1.out.below ((Below.refl _ _).alloc (Nat.le_refl _) _)) (fun k hk => by simp; omega) (newSnd_ok (by decide) (by decide) (by decide) (by decide)) _ [0x61] (by exact By_lit1 _ _ _ _ _ _ (by rfl) rfl)).mono ?_
  rintro e w2 ⟨he, hs, hk⟩
  obtain rfl : e = .returned (.int .i64 0) := he
  have HS2 := Lib.hid (show Sn w2 _ w.heap.size ⟨2, 3, [[0x61]], 0, 0, 0, 0⟩ from hs); have HK2 := Lib.hid ((Kp.of_below HB1.out).trans ((Kp.refl _ w1).alloc _ |>.trans hk)); have hlt2 := HK2.out.size; clear hs hk
  go_wp2_with fail
  refine (offer_sn (X := fun k => k < w.heap.size) (s := ⟨2, 3, [[0x61]], 0, 0, 0, 0⟩) (HS2.out.below ((Below.refl _ _).alloc (Nat.le_refl _) _)) (fun k hk => by simp; omega) ⟨by decide, by decide, by decide, by decide, by decide, by decide, by decide, by decide, by decide⟩ _ [0x62] (by exact By_lit1 _ _ _ _ _ _ (by rfl) rfl)).mono ?_
  rintro e w3 ⟨he, hs, hk⟩
  obtain rfl : e = .returned (.int .i64 0) := he
  have HS3 := Lib.hid (show Sn w3 _ w.heap.size ⟨2, 3, [[0x61], [0x62]], 0, 0, 0, 0⟩ from hs); have HK3 := Lib.hid (HK2.out.trans ((Kp.refl _ w2).alloc _ |>.trans hk)); have hlt3 := HK3.out.size; clear hs hk
  go_wp2_with fail
  go_loopw [40] (fun i wr => ∃ k : Nat, k ≤ 5 ∧ i = .int .i64 k ∧ Hid (Sn wr (fun x => x < w.heap.size ∨ x = w3.heap.size) w.heap.size (exs k)) ∧ Hid (Kp (fun x => x < w.heap.size) w wr) ∧ Hid (wr.heap[w3.heap.size]? = some (.cells #[.int .i64 0, .int .i64 1, .int .i64 (-1), .int .i64 (-1), .int .i64 0] 3 (0, 0)))) (fun i _ => 5 - (intOf i).toNat)
  case atStart =>
    refine ⟨0, by omega, rfl, Lib.hid ((HS3.out.more fun k hk => ?_).below ((Below.refl _ _).alloc (Nat.le_refl _) _)), Lib.hid (HK3.out.alloc _), Lib.hid (heap_alloc_new _ _)⟩
    rcases hk with h | h
    · exact .inl h
    · exact .inr (by omega)
  case round =>
    obtain ⟨k, hk, rfl, HS, HK, HX⟩ := hrel
    by_cases hlt : k < 5
    · have hxc : wr.cell? ⟨w3.heap.size, k, none⟩ = some (.int .i64 (exw k)) := by
        have := HX.out
        simp only [World.cell?, this]; exact exw_cell k hlt
      have hw := exw_is k hlt
      have hlt3' := lt_of_block HX.out
      go_wp2_with fail
      refine (tick_sn HS.out (exs_ok k) (exs_total k)).mono ?_
      rintro e w4 ⟨v4, he, ho, hs, hkp⟩
      rw [(exs_tick k hlt).1, (exs_tick k hlt).2.1] at he
      rw [(exs_tick k hlt).2.2] at hs
      subst he
      have HO4 := Lib.hid ho; have HS4 := Lib.hid hs; have HK4 := Lib.hid (HK.out.trans (hkp.mono fun k h => .inl h)); have HX4 := Lib.hid ((hkp.block _ (.inr rfl) hlt3').trans HX.out); clear ho hs hkp
      rcases hw with ⟨hb, hw⟩ | ⟨hb, hw⟩
      all_goals
        rw [hb, hw]
        rw [hw] at hxc
        go_wp2_with fail
        go_roundw
        case rel => exact ⟨k + 1, by omega, by go_num, HS4, HK4, HX4⟩
        case measure => simp [intOf]; omega
    · obtain rfl : k = 5 := by omega
      go_wp2_with fail
      refine (nak_sn HS.out (exs_ok 5) (exs_total 5) 1).mono ?_
      rintro e w4 ⟨he, hs, hkp⟩
      obtain rfl : e = .returned (.int .i64 1) := he
      have HS4 := Lib.hid (show Sn w4 _ w.heap.size ⟨2, 3, [[0x62]], 1, 0, 1, 0⟩ from hs); have HK4 := Lib.hid (HK.out.trans (hkp.mono fun k h => .inl h)); clear hs hkp
      go_wp2_with fail
      refine (tick_sn HS4.out ⟨by decide, by decide, by decide, by decide, by decide, by decide, by decide, by decide, by decide⟩ (by decide)).mono ?_
      rintro e w5 ⟨v5, he, ho, hs, hkp⟩
      obtain rfl : e = .returned (.tuple #[.int .i64 1, v5, .bool true]) := he
      have HY5 := Lib.hid (show By w5 v5 [0x62] from ho.by); have HK5 := Lib.hid (HK4.out.trans (hkp.mono fun k h => .inl h)); clear ho hs hkp
      have hst := run_str8 Try.underlying28 Try.underlying5 Try.underlying9 HY5.out
      have hlit : ({ data := #[98] } : ByteArray) = str8 [0x62] := by rfl
      go_wp2_with fail
      refine (newReceiver_ok w5).mono ?_
      rintro e w6 ⟨rfl, _, hb6⟩
      have HB6 := Lib.hid ((HK5.out.trans (Kp.of_below hb6)).below (Nat.le_refl _) fun k h => h); clear hb6
      go_wp2_with fail
      go_ret
      exact ⟨rfl, HB6.out⟩
end Go.Proofs.Ytgpeekicpkgpmaa
