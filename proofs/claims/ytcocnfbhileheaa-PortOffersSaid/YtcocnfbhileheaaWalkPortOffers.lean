/- The walk of PortOffers. -/
import Derived.Test.YtcocnfbhileheaaPotE
import Derived.Test.YtcocnfbhileheaaPotF
import Derived.Test.YtcocnfbhileheaaPotG
import Derived.Test.YtcocnfbhileheaaMgA
namespace Go.Proofs.Ytcocnfbhileheaa
open Go.RowKit

theorem int_u8' {v : Value} (o : IsInt .u8 v) : ∃ a : Nat, v = .int .u8 (a : Int) ∧ a < 256 := by
  obtain ⟨x, rfl, hx⟩ := o
  have := bounds_u8 hx
  obtain ⟨n, rfl⟩ := Int.eq_ofNat_of_zero_le this.1
  exact ⟨n, rfl, by omega⟩
theorem U_ofNat (i : Nat) (h : i < 256) : U (BitVec.ofNat 8 i) = (i : Int) := by
  unfold U; rw [BitVec.toNat_ofNat, Nat.mod_eq_of_lt (by omega)]
/-- the port with k frames waiting in class 1 -/
def offs (k : Nat) : Prt := { stl0 with waiting := [[], (List.range k).map fun i => [BitVec.ofNat 8 i]] }
theorem offs_zero : offs 0 = stl0 := rfl
theorem offs_succ (k : Nat) : ({ offs k with waiting := (offs k).waiting.set 1 ((offs k).waiting.getD 1 [] ++ [[BitVec.ofNat 8 k]]) } : Prt) = offs (k + 1) := by
  unfold offs
  rw [List.range_succ, List.map_append]
  rfl
theorem offs_ok : ∀ k, k ≤ 64 → (offs k).Ok (200 + 65 * k)
  | 0, _ => stl0_ok
  | k + 1, h => by
    have h1 := (offs_ok k (by omega)).offer 1 [BitVec.ofNat 8 k]
    have e : ((offs k).offer 1 [BitVec.ofNat 8 k]).2 = offs (k + 1) := by
      rw [← offs_succ]
      unfold Prt.offer
      rw [if_neg (by
        have h2 : (offs k).has 1 := ⟨by decide, by show (1 : Int) < ([2, 2] : List Nat).length; decide⟩
        simp [h2]), if_neg (by show ¬ 64 ≤ ((List.range k).map fun i => [BitVec.ofNat 8 i]).length; rw [List.length_map, List.length_range]; omega)]
      rfl
    rw [e] at h1
    exact h1.mono (by omega)
theorem Held.lit_byN {F Z : BS} {W w : World} {ts : List Th} (h : Held F Z W ts w) (k : Nat) (hk : k < 256) (T : TypeId) : Held F Z W (ts ++ [tBy (.slice (some ⟨w.heap.size, 0, none⟩) 1 1) [BitVec.ofNat 8 k]]) (w.alloc (.cells #[.int .u8 (k : Int)] T)) := by
  have := h.lit_by (BitVec.ofNat 8 k) T
  rwa [U_ofNat k hk] at this
theorem Held.nilBy {F Z : BS} {W w : World} {ts : List Th} (h : Held F Z W ts w) : Held F Z W (ts ++ [tBy (.slice none 0 0) []]) w := h.addZ (Below.refl _ _) (ByZ.nil _ _)

def offE : Prt := { offs 64 with waiting := (offs 64).waiting.set 0 ((offs 64).waiting.getD 0 [] ++ [[]]) }
theorem offE_ok : offE.Ok 4500 := by
  have h := (offs_ok 64 (by omega)).offer 0 []
  exact Prt.Ok.mono (show offE.Ok _ from h) (by decide)
/-- New with the rooms 2 and 2, that a literal holds -/
theorem Held.new22 {F Z : BS} {W w : World} {ts : List Th} (h : Held F Z W ts w) :
    Calls Try.prog 13 #[.agg #[.int .i64 5, .slice (some ⟨w.heap.size, 0, none⟩) 2 2, .int .i64 4, .int .i64 3, .int .i64 9]] (w.alloc (.cells #[.int .i64 2, .int .i64 2] 3)) fun e w' => ∃ p, e = .returned (.tuple #[.pointer (some ⟨p, 0, none⟩), .int .i64 0]) ∧ Held F Z W (ts ++ [tPort p stl0]) w' := by
  refine (pnew_any (inc := 5) (wi := 4) (ti := 3) (de := 9) (rooms := [2, 2]) (rb := w.heap.size) (ro := 0) (rc := 2) _ ⟨by decide, by decide, by decide, by decide, by decide, by decide, by decide, by decide, by decide, by decide, by decide⟩ (by decide) (by decide) (two_rooms (heap_alloc_new w _))).mono ?_
  rintro e w2 ⟨p, rfl, hm⟩
  exact ⟨p, rfl, (h.alloc _).made hm⟩
/-- the first offer of the law -/
theorem first_offer {F Z : BS} {W w : World} {p : Nat} {v : Value} {n : Nat} (h : Held F Z W [tPort p stl0, tBy v (List.replicate n 0#8)] w) (hv : ∃ a k, v = .slice a n k) (c : Int) (hn : n < 256) :
    Calls Try.prog 14 #[.pointer (some ⟨p, 0, none⟩), .int .i64 c, v] w fun e w' => e = .returned (.int .i64 (if 0 ≤ c ∧ c < 2 ∧ n ≤ 64 then 0 else 2)) ∧ Held F Z W [] w' := by
  by_cases hc : 0 ≤ c ∧ c < 2 ∧ n ≤ 64
  · rw [if_pos hc]
    obtain ⟨m, rfl⟩ := Int.eq_ofNat_of_zero_le hc.1
    have hm : m < 2 := by omega
    refine (poffer_yes h 0 1 rfl stl0_ok (by decide) m hm v _ rfl (by decide) (by rw [List.length_replicate]; exact hc.2.2) ?_).mono ?_
    · obtain rfl | rfl : m = 0 ∨ m = 1 := by omega
      · decide
      · decide
    · rintro e w' ⟨rfl, h⟩
      exact ⟨rfl, h.pick [] [] (by decide) rfl⟩
  · rw [if_neg hc]
    obtain ⟨a, k, rfl⟩ := hv
    obtain ⟨G, Y, x, hst⟩ := h.get 0 rfl
    have c1 := (port_cells (hst.get (i := 0) rfl).1).2.1
    obtain ⟨rb, ro, rc, e, _, _⟩ := sq_some (hst.get (i := 1) rfl) (by decide)
    rw [e] at c1
    refine (poffer_range (n := 2) c a n k (some ⟨rb, ro, none⟩) rc (by decide) (by omega) (by omega) c1).mono ?_
    rintro e w' ⟨rfl, rfl⟩
    exact ⟨rfl, h.pick [] [] (by decide) rfl⟩
set_option maxRecDepth 100000 in
set_option maxHeartbeats 16000000 in
theorem walkPortOffers (W : World) (v0 v1 v2 : Value) (o0 : IsInt .i64 v0) (o1 : IsInt .u8 v1) (o2 : IsInt .u8 v2) :
    Calls Try.prog 10 #[v0, v1, v2] W fun e w' => e = .returned (.bool true) ∧ Below W.heap.size W w' := by
  obtain ⟨c, rfl, hc⟩ := o0
  obtain ⟨n, rfl, hn⟩ := int_u8' o1
  obtain ⟨m, rfl, hm⟩ := int_u8' o2
  have HS := Lib.hid (Held.start0 (fun _ => False) (Old W) (fun _ f _ => f) W)
  go_enter Try.func10, Try.ntmps10
  go_wp2_with fail
  refine (awake_any W).mono ?_
  rintro e w1 ⟨rfl, hb⟩
  have H1 := Lib.hid (HS.out.own hb); clear hb
  go_wp2_with fail
  refine H1.out.new22.mono ?_
  rintro e w2 ⟨p, rfl, h⟩
  have H2 := Lib.hid h; clear h
  have hwr : IntKind.i64.wrap (n : Int) = (n : Int) := IntWalk.i64_in _ (by omega)
  go_wp2_with (at_make; refine wpList_mkfull slB rfl rfl _ _ rfl w2.heap.size n rfl rfl (by omega) (by unfold maxLen; omega) (Nat.le_refl _) ?_; intro w3 hown3 hg3; have HB3 := Lib.hid ((Below.refl w2.heap.size w2).grown hg3 (Nat.le_refl _) (fun k e => by cases e)); have HO3 := Lib.hid hown3; clear hown3 hg3)
  have HOF := Lib.hid (first_offer (n := n) (v := .slice (some ⟨w2.heap.size, 0, none⟩) n n) ((H2.out.own HB3.out).pick [0] [tPort p stl0] (by decide) rfl |>.own (Below.refl _ _) |> fun h => (H2.out.addZ HB3.out (T := tBy (.slice (some ⟨w2.heap.size, 0, none⟩) n n) (List.replicate n 0#8)) (Ow.byZ (T := 5) (by
    show World.ownsRow _ _ _ _ _ (List.replicate n 0#8).length (cu (List.replicate n 0#8))
    rw [List.length_replicate, cu, List.map_replicate]
    exact HO3.out)))) ⟨_, _, rfl⟩ c hn)
  clear HO3
  have h4 : (0 ≤ c ∧ c < 2 ∧ n ≤ 64) ∨ c < 0 ∨ (0 ≤ c ∧ 2 ≤ c) ∨ (0 ≤ c ∧ c < 2 ∧ 64 < n) := by omega
  refine HOF.out.mono ?_
  rintro e w4 ⟨rfl, h⟩
  have H4 := Lib.hid h
  clear h HOF HB3 H2 H1 HS
  rcases h4 with ⟨q0, q1, q2⟩ | q0 | ⟨q0, q1⟩ | ⟨q0, q1, q2⟩
  all_goals (first | rw [if_pos (by omega)] | rw [if_neg (by omega)])
  all_goals go_wp2_with fail
  all_goals
    refine H4.out.new22.mono ?_
    rintro e w5 ⟨q, rfl, h⟩
    have H5 := Lib.hid (show Held (fun _ => False) (Old W) W [tPort q (offs 0)] w5 from h)
    clear h H4
    go_wp2_with fail
    go_loopw [69] (fun i wr => ∃ k : Nat, k ≤ 64 ∧ i = .int .i64 (k : Int) ∧ Hid (Held (fun _ => False) (Old W) W [tPort q (offs k)] wr)) (fun i _ => 64 - (intOf i).toNat)
    case atStart => exact ⟨0, by omega, by go_num, H5⟩
    case round =>
      clear H5
      obtain ⟨k, hk, rfl, HK⟩ := hrel
      by_cases hlt : k < 64
      · have hw8 : IntKind.u8.wrap (k : Int) = (k : Int) := IntWalk.u8_in _ (by omega)
        have HOK := Lib.hid (offs_ok k hk)
        have HWL := Lib.hid (show ((offs k).waiting.getD 1 []).length < 64 by show ((List.range k).map fun i => [BitVec.ofNat 8 i]).length < 64; rw [List.length_map, List.length_range]; exact hlt)
        go_wp2_with fail
        refine (poffer_yes (HK.out.lit_byN k (by omega) 5) 0 1 rfl HOK.out (by omega) 1 (by show 1 < 2; decide) _ [BitVec.ofNat 8 k] rfl (by decide) (by show 1 ≤ 64; decide) HWL.out).mono ?_
        rintro e w6 ⟨rfl, h⟩
        rw [offs_succ] at h
        have H6 := Lib.hid (h.pick [0] [tPort q (offs (k + 1))] (by decide) rfl)
        clear h HK HOK HWL
        go_wp2_with fail
        go_roundw
        case rel => exact ⟨k + 1, by omega, by go_num, H6⟩
        case measure => simp [intOf]; omega
      · obtain rfl : k = 64 := by omega
        have HOK := Lib.hid (offs_ok 64 (by omega))
        go_wp2_with fail
        refine (poffer_full HK.out 0 rfl HOK.out (by decide) 1 (by decide) none 0 0 (by decide) (by decide)).mono ?_
        rintro e w' ⟨rfl, rfl⟩
        go_wp2_with fail
        refine (poffer_yes HK.out.nilBy 0 1 rfl HOK.out (by decide) 0 (by decide) _ [] rfl (by decide) (by decide) (by decide)).mono ?_
        rintro e w6 ⟨rfl, h⟩
        have H6 := Lib.hid (show Held (fun _ => False) (Old W) W [tPort q offE] w6 from h.pick [0] [tPort q offE] (by decide) rfl)
        clear h HK HOK
        go_wp2_with fail
        refine (restart_low H6.out 0 rfl 5 (by decide)).mono ?_
        rintro e w' ⟨rfl, rfl⟩
        go_wp2_with fail
        refine (show Calls Try.prog 27 #[.pointer (some ⟨q, 0, none⟩), .int .i64 (6 + (m : Int))] w6 _ from restart_yes H6.out 0 rfl offE_ok (6 + m) (by show 5 < 6 + m; omega) (by omega)).mono ?_
        rintro e w7 ⟨rfl, h⟩
        have H7 := Lib.hid (show Held (fun _ => False) (Old W) W [tPort q (newPrt (6 + m) [2, 2] 4 3 9)] w7 from h.pick [0] _ (by decide) rfl)
        clear h H6
        go_wp2_with fail
        refine (poffer_yes H7.out.nilBy 0 1 rfl (newPrt_ok (by decide) (by decide) (by decide) (by omega) (by omega) (by decide) (by decide) (by decide) (by decide) (by decide) (by decide)) (by decide) 1 (by show 1 < 2; decide) _ [] rfl (by decide) (by decide) (by show 0 < 64; decide)).mono ?_
        rintro e w8 ⟨rfl, h⟩
        have H8 := Lib.hid h.below
        clear h H7
        go_wp2_with fail
        refine (peek_nil 0).mono ?_
        rintro e w' ⟨rfl, rfl⟩
        go_wp2_with fail
        refine (take_nil 0).mono ?_
        rintro e w' ⟨rfl, rfl⟩
        go_wp2_with fail
        refine (counts_nil 0).mono ?_
        rintro e w' ⟨rfl, rfl⟩
        go_wp2_with fail
        refine (poffer_nil 0 _).mono ?_
        rintro e w' ⟨rfl, rfl⟩
        go_wp2_with fail
        refine (restart_nil 1 _).mono ?_
        rintro e w' ⟨rfl, rfl⟩
        go_wp2_with fail
        refine (ptick_nil _ _).mono ?_
        rintro e w' ⟨rfl, rfl⟩
        go_wp2_with fail
        refine up_nil.mono ?_
        rintro e w' ⟨rfl, rfl⟩
        go_wp2_with fail
        refine overflows_nil.mono ?_
        rintro e w' ⟨rfl, rfl⟩
        go_wp2_with fail
        go_ret
        exact ⟨rfl, H8.out⟩
end Go.Proofs.Ytcocnfbhileheaa
