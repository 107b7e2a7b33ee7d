/- The walk of CrcLinear. -/
import Derived.Test.YtmpigciommmjcaaDoorWalkCrcSums
import Derived.Test.YtmpigciommmjcaaDoorCrcG
import Derived.Test.YtmpigciommmjcaaDoorCrcR
import Derived.StillTailTactics
import Derived.Deep.RegionWith
namespace Go.Proofs.YtmpigciommmjcaaDoor
open Go.RowKit

/-- bytewise exclusive or of three strings, the first k bytes of n, zeros behind -/
def pre3 (a b c : List (BitVec 8)) (n k : Nat) : List (BitVec 8) := (List.range n).map fun i => if i < k then a.getD i 0 ^^^ b.getD i 0 ^^^ c.getD i 0 else 0
theorem pre3_length (a b c : List (BitVec 8)) (n k : Nat) : (pre3 a b c n k).length = n := by simp [pre3]
theorem pre3_zero (a b c : List (BitVec 8)) (n : Nat) : cu (pre3 a b c n 0) = List.replicate n (.int .u8 0) := by
  apply List.ext_getElem
  · simp [cu, pre3]
  · intro i h1 h2
    simp [cu, pre3]; rfl
theorem pre3_step (a b c : List (BitVec 8)) (n k : Nat) : (pre3 a b c n k).set k (a.getD k 0 ^^^ b.getD k 0 ^^^ c.getD k 0) = pre3 a b c n (k + 1) := by
  apply List.ext_getElem
  · simp [pre3]
  · intro i h1 h2
    rw [List.getElem_set]
    simp only [pre3, List.getElem_map, List.getElem_range]
    by_cases h : k = i
    · subst h; simp
    · rw [if_neg h]
      by_cases hi : i < k
      · rw [if_pos hi, if_pos (by omega)]
      · rw [if_neg hi, if_neg (by omega)]
theorem pre3_done (a b c : List (BitVec 8)) (n : Nat) (ha : n ≤ a.length) (hb : n ≤ b.length) (hc : n ≤ c.length) : pre3 a b c n n = bx (bx (a.take n) (b.take n)) (c.take n) := by
  apply List.ext_getElem
  · simp [pre3, bx]; omega
  · intro i h1 h2
    have hi : i < n := by rw [pre3_length] at h1; exact h1
    have h3 : i < a.length := by omega
    have h4 : i < b.length := by omega
    have h5 : i < c.length := by omega
    simp [pre3, bx, hi, List.getD, h3, h4, h5]
theorem Ow.store {T : TypeId} {w : World} {base g n cap : Nat} {xs : List (BitVec 8)} (h : w.ownsRow base T 1 (.slice (some ⟨g, 0, none⟩) n cap) n (cu xs)) (i : Nat) (z : BitVec 8) : (w.setCell ⟨g, i, none⟩ (.int .u8 (U z))).ownsRow base T 1 (.slice (some ⟨g, 0, none⟩) n cap) n (cu (xs.set i z)) := by
  have := (h.stored i (.int .u8 (U z))).1
  simpa [cu, List.map_set] using this
theorem sum_same (v : Value) (bs : List (BitVec 8)) (w : World) (hv : By w v bs) (ht : Tab w) : Calls Tryd.prog 13 #[v] w fun e w' => e = .returned (.int .u32 (U (csum bs))) ∧ w' = w :=
  (sum_any v bs w hv ht).mono fun _ _ ⟨h, h'⟩ => ⟨h, h'.symm⟩
set_option maxHeartbeats 2000000 in
theorem crcLinear_walk (w : World) (b1 o1 c1 b2 o2 c2 b3 o3 c3 : Nat) (xs ys zs : List (BitVec 8)) (hu1 : By w (.slice (some ⟨b1, o1, none⟩) xs.length c1) xs) (hu2 : By w (.slice (some ⟨b2, o2, none⟩) ys.length c2) ys) (hu3 : By w (.slice (some ⟨b3, o3, none⟩) zs.length c3) zs) (ht : Tab w)
    (hc1 : ∀ k, k < xs.length → w.cell? ⟨b1, o1 + k, none⟩ = some (.int .u8 (U (xs.getD k 0)))) (hc2 : ∀ k, k < ys.length → w.cell? ⟨b2, o2 + k, none⟩ = some (.int .u8 (U (ys.getD k 0)))) (hc3 : ∀ k, k < zs.length → w.cell? ⟨b3, o3 + k, none⟩ = some (.int .u8 (U (zs.getD k 0))))
    (n : Nat) (hn1 : n ≤ xs.length) (hn2 : n ≤ ys.length) (hn3 : n ≤ zs.length) (hpos : 0 < n) (hmin : (if (zs.length : Int) < if ys.length < xs.length then (ys.length : Int) else (xs.length : Int) then (zs.length : Int) else if ys.length < xs.length then (ys.length : Int) else (xs.length : Int)) = (n : Int)) (h300 : n ≤ 300) (hp1 : n ≤ c1) (hp2 : n ≤ c2) (hp3 : n ≤ c3) :
    Calls Tryd.prog 5 #[.slice (some ⟨b1, o1, none⟩) xs.length c1, .slice (some ⟨b2, o2, none⟩) ys.length c2, .slice (some ⟨b3, o3, none⟩) zs.length c3] w fun e w' => e = .returned (.bool true) ∧ Below w.heap.size w w' := by
  have HT := Lib.hid ht; clear ht
  go_enter Tryd.func5, Tryd.ntmps5
  go_wp2_with fail
  refine (awake_any w HT.out).mono ?_
  rintro e w1 ⟨rfl, hb1⟩
  have HB := Lib.hid hb1; clear hb1
  go_wp2_with (at_make; refine wpList_mkfull slB rfl rfl _ _ rfl w1.heap.size n rfl rfl (by omega) (by unfold maxLen; omega) (Nat.le_refl _) ?_; intro w2 hown2 hg2; have HB2 := Lib.hid ((Below.refl w1.heap.size w1).grown hg2 (Nat.le_refl _) (fun k e => by cases e)); have HO2 := Lib.hid hown2; clear hown2 hg2 hmin)
  have hc1' : ∀ k, k < n → w1.cell? ⟨b1, o1 + k, none⟩ = some (.int .u8 (U (xs.getD k 0))) := fun k hk => by
    have h := hc1 k (by omega)
    exact (Below.cell HB.out (p := ⟨b1, o1 + k, none⟩) (World.block_lt_of_cell? w _ h)).trans h
  have hc2' : ∀ k, k < n → w1.cell? ⟨b2, o2 + k, none⟩ = some (.int .u8 (U (ys.getD k 0))) := fun k hk => by
    have h := hc2 k (by omega)
    exact (Below.cell HB.out (p := ⟨b2, o2 + k, none⟩) (World.block_lt_of_cell? w _ h)).trans h
  have hc3' : ∀ k, k < n → w1.cell? ⟨b3, o3 + k, none⟩ = some (.int .u8 (U (zs.getD k 0))) := fun k hk => by
    have h := hc3 k (by omega)
    exact (Below.cell HB.out (p := ⟨b3, o3 + k, none⟩) (World.block_lt_of_cell? w _ h)).trans h
  have HC1 := Lib.hid hc1'; clear hc1 hc1'
  have HC2 := Lib.hid hc2'; clear hc2 hc2'
  have HC3 := Lib.hid hc3'; clear hc3 hc3'
  have HU1 := Lib.hid hu1; clear hu1
  have HU2 := Lib.hid hu2; clear hu2
  have HU3 := Lib.hid hu3; clear hu3
  go_loopw [25] (fun i wr => ∃ k : Nat, k ≤ n ∧ i = .int .i64 k ∧ Hid (wr.ownsRow w1.heap.size 5 1 (.slice (some ⟨w1.heap.size, 0, none⟩) n n) n (cu (pre3 xs ys zs n k))) ∧ Hid (Below w1.heap.size w1 wr)) (fun i _ => n - (intOf i).toNat)
  case atStart => exact ⟨0, by omega, rfl, Lib.hid (by rw [pre3_zero]; exact HO2.out), HB2⟩
  case round =>
    obtain ⟨k, hk, rfl, HO, HBr⟩ := hrel
    by_cases hlt : k < n
    · have hk1 : wr.cell? ⟨b1, o1 + k, none⟩ = some (.int .u8 (U (xs.getD k 0))) := cell_later HBr.out (HC1.out k hlt)
      have hk2 : wr.cell? ⟨b2, o2 + k, none⟩ = some (.int .u8 (U (ys.getD k 0))) := cell_later HBr.out (HC2.out k hlt)
      have hk3 : wr.cell? ⟨b3, o3 + k, none⟩ = some (.int .u8 (U (zs.getD k 0))) := cell_later HBr.out (HC3.out k hlt)
      have hkt : wr.cell? ⟨w1.heap.size, k, none⟩ = some (.int .u8 (U ((pre3 xs ys zs n k).getD k 0))) := by
        rw [HO.out.cellAt k (by omega), cu, List.getElem?_map, List.getElem?_eq_getElem (by rw [pre3_length]; exact hlt)]
        simp [List.getD, pre3_length, hlt]
      have hkf : wr.frozen? ⟨w1.heap.size, k, none⟩ = false := HO.out.frozenAt k
      have hst := pre3_step xs ys zs n k
      generalize hx : xs.getD k 0 = x at *
      generalize hy : ys.getD k 0 = y at *
      generalize hz : zs.getD k 0 = z at *
      generalize hp : (pre3 xs ys zs n k).getD k 0 = p at *
      have HS := Lib.hid hst; clear hst
      have Hx := Lib.hid hx; clear hx
      have Hy := Lib.hid hy; clear hy
      have Hz := Lib.hid hz; clear hz
      have Hp := Lib.hid hp; clear hp
      go_wp2_with fail
      go_region
      go_wp2_with fail
      go_roundw
      case rel => exact ⟨k + 1, by omega, by go_num, Lib.hid (by rw [← HS.out]; exact Ow.store HO.out k (x ^^^ y ^^^ z)), Lib.hid ((HBr.out.drew).setCell (Nat.le_refl _) _)⟩
      case measure => simp [intOf]; omega
    · obtain rfl : k = n := by omega
      have hlin := csum_linear (xs.take k) (ys.take k) (zs.take k) (by simp; omega) (by simp; omega)
      have hdone := pre3_done xs ys zs k hn1 hn2 hn3
      have hBy : By wr (.slice (some ⟨w1.heap.size, 0, none⟩) k k) (bx (bx (xs.take k) (ys.take k)) (zs.take k)) := by
        have h := Rd.of_own HO.out
        have hl := pre3_length xs ys zs k k
        rw [← hdone]; unfold By; rw [hl]; exact h
      have HBY := Lib.hid hBy; clear hBy
      have HBw := Lib.hid (HB.out.trans (HBr.out.mono HB.out.size))
      have T1 := Lib.hid (By.take (n := k) (HU1.out.below HBw.out) hn1)
      have T2 := Lib.hid (By.take (n := k) (HU2.out.below HBw.out) hn2)
      have T3 := Lib.hid (By.take (n := k) (HU3.out.below HBw.out) hn3)
      have HTr := Lib.hid (HT.out.below HBw.out)
      have hq : (U (csum (bx (bx (xs.take k) (ys.take k)) (zs.take k))) == U (csum (xs.take k) ^^^ csum (ys.take k) ^^^ csum (zs.take k))) = true := by rw [hlin]; simp
      generalize bx (bx (xs.take k) (ys.take k)) (zs.take k) = q at *
      generalize xs.take k = q1 at *
      generalize ys.take k = q2 at *
      generalize zs.take k = q3 at *
      have Hlin := Lib.hid hlin; clear hlin
      have Hdone := Lib.hid hdone; clear hdone
      have d0 : ∀ m, By (wr.drewN m) (.slice (some ⟨w1.heap.size, 0, none⟩) k k) q := fun m => Rd.keep HBY.out fun _ _ _ => rfl
      have d1 : ∀ m, By (wr.drewN m) (.slice (some ⟨b1, o1, none⟩) k c1) q1 := fun m => Rd.keep T1.out fun _ _ _ => rfl
      have d2 : ∀ m, By (wr.drewN m) (.slice (some ⟨b2, o2, none⟩) k c2) q2 := fun m => Rd.keep T2.out fun _ _ _ => rfl
      have d3 : ∀ m, By (wr.drewN m) (.slice (some ⟨b3, o3, none⟩) k c3) q3 := fun m => Rd.keep T3.out fun _ _ _ => rfl
      have dt : ∀ m, Tab (wr.drewN m) := fun m => Tab.keep HTr.out fun _ => rfl
      have D0 := Lib.hid d0; clear d0
      have D1 := Lib.hid d1; clear d1
      have D2 := Lib.hid d2; clear d2
      have D3 := Lib.hid d3; clear d3
      have DT := Lib.hid dt; clear dt
      go_wp2_with fail
      go_quiet (first
        | (go_at_call_of 13 (Value.slice (some ⟨w1.heap.size, 0, none⟩) k k); exact Calls.quiet_of_same (sum_same _ q _ (D0.out _) (DT.out _)))
        | (go_at_call_of 13 (Value.slice (some ⟨b1, o1, none⟩) k c1); exact Calls.quiet_of_same (sum_same _ q1 _ (D1.out _) (DT.out _)))
        | (go_at_call_of 13 (Value.slice (some ⟨b2, o2, none⟩) k c2); exact Calls.quiet_of_same (sum_same _ q2 _ (D2.out _) (DT.out _)))
        | (go_at_call_of 13 (Value.slice (some ⟨b3, o3, none⟩) k c3); exact Calls.quiet_of_same (sum_same _ q3 _ (D3.out _) (DT.out _))))
      go_wp2_with fail
      go_ret
      exact ⟨by simp, below_drewN HBw.out _⟩

theorem By_empty (w : World) (a : Option Addr) (c : Nat) (h : c ≤ maxLen ∧ (a = none → c = 0)) : By w (.slice a 0 c) [] :=
  ⟨rfl, a, c, rfl, Nat.zero_le _, h.1, fun e => ⟨rfl, h.2 e⟩, fun _ _ j u hj => by simp [cu] at hj⟩
set_option maxHeartbeats 2000000 in
theorem crcLinear_zero (w : World) (a1 a2 a3 : Option Addr) (l1 l2 l3 c1 c2 c3 : Nat) (ht : Tab w) (m1 : c1 ≤ maxLen ∧ (a1 = none → c1 = 0)) (m2 : c2 ≤ maxLen ∧ (a2 = none → c2 = 0)) (m3 : c3 ≤ maxLen ∧ (a3 = none → c3 = 0))
    (hmin : (if (l3 : Int) < if l2 < l1 then (l2 : Int) else (l1 : Int) then (l3 : Int) else if l2 < l1 then (l2 : Int) else (l1 : Int)) = 0) :
    Calls Tryd.prog 5 #[.slice a1 l1 c1, .slice a2 l2 c2, .slice a3 l3 c3] w fun e w' => e = .returned (.bool true) ∧ Below w.heap.size w w' := by
  have HT := Lib.hid ht; clear ht
  go_enter Tryd.func5, Tryd.ntmps5
  go_wp2_with fail
  refine (awake_any w HT.out).mono ?_
  rintro e w1 ⟨rfl, hb1⟩
  have HB := Lib.hid hb1; clear hb1
  go_wp2_with (at_make; refine wpList_mkfull slB rfl rfl _ _ rfl w1.heap.size 0 rfl rfl (by omega) (by unfold maxLen; omega) (Nat.le_refl _) ?_; intro w2 hown2 hg2; have HB2 := Lib.hid ((Below.refl w1.heap.size w1).grown hg2 (Nat.le_refl _) (fun k e => by cases e)); clear hown2 hg2 hmin)
  refine wp_loop_rounds 1 ?_; rw [rounds_succ]
  go_wp2_with fail
  have HBw := Lib.hid (HB.out.trans (HB2.out.mono HB.out.size))
  have dt : ∀ m, Tab (w2.drewN m) := fun m => Tab.keep (HT.out.below HBw.out) fun _ => rfl
  have DT := Lib.hid dt; clear dt
  have M1 := Lib.hid m1; clear m1
  have M2 := Lib.hid m2; clear m2
  have M3 := Lib.hid m3; clear m3
  have hq : csum [] ^^^ csum [] ^^^ csum [] = csum [] := by decide
  go_quiet (first
    | (go_at_call_of 13 (Value.slice a1 0 c1); exact Calls.quiet_of_same (sum_same _ [] _ (By_empty _ _ _ M1.out) (DT.out _)))
    | (go_at_call_of 13 (Value.slice a2 0 c2); exact Calls.quiet_of_same (sum_same _ [] _ (By_empty _ _ _ M2.out) (DT.out _)))
    | (go_at_call_of 13 (Value.slice a3 0 c3); exact Calls.quiet_of_same (sum_same _ [] _ (By_empty _ _ _ M3.out) (DT.out _)))
    | (go_at_call 13; exact Calls.quiet_of_same (sum_same _ [] _ (By_empty _ _ _ ⟨Nat.zero_le _, fun _ => rfl⟩) (DT.out _))))
  go_wp2_with fail
  go_ret
  exact ⟨by simp, below_drewN HBw.out _⟩

set_option maxHeartbeats 2000000 in
theorem crcLinear_big (w : World) (a1 a2 a3 : Option Addr) (l1 l2 l3 c1 c2 c3 n : Nat) (ht : Tab w) (h : 300 < n)
    (hmin : (if (l3 : Int) < if l2 < l1 then (l2 : Int) else (l1 : Int) then (l3 : Int) else if l2 < l1 then (l2 : Int) else (l1 : Int)) = (n : Int)) :
    Calls Tryd.prog 5 #[.slice a1 l1 c1, .slice a2 l2 c2, .slice a3 l3 c3] w fun e w' => e = .returned (.bool true) ∧ Below w.heap.size w w' := by
  have HT := Lib.hid ht; clear ht
  go_enter Tryd.func5, Tryd.ntmps5
  go_wp2_with fail
  refine (awake_any w HT.out).mono ?_
  rintro e w1 ⟨rfl, hb1⟩
  have HB := Lib.hid hb1; clear hb1
  go_wp2_with fail
  go_ret
  exact ⟨rfl, HB.out⟩
theorem min3 (a b c : Nat) : (if (c : Int) < if b < a then (b : Int) else (a : Int) then (c : Int) else if b < a then (b : Int) else (a : Int)) = ((min a (min b c) : Nat) : Int) := by
  split <;> split <;> omega
theorem By.parts {w : World} {a : Option Addr} {l c : Nat} {bs : List (BitVec 8)} (h : By w (.slice a l c) bs) : l ≤ c ∧ c ≤ maxLen ∧ (a = none → c = 0) := by
  obtain ⟨_, a', c', e, h1, h2, h3, _⟩ := h
  obtain ⟨rfl, rfl, rfl⟩ : a = a' ∧ l = bs.length ∧ c = c' := by simpa using e
  exact ⟨h1, h2, fun e => (h3 e).2⟩
theorem walkCrcLinear (W : World) (v0 v1 v2 : Value) (o0 : IsBytes W v0) (o1 : IsBytes W v1) (o2 : IsBytes W v2) (ht : Tab W) :
    Calls Tryd.prog 5 #[v0, v1, v2] W fun e w' => e = .returned (.bool true) ∧ Below W.heap.size W w' := by
  obtain ⟨xs, h0⟩ := o0
  obtain ⟨ys, h1⟩ := o1
  obtain ⟨zs, h2⟩ := o2
  obtain ⟨a1, c1, rfl⟩ := h0.slice
  obtain ⟨a2, c2, rfl⟩ := h1.slice
  obtain ⟨a3, c3, rfl⟩ := h2.slice
  have p1 := h0.parts
  have p2 := h1.parts
  have p3 := h2.parts
  obtain ⟨n, hn⟩ : ∃ n, n = min xs.length (min ys.length zs.length) := ⟨_, rfl⟩
  have hmin := min3 xs.length ys.length zs.length
  rw [← hn] at hmin
  by_cases hbig : 300 < n
  · exact crcLinear_big W a1 a2 a3 _ _ _ c1 c2 c3 n ht hbig hmin
  by_cases hz : n = 0
  · subst hz
    exact crcLinear_zero W a1 a2 a3 _ _ _ c1 c2 c3 ht ⟨p1.2.1, p1.2.2⟩ ⟨p2.2.1, p2.2.2⟩ ⟨p3.2.1, p3.2.2⟩ hmin
  obtain ⟨_, ⟨rfl, _⟩ | ⟨b1, o1, c1', e1, _, _, _, hc1⟩⟩ := h0.cases
  · simp at hn; omega
  obtain ⟨_, ⟨rfl, _⟩ | ⟨b2, o2, c2', e2, _, _, _, hc2⟩⟩ := h1.cases
  · simp at hn; omega
  obtain ⟨_, ⟨rfl, _⟩ | ⟨b3, o3, c3', e3, _, _, _, hc3⟩⟩ := h2.cases
  · simp at hn; omega
  obtain ⟨rfl, rfl⟩ : a1 = some ⟨b1, o1, none⟩ ∧ c1 = c1' := by simpa using e1
  obtain ⟨rfl, rfl⟩ : a2 = some ⟨b2, o2, none⟩ ∧ c2 = c2' := by simpa using e2
  obtain ⟨rfl, rfl⟩ : a3 = some ⟨b3, o3, none⟩ ∧ c3 = c3' := by simpa using e3
  exact crcLinear_walk W b1 o1 c1 b2 o2 c2 b3 o3 c3 xs ys zs h0 h1 h2 ht hc1 hc2 hc3 n (by omega) (by omega) (by omega) (by omega) hmin (by omega) (by omega) (by omega) (by omega)
end Go.Proofs.YtmpigciommmjcaaDoor
