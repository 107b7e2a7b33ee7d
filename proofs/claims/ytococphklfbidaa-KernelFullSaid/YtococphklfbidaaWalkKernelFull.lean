/- The walk of KernelFull. -/
import Derived.Test.YtococphklfbidaaKerK
import Derived.Test.YtococphklfbidaaRow
namespace Go.Proofs.Ytococphklfbidaa
open Go.RowKit Go.Maps

/-- i events wait -/
structure Many (i : Nat) (q : Qu) : Prop where
  ok : q.Ok
  now : q.now ≤ 6
  last : q.last = i
  at' : ∀ e ∈ q.evs, e.at' ≤ 6
theorem Many.push {i : Nat} {q : Qu} (h : Many i q) (hl : q.evs.length < 10000) {a k n g : Int} (ha : okAt q.now a k n = true) (h6 : a ≤ 6) (hg : -9223372036854775808 ≤ g ∧ g ≤ 9223372036854775807) : Many (i + 1) (q.push a k n g).1 ∧ (q.push a k n g).2 = (((i + 1 : Nat) : Int), 0) ∧ (q.push a k n g).1.evs.length = q.evs.length + 1 ∧ (q.push a k n g).1.now = q.now := by
  have hok := Qu.push_ok h.ok (a := a) (k := k) (n := n) hg
  rw [Qu.push_go ha hl] at hok ⊢
  refine ⟨⟨hok, h.now, by show q.last + 1 = _; rw [h.last], fun e he => ?_⟩, by rw [h.last], ins_length _ _, rfl⟩
  rcases ins_mem.1 he with rfl | he
  · exact h6
  · exact h.at' e he
theorem Many.pop {i : Nat} {q : Qu} (h : Many i q) (hl : 0 < q.evs.length) : Many i q.pop.1 ∧ q.pop.2.2 = true ∧ q.pop.1.evs.length = q.evs.length - 1 := by
  obtain ⟨now, n, evs⟩ := q
  cases evs with
  | nil => simp at hl
  | cons e l => exact ⟨⟨Qu.tail_ok h.ok, h.at' e List.mem_cons_self, h.last, fun x hx => h.at' x (List.mem_cons_of_mem _ hx)⟩, rfl, rfl⟩
set_option maxRecDepth 100000 in
set_option maxHeartbeats 8000000 in
theorem walkKernelFull (W : World) (v0 : Value) (o0 : IsInt .u8 v0) :
    Calls Try.prog 4 #[v0] W fun e w' => e = .returned (.bool true) ∧ Below W.heap.size W w' := by
  obtain ⟨m, rfl, hm⟩ := int_u8' o0
  obtain ⟨n, hn⟩ : ∃ q : Nat, q = m % 16 := ⟨_, rfl⟩
  have hn2 : (m : Int) % 16 = (n : Int) := by omega
  have hn3 : n < 16 := by omega
  clear hn
  have HN2 := Lib.hid hn2; clear hn2
  have HS := Lib.hid (Held.start0 (fun _ => False) (fun _ => False) (fun _ f _ => f) W)
  go_enter Try.func4, Try.ntmps4
  go_wp2_with fail
  refine (awake_any W).mono ?_
  rintro e w1 ⟨rfl, hb⟩
  have H1 := Lib.hid (HS.out.own hb); clear hb
  go_wp2_with fail
  refine (new_h H1.out).mono ?_
  rintro e w2 ⟨p, rfl, h⟩
  have H2 := Lib.hid (show Held (fun _ => False) (fun _ => False) W [tQu p Qu.new] w2 from h); clear h
  go_wp2_with fail
  try simp only [HN2.out]
  go_loopw [22] (fun i wr => ∃ (j : Nat) (q : Qu), j ≤ 10000 ∧ i = .int .i64 (j : Int) ∧ Hid (Many j q ∧ q.evs.length = j ∧ q.now = 0) ∧ Hid (Held (fun _ => False) (fun _ => False) W [tQu p q] wr)) (fun i _ => 10000 - (intOf i).toNat)
  case atStart => exact ⟨0, _, by omega, by go_num, Lib.hid ⟨⟨Qu.new_ok, by decide, rfl, fun e h => by cases h⟩, rfl, rfl⟩, H2⟩
  case round =>
    clear H2
    obtain ⟨j, q, hj, rfl, HM, HH⟩ := hrel
    by_cases hlt : j < 10000
    · obtain ⟨h1, h2, h3, h4⟩ := HM.out.1.push (by rw [HM.out.2.1]; exact hlt) (a := (j : Int) % 7) (k := (j : Int) % 3) (n := (n : Int)) (g := (j : Int)) (okAt_iff.2 (by rw [HM.out.2.2]; omega)) (by omega) (by omega)
      have HP := Lib.hid (show Many (j + 1) (q.push ((j : Int) % 7) ((j : Int) % 3) (n : Int) (j : Int)).1 ∧ _ ∧ _ from ⟨h1, h3.trans (by rw [HM.out.2.1]), h4.trans HM.out.2.2⟩); have HP2 := Lib.hid h2; clear h1 h2 h3 h4
      go_wp2_with fail
      refine (push_h HH.out 0 rfl HM.out.1.ok (by rw [HM.out.1.last]; omega) _ _ _ _).mono ?_
      rintro e w3 ⟨rfl, h⟩
      rw [HP2.out]
      have H3 := Lib.hid (show Held (fun _ => False) (fun _ => False) W [tQu p (q.push ((j : Int) % 7) ((j : Int) % 3) (n : Int) (j : Int)).1] w3 from h); clear h
      go_wp2_with fail
      go_roundw
      case rel => exact ⟨j + 1, _, by omega, by go_num, HP, H3⟩
      case measure => simp [intOf]; omega
    · obtain rfl : j = 10000 := by omega
      have hfull : q.push 6 0 (n : Int) 0 = (q, 0, 5) := Qu.push_full (okAt_iff.2 (by rw [HM.out.2.2]; omega)) (by rw [HM.out.2.1]; omega)
      obtain ⟨p1, p2, p3⟩ := HM.out.1.pop (by rw [HM.out.2.1]; omega)
      have hlen := p3.trans (by rw [HM.out.2.1])
      have hnow := p1.ok.now0
      have hnow6 := p1.now
      obtain ⟨r1, r2, r3, r4⟩ := p1.push (by omega) (a := 6) (k := 0) (n := (n : Int)) (g := 0) (okAt_iff.2 (by omega)) (by omega) (by omega)
      have hfull2 : (q.pop.1.push 6 0 (n : Int) 0).1.push 6 0 (n : Int) 0 = ((q.pop.1.push 6 0 (n : Int) 0).1, 0, 5) := Qu.push_full (okAt_iff.2 (by rw [r4]; omega)) (by omega)
      have hl3 : (q.pop.1.push 6 0 (n : Int) 0).1.evs.length = 10000 := by omega
      obtain ⟨q1, hq1⟩ : ∃ q1, q1 = q.pop.1 := ⟨_, rfl⟩
      obtain ⟨e1, he1⟩ : ∃ e1, e1 = q.pop.2.1 := ⟨_, rfl⟩
      rw [← hq1] at p1 r1 r2 hfull2 hl3
      obtain ⟨q2, hq2⟩ : ∃ q2, q2 = (q1.push 6 0 (n : Int) 0).1 := ⟨_, rfl⟩
      rw [← hq2] at r1 hfull2 hl3
      have HF := Lib.hid hfull; have HP1 := Lib.hid p1; have HP2 := Lib.hid p2; have HR1 := Lib.hid r1; have HR2 := Lib.hid r2; have HF2 := Lib.hid hfull2; have HL3 := Lib.hid hl3; have HQ1 := Lib.hid hq1; have HQ2 := Lib.hid hq2; have HE1 := Lib.hid he1
      clear hfull p1 p2 p3 hlen hnow hnow6 r1 r2 r3 r4 hfull2 hl3 hq1 hq2 he1
      go_wp2_with fail
      refine (push_h HH.out 0 rfl HM.out.1.ok (by rw [HM.out.1.last]; omega) _ _ _ _).mono ?_
      rintro e w3 ⟨rfl, h⟩
      rw [HF.out] at h ⊢
      have H3 := Lib.hid (show Held (fun _ => False) (fun _ => False) W [tQu p q] w3 from h); clear h
      go_wp2_with fail
      refine (pop_h H3.out 0 rfl HM.out.1.ok (by rw [HM.out.1.last]; omega)).mono ?_
      rintro e w4 ⟨rfl, h⟩
      rw [← HE1.out, HP2.out]
      have H4 := Lib.hid (show Held (fun _ => False) (fun _ => False) W [tQu p q1] w4 by rw [HQ1.out]; exact h); clear h
      go_wp2_with fail
      refine (push_h (H4.out.alloc _) 0 rfl HP1.out.ok (by rw [HP1.out.last]; omega) _ _ _ _).mono ?_
      rintro e w5 ⟨rfl, h⟩
      rw [HR2.out]
      have H5 := Lib.hid (show Held (fun _ => False) (fun _ => False) W [tQu p q2] w5 by rw [HQ2.out]; exact h); clear h
      go_wp2_with fail
      refine (push_h H5.out 0 rfl HR1.out.ok (by rw [HR1.out.last]; omega) _ _ _ _).mono ?_
      rintro e w6 ⟨rfl, h⟩
      rw [HF2.out] at h ⊢
      have H6 := Lib.hid (show Held (fun _ => False) (fun _ => False) W [tQu p q2] w6 from h); clear h
      go_wp2_with (go_at_call 15; refine (len_h H6.out 0 rfl).mono ?_; rintro e w8 ⟨rfl, rfl⟩; rw [HL3.out])
      go_ret
      exact ⟨rfl, H6.out.below⟩
end Go.Proofs.Ytococphklfbidaa
