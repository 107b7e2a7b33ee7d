/- The walk of RetryWraps. -/
import Derived.Test.YtgpeekicpkgpmaaRetO
namespace Go.Proofs.Ytgpeekicpkgpmaa
open Go.RowKit

theorem By_lit2 (w : World) (g : Nat) (x y : BitVec 8) (c d : Int) (T : TypeId) (fr : Nat × Nat) (h : c = U x) (h' : d = U y) (hg : g = w.heap.size) : By (w.alloc (.cells #[.int .u8 c, .int .u8 d] T fr)) (.slice (some ⟨g, 0, none⟩) 2 2) [x, y] := by
  subst h; subst h'; subst hg
  refine ⟨rfl, _, 2, rfl, Nat.le_refl _, by decide, (fun e => by cases e), fun b hb j v hj => ?_⟩
  obtain rfl := Option.some.inj hb
  refine ⟨rfl, ?_⟩
  have h0 : (w.alloc (.cells #[.int .u8 (U x), .int .u8 (U y)] T fr)).heap[w.heap.size]? = some (.cells #[.int .u8 (U x), .int .u8 (U y)] T fr) := heap_alloc_new w _
  simp only [World.cell?, h0, Nat.zero_add]
  match j, hj with
  | 0, hj => simpa [cu] using hj
  | 1, hj => simpa [cu] using hj
def twoB (i : Nat) : Bytes := [BitVec.ofNat 8 i, BitVec.ofNat 8 (i / 256)]
theorem two_le (i : Nat) : (twoB i).length ≤ 64 := by simp [twoB]
theorem U_mod (i : Nat) : (i : Int) % 256 = U (BitVec.ofNat 8 i) := by
  unfold U; rw [BitVec.toNat_ofNat]; simp
theorem U_div (i : Nat) (h : i < 65536) : (i : Int) / 256 = U (BitVec.ofNat 8 (i / 256)) := by
  rw [U_small _ (by omega)]; omega
theorem RcvAt.kp {w w' : World} {X : Nat → Prop} {p n : Nat} (h : RcvAt w p n) (hk : Kp X w w') (hp : X p) : RcvAt w' p n := (hk.block p hp (lt_of_block h)).trans h
set_option maxRecDepth 100000 in
set_option maxHeartbeats 4000000 in
theorem wraps_walk (W : World) (a b w n : Nat) (en : (a : Int) % 1001 = (n : Int)) (ew : (b : Int) % 128 + 1 = (w : Int)) 
    (ha : a < 65536) (hb : b < 256) (w1 : 1 ≤ w) (w2 : w ≤ 128) (nn : n ≤ 1000) :
    Calls Try.prog 9 #[.int .u16 a, .int .u8 b] W fun e w' => e = .returned (.bool true) ∧ Below W.heap.size W w' := by
  go_enter Try.func9, Try.ntmps9
  go_wp2_with fail
  refine (awake_any W).mono ?_
  rintro e u1 ⟨rfl, hb⟩
  have HB := Lib.hid hb; have hz1 := hb.size; clear hb
  go_wp2_with fail
  refine (new_sn w 5 u1 (fun x => x < W.heap.size) (fun x hx => by omega) w1 w2 (by omega) (by omega)).mono ?_
  rintro e u2 ⟨rfl, hs, hb⟩
  have HS := Lib.hid hs; have HK := Lib.hid (Kp.of_below (X := fun x => x < W.heap.size) HB.out |>.trans (Kp.of_below hb)); have hz2 := hb.size; have hz2' := hs.plt; clear hs hb
  go_wp2_with fail
  refine (newReceiver_ok u2).mono ?_
  rintro e u3 ⟨rfl, hr, hb⟩
  have HS3 : Hid (Sn u3 (fun x => x < W.heap.size ∨ x = u2.heap.size) u1.heap.size (qS twoB w 0 0 0 0)) := Lib.hid ((HS.out.more fun k hk => hk.imp id fun h => by omega).below hb)
  have HK3 := Lib.hid (HK.out.trans (Kp.of_below hb)); have HR3 := Lib.hid hr; have hz3 := hb.size; clear hr hb HS HK
  go_wp2_with fail
  try simp only [en]
  go_loopw [44] (fun i wr => ∃ j a : Nat, j ≤ n ∧ a ≤ j ∧ j - a < w ∧ Hid (j % w = j - a) ∧ i = .int .i64 j ∧ Hid (Sn wr (fun x => x < W.heap.size ∨ x = u2.heap.size) u1.heap.size (qS twoB w j a (j - a) (j - a))) ∧ Hid (RcvAt wr u2.heap.size j) ∧ Hid (Kp (fun x => x < W.heap.size) W wr)) (fun i _ => n - (intOf i).toNat)
  case atStart => exact ⟨0, 0, by omega, by omega, by omega, Lib.hid (by simp), rfl, HS3, HR3, HK3⟩
  case round =>
    clear HS3 HR3 HK3
    obtain ⟨j, a, hj, haj, hja, HM, rfl, HS, HR, HK⟩ := hrel
    have hzr := HS.out.plt
    have hzr' := lt_of_block HR.out
    by_cases hlt : j < n
    · go_wp2_with fail
      refine (offer_sn (X := fun x => x < W.heap.size ∨ x = u2.heap.size) (HS.out.below ((Below.refl _ _).alloc (Nat.le_refl _) _)) (fun k hk => by have := HK.out.size; simp; omega) (qS_ok two_le w j a _ _ w1 w2 (by omega) (by omega) (by omega)) _ (twoB j) (By_lit2 _ _ _ _ _ _ _ _ (U_mod j) (U_div j (by omega)) rfl)).mono ?_
      rw [qS_offer two_le w j a _ _ haj (by omega)]
      rintro e u4 ⟨he, hs, hk⟩
      obtain rfl : e = .returned (.int .i64 0) := he
      have HS4 := Lib.hid hs; have HR4 := Lib.hid ((HR.out.kp (X := fun x => x < W.heap.size ∨ x = u2.heap.size) ((Kp.refl _ _).alloc _) (.inr rfl)).kp hk (.inr rfl)); have HK4 := Lib.hid ((HK.out.alloc _).trans (hk.mono fun _ h => .inl h)); clear hs hk
      go_wp2_with fail
      refine (tick_sn HS4.out (qS_ok two_le w (j + 1) a (j - a) (j - a) w1 w2 (by omega) (by omega) (by omega)) (qS_total _ _ _ _ _ (by omega) (by omega))).mono ?_
      rw [qS_tick' w (j + 1) a j (j - a) haj (by omega)]
      rintro e u5 ⟨v5, he, ho, hs, hk⟩
      obtain rfl : e = .returned (.tuple #[.int .i64 ((j : Int) % 256), v5, .bool true]) := he.trans (by show Ending.returned (.tuple #[.int .i64 ((j % 256 : Nat) : Int), v5, .bool true]) = _; rw [show ((j % 256 : Nat) : Int) = (j : Int) % 256 by omega])
      have HS5 : Hid (Sn u5 (fun x => x < W.heap.size ∨ x = u2.heap.size) u1.heap.size (qS twoB w (j + 1) a (j + 1 - a) (j + 1 - a))) := Lib.hid (by rw [Nat.max_eq_right (by omega)] at hs; exact hs)
      have HR5 := Lib.hid (HR4.out.kp hk (.inr rfl)); have HK5 := Lib.hid (HK4.out.trans (hk.mono fun _ h => .inl h)); have HY5 := Lib.hid (show By u5 v5 (twoB j) from ho.by)
      have HN5 : Hid (∀ b, v5.ownBlock = some b → b ≠ u2.heap.size) := Lib.hid fun b hb => by have := (ho.byD.2 b hb).1; have := lt_of_block HR4.out; omega
      clear ho hs hk
      go_wp2_with fail
      refine (receive_yes u2.heap.size j v5 (twoB j) u5 HR5.out (by omega) HY5.out (by simp [twoB]) HN5.out).mono ?_
      rintro e u6 ⟨v6, rfl, ho, hr, hf⟩
      have HY6 := Lib.hid (show By u6 v6 (twoB j) from ho.by); have HR6 := Lib.hid hr; have HS6 := Lib.hid (HS5.out.fr hf fun k hk => .inr hk)
      have HK6 := Lib.hid (HK5.out.trans (Kp.of_fr hf fun k hk => by subst hk; omega))
      have HY6' := Lib.hid (show By u6 v5 (twoB j) from Rd.keep HY5.out fun k hk hl => hf.block k hl (HN5.out k hk)); clear ho hr hf
      have hst := run_str8 Try.underlying28 Try.underlying5 Try.underlying9 HY6.out
      have hst2 := run_str8 Try.underlying28 Try.underlying5 Try.underlying9 (show By (u6.alloc (.cells #[.int .u8 ((j : Int) % 256), .int .u8 ((j : Int) / 256)] 5)) (.slice (some ⟨u6.heap.size, 0, none⟩) 2 2) (twoB j) from By_lit2 u6 _ _ _ _ _ _ _ (U_mod j) (U_div j (by omega)) rfl)
      go_wp2_with fail
      refine (receive_no u2.heap.size (j + 1) _ v5 (twoB j) _ (HR6.out.kp (X := fun x => x = u2.heap.size) ((Kp.refl _ _).alloc _) rfl) (HY6'.out.alloc _) (by omega)).mono ?_
      rintro e u7 ⟨rfl, rfl⟩
      clear hst hst2
      have HM' := HM.out
      have e1 := Nat.mod_add_mod j w 1
      rw [HM'] at e1
      by_cases hfull : j + 1 - a = w
      · have HQN : Hid ((j + 1) % w = 0) := Lib.hid (by rw [← e1, show j - a + 1 = w by omega, Nat.mod_self])
        have hq : ((j : Int) + 1) % (w : Int) = 0 := by
          have h2 : (((j + 1) % w : Nat) : Int) = 0 := by rw [HQN.out]; rfl
          rw [Int.natCast_emod] at h2; exact h2
        clear HM' e1
        go_wp2_with fail
        refine (expected_any u2.heap.size (j + 1) _ (HR6.out.kp (X := fun x => x = u2.heap.size) ((Kp.refl _ _).alloc _) rfl)).mono ?_
        rintro e u8 ⟨rfl, rfl⟩
        go_wp2_with fail
        have e256 : ((j : Int) + 1) % 256 = (((j + 1) % 256 : Nat) : Int) := by omega
        rw [e256]
        refine (ack_sn (X := fun x => x < W.heap.size ∨ x = u2.heap.size) (HS6.out.below ((Below.refl _ _).alloc (Nat.le_refl _) _)) (qS_ok two_le w (j + 1) a _ _ w1 w2 (by omega) (by omega) (by omega)) (qS_total _ _ _ _ _ (by omega) (by omega)) _).mono ?_
        rw [qS_ack_all w (j + 1) a (by omega) (by omega)]
        rintro e u8 ⟨he, hs, hk⟩
        obtain rfl : e = .returned (.int .i64 (w : Int)) := he.trans (by show Ending.returned (.int .i64 ((j + 1 - a : Nat) : Int)) = _; rw [hfull])
        have HS8 := Lib.hid hs; have HR8 := Lib.hid ((HR6.out.kp (X := fun x => x < W.heap.size ∨ x = u2.heap.size) ((Kp.refl _ _).alloc _) (.inr rfl)).kp hk (.inr rfl)); have HK8 := Lib.hid ((HK6.out.alloc _).trans (hk.mono fun _ h => .inl h)); clear hs hk e256 hq
        go_wp2_with fail
        go_roundw
        case rel => exact ⟨j + 1, j + 1, by omega, by omega, by omega, Lib.hid (by rw [Nat.sub_self]; exact HQN.out), by go_num, by rw [Nat.sub_self]; exact HS8, HR8, HK8⟩
        case measure => simp [intOf]; omega
      · have hmod : (j + 1) % w = j + 1 - a := by rw [← e1, Nat.mod_eq_of_lt (by omega)]; omega
        have hq : ((j : Int) + 1) % (w : Int) = ((j + 1 - a : Nat) : Int) := by
          rw [← hmod, Int.natCast_emod]; rfl
        have hq1 : (((j + 1 - a : Nat) : Int) == 0) = false := by simp; omega
        have HM2 := Lib.hid hmod
        clear HM' e1 hmod
        go_wp2_with fail
        go_roundw
        case rel => exact ⟨j + 1, a, by omega, by omega, by omega, HM2, by go_num, Lib.hid (HS6.out.below ((Below.refl _ _).alloc (Nat.le_refl _) _)), Lib.hid (HR6.out.kp (X := fun x => x = u2.heap.size) ((Kp.refl _ _).alloc _) rfl), Lib.hid (HK6.out.alloc _)⟩
        case measure => simp [intOf]; omega
    · obtain rfl : n = j := by omega
      go_wp2_with fail
      have hkl : ((qS twoB w n a (n - a) (n - a)).kept.length : Int) = (n : Int) % (w : Int) := by rw [qS_kept, ← HM.out, Int.natCast_emod]
      go_quiet ((first | (go_at_call 30; exact Calls.qs (rtotal_any u2.heap.size n _ HR.out)) | (go_at_call 14; exact Calls.qs (kept_sn (HS.out.dr ⟨_, rfl⟩)))))
      go_wp2_with fail
      go_ret
      exact ⟨rfl, (HK.out.drewN _).below (Nat.le_refl _) fun x hx => hx⟩
theorem walkRetryWraps (W : World) (v0 v1 : Value) (o0 : IsInt .u16 v0) (o1 : IsInt .u8 v1) :
    Calls Try.prog 9 #[v0, v1] W fun e w' => e = .returned (.bool true) ∧ Below W.heap.size W w' := by
  obtain ⟨a, rfl, ha⟩ := int_nat o0 fun x h => (bounds_u16 h).1
  obtain ⟨b, rfl, hb⟩ := int_u8 o1
  have := bounds_u16 ha
  exact wraps_walk W a b (b % 128 + 1) (a % 1001) (by omega) (by omega) (by omega) hb (by omega) (by omega) (by omega)
end Go.Proofs.Ytgpeekicpkgpmaa
