/- The contracts of crc.Check, of the reference's Append and Sealed. -/
import Derived.Test.YtmpigciommmjcaaDoorCrcF
namespace Go.Proofs.YtmpigciommmjcaaDoor
open Go.RowKit

set_option maxHeartbeats 1000000 in
theorem refAppend_any (v : Value) (bs : List (BitVec 8)) (w : World) (hv : By w v bs) (hm : bs.length ≤ 1048576) :
    Calls Tryd.prog 19 #[v] w fun e w' => ∃ v', e = .returned v' ∧ Ow 5 w' w.heap.size v' (sealed bs) ∧ Below w.heap.size w w' := by
  have HV := Lib.hid hv
  obtain ⟨a, cap, rfl⟩ := hv.slice
  clear hv
  go_enter Tryd.func19, Tryd.ntmps19
  go_wp2_with (at_builtin; refine wpList_app slB rfl _ _ rfl w.heap.size _ 0 [] rfl (World.ownsRow_made _ _ 0 (Nat.le_refl _) (Nat.zero_le _) rfl) _ bs.length (cu bs) rfl (By.alloc HV.out _) cu_one (by unfold maxLen; omega) (by omega) (by simp) ?_; intro v2 w2 hown2 hg2 _; have HB2 := Lib.hid (((Below.refl w.heap.size w).alloc (Nat.le_refl _) _).grown hg2 (by simp) (fun k e => by cases e; exact Nat.le_refl _)); have HO2 := Lib.hid hown2; clear hown2 hg2)
  have hO2 : Ow 5 w2 w.heap.size v2 bs := by simpa [Ow] using HO2.out
  have HO3 := Lib.hid hO2; clear hO2
  refine (refsum_any _ bs _ (HV.out.below HB2.out)).mono ?_
  rintro e w1 ⟨rfl, rfl⟩
  generalize hS : csum bs = S at *
  have HS := Lib.hid hS; clear hS
  go_wp2_with fail
  go_loopw [3, 5] (fun v i wr => ∃ k : Nat, k ≤ 4 ∧ i = .int .i64 k ∧ Hid (Ow 5 wr w.heap.size v (bs ++ (le4 S).take k)) ∧ Hid (Below w.heap.size w wr)) (fun _ i _ => 4 - (intOf i).toNat)
  case atStart => exact ⟨0, by omega, rfl, Lib.hid (by simpa using HO3.out), HB2⟩
  case round =>
    obtain ⟨k, hk, rfl, HO, HB⟩ := hrel
    by_cases hlt : k < 4
    · have hlen : (bs ++ (le4 S).take k).length ≤ 1048580 := by simp [le4]; omega
      have hsz := HB.out.size
      generalize hxs : bs ++ (le4 S).take k = xs at *
      have HX := Lib.hid hxs; clear hxs
      go_wp2_with (at_builtin; refine wpList_app slB rfl _ _ rfl w.heap.size _ xs.length (cu xs) rfl (HO.out.alloc _) _ 1 (cu [(S >>> (8 * k)).setWidth 8]) rfl (By_lit _ _ _ _ [(S >>> (8 * k)).setWidth 8] 1 1 rfl (by rfl) rfl (Nat.le_refl _) (by decide)) cu_one (by unfold maxLen; omega) (by omega) (by simp; omega) ?_; intro v3 w3 hown3 hg3 _; have HB3 := Lib.hid ((HB.out.alloc hsz _).grown hg3 (by simp; omega) (ow_lt HO.out)); have HO3 := Lib.hid (ow_app (ys := [(S >>> (8 * k)).setWidth 8]) hown3); clear hown3 hg3)
      go_roundw
      case rel => exact ⟨k + 1, by omega, by go_num, Lib.hid (by rw [le4_take S k hlt, ← List.append_assoc, HX.out]; exact HO3.out), HB3⟩
      case measure => simp [intOf]; omega
    · obtain rfl : k = 4 := by omega
      go_wp2_with fail
      go_ret
      have hO := HO.out
      rw [← HS.out] at hO
      exact ⟨_, rfl, hO, HB.out⟩

theorem shl_u32_8nat (yk : IntKind) (x : BitVec 32) (k : Nat) (hk : k < 4) : Op.shift .shl .u32 (U x) yk (8 * (k : Int)) = pure (.int .u32 (U (x <<< (8 * k)))) := by
  rw [shift_shl .u32 yk (U x) (8 * (k : Int)) (by omega) (by have : ((IntKind.u32.bits : Nat) : Int) = 32 := rfl; omega)]
  congr 2
  rw [IntKind.wrap_u32]
  unfold U
  rw [BitVec.toNat_shiftLeft, Nat.shiftLeft_eq]
  have e : (8 * (k : Int)).toNat = 8 * k := by omega
  rw [e]
  have e2 : (2 : Int) ^ (8 * k) = ((2 ^ (8 * k) : Nat) : Int) := by simp
  rw [e2, ← Int.natCast_mul]
  rfl

attribute [go_sem ↓ high] shl_u32_8nat
/-- Check at fewer than four bytes -/
theorem check_short (a : Option Addr) (n cap : Nat) (hn : n < 4) (w : World) :
    Calls Tryd.prog 20 #[.slice a n cap] w fun e w' => e = .returned (.tuple #[.slice none 0 0, .int .i64 4]) ∧ Dr w w' := by
  go_enter Tryd.func20, Tryd.ntmps20
  go_wp2
  go_ret2
  exact ⟨rfl, Dr.refl _⟩
theorem getD_drop {α : Type} (l : List α) (n k : Nat) (d : α) : (l.drop n).getD k d = l.getD (n + k) d := by
  simp [List.getD, List.getElem?_drop]
set_option maxHeartbeats 1000000 in
/-- Check at four bytes or more -/
theorem check_long (v : Value) (bs : List (BitVec 8)) (h4 : 4 ≤ bs.length) (hm : bs.length ≤ 1048576) (w : World) (hv : By w v bs) (ht : Tab w) :
    Calls Tryd.prog 20 #[v] w fun e w' => (isSealed bs = false ∧ e = .returned (.tuple #[.slice none 0 0, .int .i64 9]) ∧ Below w.heap.size w w') ∨
      (isSealed bs = true ∧ ∃ v', e = .returned (.tuple #[v', .int .i64 0]) ∧ Ow 5 w' w.heap.size v' (bs.take (bs.length - 4)) ∧ Below w.heap.size w w') := by
  have HV := Lib.hid hv
  have HT := Lib.hid ht; clear ht
  obtain ⟨_, ⟨rfl, a, cap, rfl, _⟩ | ⟨b, off, cap, rfl, h0, hcap, hcm, hc⟩⟩ := hv.cases
  · simp at h4
  clear hv
  obtain ⟨n, hn⟩ : ∃ n, bs.length = n + 4 := ⟨bs.length - 4, by omega⟩
  have en : bs.length - 4 = n := by omega
  rw [hn] at h4 hm hcap hc HV ⊢
  have hS : isSealed bs = (rd4 (bs.drop n) 4 == csum (bs.take n)) := by unfold isSealed; rw [en]
  rw [hS]
  have en2 : n + 4 - 4 = n := by omega
  rw [en2]
  have HN := Lib.hid hn; clear hn en hS en2
  go_enter Tryd.func20, Tryd.ntmps20
  go_wp2_with fail
  go_loop [5, 12] (fun s i => ∃ k : Nat, k ≤ 4 ∧ i = .int .i64 k ∧ s = .int .u32 (U (rd4 (bs.drop n) k))) (fun _ i => 4 - (intOf i).toNat)
  case atStart => exact ⟨0, by omega, rfl, rfl⟩
  case round =>
    obtain ⟨k, hk, rfl, rfl⟩ := hrel
    by_cases hlt : k < 4
    · have hck := hc (n + k) (by omega)
      have hR : rd4 (bs.drop n) (k + 1) = rd4 (bs.drop n) k ||| ((bs.getD (n + k) 0).setWidth 32 <<< (8 * k)) := by
        show _ ||| (((bs.drop n).getD k 0).setWidth 32 <<< (8 * k)) = _
        rw [getD_drop]
      have HR := Lib.hid hR; clear hR hc
      generalize hr : rd4 (bs.drop n) k = r at *
      generalize hx : bs.getD (n + k) 0 = x at *
      have Hr := Lib.hid hr; clear hr
      have Hx := Lib.hid hx; clear hx
      go_wp2_with fail
      go_round
      case rel => exact ⟨k + 1, by omega, by go_num, by rw [HR.out]⟩
      case measure => simp [intOf]; omega
    · obtain rfl : k = 4 := by omega
      have ht' := By.take (n := n) HV.out (by omega)
      have HT' := Lib.hid ht'; clear ht'
      go_wp2_with fail
      refine (sum_any _ (bs.take n) _ HT'.out HT.out).mono ?_
      rintro e w1 ⟨rfl, rfl⟩
      generalize hr : rd4 (bs.drop n) 4 = r at *
      generalize hS : csum (bs.take n) = S at *
      have Hr := Lib.hid hr; clear hr
      have HS := Lib.hid hS; clear hS
      have hln : (bs.take n).length = n := by rw [List.length_take, HN.out]; omega
      by_cases he : r = S
      · have h1 : (r != S) = false := by simpa using he
        have he' : (r == S) = true := by simpa using he
        have He := Lib.hid he'; clear he' he
        go_wp2_with (at_builtin; refine wpList_app slB rfl _ _ rfl w.heap.size _ 0 [] rfl (World.ownsRow_nil _ _ _ _) _ n (cu (bs.take n)) rfl (by have := HT'.out; unfold By at this; rw [hln] at this; exact this) cu_one (by unfold maxLen; omega) (by omega) (Nat.le_refl _) ?_; intro v2 w2 hown2 hg2 _; have HB2 := Lib.hid ((Below.refl w.heap.size w).grown hg2 (Nat.le_refl _) (fun k e => by cases e)); have HO2 := Lib.hid hown2; clear hown2 hg2)
        have hO2 : Ow 5 w2 w.heap.size v2 (bs.take n) := by unfold Ow; rw [hln]; simpa using HO2.out
        have HO3 := Lib.hid hO2; clear hO2
        go_ret2
        exact .inr ⟨by rw [Hr.out, HS.out]; exact He.out, _, rfl, HO3.out, HB2.out⟩
      · have h1 : (r != S) = true := by simpa using he
        have he' : (r == S) = false := by simpa using he
        have He := Lib.hid he'; clear he' he
        go_wp2_with fail
        go_ret2
        exact .inl ⟨by rw [Hr.out, HS.out]; exact He.out, rfl, Below.refl _ _⟩

/-- the reference's Sealed at fewer than four bytes -/
theorem sealed_short (a : Option Addr) (n cap : Nat) (hn : n < 4) (w : World) :
    Calls Tryd.prog 21 #[.slice a n cap] w fun e w' => e = .returned (.bool false) ∧ Dr w w' := by
  go_enter Tryd.func21, Tryd.ntmps21
  go_wp2
  go_ret
  exact ⟨rfl, Dr.refl _⟩
theorem U_ne8 (x y : BitVec 8) : (U x != U y) = (x != y) := U_ne_dec x y
set_option maxHeartbeats 1000000 in
theorem sealed_long (v : Value) (bs : List (BitVec 8)) (h4 : 4 ≤ bs.length) (hm : bs.length ≤ 1048576) (w : World) (hv : By w v bs) :
    Calls Tryd.prog 21 #[v] w fun e w' => e = .returned (.bool (isSealed bs)) ∧ Below w.heap.size w w' := by
  have HV := Lib.hid hv
  obtain ⟨_, ⟨rfl, a, cap, rfl, _⟩ | ⟨b, off, cap, rfl, h0, hcap, hcm, hc⟩⟩ := hv.cases
  · simp at h4
  clear hv
  obtain ⟨n, hn⟩ : ∃ n, bs.length = n + 4 := ⟨bs.length - 4, by omega⟩
  have hS := isSealed_iff bs h4
  have en : bs.length - 4 = n := by omega
  rw [en] at hS
  rw [hn] at h4 hm hcap hc HV ⊢
  have hln : (sealed (bs.take n)).length = n + 4 := by rw [sealed_length, List.length_take, hn]; omega
  have hltn : (bs.take n).length = n := by rw [List.length_take, hn]; omega
  have HN := Lib.hid hn; clear hn en
  have HS := Lib.hid hS; clear hS
  have ht' := By.take (n := n) HV.out (by omega)
  have HT' := Lib.hid ht'; clear ht'
  have Hltn := Lib.hid hltn; clear hltn
  have Hln := Lib.hid hln; clear hln
  go_enter Tryd.func21, Tryd.ntmps21
  go_wp2_with fail
  refine (refAppend_any _ (bs.take n) _ HT'.out (by rw [Hltn.out]; omega)).mono ?_
  rintro e w1 ⟨v1, rfl, hO1, hB1⟩
  obtain ⟨_, ⟨h0', _⟩ | ⟨b2, off2, cap2, rfl, _, _, _, hc2⟩⟩ := hO1.by.cases
  · have := Hln.out; rw [h0'] at this; simp at this
  rw [Hln.out] at hc2 ⊢
  have hcw : ∀ k, k < n + 4 → w1.cell? ⟨b, off + k, none⟩ = some (.int .u8 (U (bs.getD k 0))) := by
    intro k hk
    have h := hc k hk
    have hlt := World.block_lt_of_cell? w _ h
    exact (Below.cell hB1 (p := ⟨b, off + k, none⟩) hlt).trans h
  have HB := Lib.hid hB1; clear hB1 hc hO1
  go_wp2_with fail
  go_loopw [4] (fun i wr => ∃ k : Nat, k ≤ n + 4 ∧ i = .int .i64 k ∧ (∀ j, j < k → bs.getD j 0 = (sealed (bs.take n)).getD j 0) ∧ ∃ m, wr = w1.drewN m) (fun i _ => n + 4 - (intOf i).toNat)
  case atStart => exact ⟨0, by omega, rfl, fun j hj => by omega, 0, rfl⟩
  case round =>
    obtain ⟨k, hk, rfl, hall, m, rfl⟩ := hrel
    have HA := Lib.hid hall; clear hall
    by_cases hlt : k < n + 4
    · have hck := hcw k hlt
      have hck2 := hc2 k hlt
      have hcw' := Lib.hid hcw; clear hcw
      have hc2' := Lib.hid hc2; clear hc2
      generalize hx : bs.getD k 0 = x at *
      generalize hy : (sealed (bs.take n)).getD k 0 = y at *
      have Hx := Lib.hid hx; clear hx
      have Hy := Lib.hid hy; clear hy
      by_cases he : y = x
      · have h1 : (y != x) = false := by simpa using he
        have He := Lib.hid he; clear he
        go_wp2_with fail
        go_quiet (fail)
        go_wp2_with fail
        go_roundw
        case rel =>
          refine ⟨k + 1, by omega, by go_num, fun j hj => ?_, _, rfl⟩
          by_cases hjk : j = k
          · subst hjk; rw [Hx.out, Hy.out, He.out]
          · exact HA.out j (by omega)
        case measure => simp [intOf]; omega
      · have h1 : (y != x) = true := by simpa using he
        have He := Lib.hid he; clear he
        have hf : isSealed bs = false := by
          rw [Bool.eq_false_iff]
          intro ht
          have := HS.out.1 ht
          apply He.out
          rw [← Hx.out, ← Hy.out, ← this]
        have HF := Lib.hid hf; clear hf
        go_wp2_with fail
        go_quiet (fail)
        go_wp2_with fail
        go_ret
        exact ⟨by rw [HF.out]; rfl, below_drewN (below_drewN HB.out _) _⟩
    · obtain rfl : k = n + 4 := by omega
      have ht : isSealed bs = true := by
        rw [HS.out]
        apply List.ext_getElem
        · rw [Hln.out]; exact HN.out
        · intro j h1 h2
          have := HA.out j (by have := HN.out; omega)
          simpa [List.getD, h1, h2] using this
      have HF := Lib.hid ht; clear ht
      go_wp2_with fail
      go_ret
      exact ⟨by rw [HF.out]; rfl, below_drewN HB.out _⟩
end Go.Proofs.YtmpigciommmjcaaDoor
