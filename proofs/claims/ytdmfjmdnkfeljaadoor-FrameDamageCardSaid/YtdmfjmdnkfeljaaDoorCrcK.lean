/- The contract of crc.Check. -/
import Derived.Test.YtdmfjmdnkfeljaaDoorCrcF
namespace Go.Proofs.YtdmfjmdnkfeljaaDoor
open Go.RowKit

theorem shl_u32_8nat (yk : IntKind) (x : BitVec 32) (k : Nat) (hk : k < 4) : Op.shift .shl .u32 (U x) yk (8 * (k : Int)) = pure (.int .u32 (U (x <<< (8 * k)))) := by
  rw [shift_shl .u32 yk (U x) (8 * (k : Int)) (by omega) (by have : ((IntKind.u32.bits : Nat) : Int) = 32 := rfl; omega)]
  congr 2
  rw [IntKind.wrap_u32]
  unfold U
  rw [BitVec.toNat_shiftLeft, Nat.shiftLeft_eq]
  have e : (8 * (k : Int)).toNat = 8 * k := by omega
  rw [e]
  have e2 : (2 : Int) ^ (8 * k) = ((2 ^ (8 * k) : Nat) : Int) := by simp
  rw [e2, ← Int.natCast_mul]
  rfl

attribute [go_sem ↓ high] shl_u32_8nat
/-- Check at fewer than four bytes -/
theorem check_short (a : Option Addr) (n cap : Nat) (hn : n < 4) (w : World) :
    Calls Tryd.prog 44 #[.slice a n cap] w fun e w' => e = .returned (.tuple #[.slice none 0 0, .int .i64 4]) ∧ Dr w w' := by
  go_enter Tryd.func44, Tryd.ntmps44
  go_wp2
  go_ret2
  exact ⟨rfl, Dr.refl _⟩
theorem getD_drop {α : Type} (l : List α) (n k : Nat) (d : α) : (l.drop n).getD k d = l.getD (n + k) d := by
  simp [List.getD, List.getElem?_drop]
set_option maxHeartbeats 1000000 in
/-- Check at four bytes or more -/
theorem check_long (v : Value) (bs : List (BitVec 8)) (h4 : 4 ≤ bs.length) (hm : bs.length ≤ 1048576) (w : World) (hv : By w v bs) (ht : Tab w) :
    Calls Tryd.prog 44 #[v] w fun e w' => (isSealed bs = false ∧ e = .returned (.tuple #[.slice none 0 0, .int .i64 9]) ∧ Below w.heap.size w w') ∨
      (isSealed bs = true ∧ ∃ v', e = .returned (.tuple #[v', .int .i64 0]) ∧ Ow 5 w' w.heap.size v' (bs.take (bs.length - 4)) ∧ Below w.heap.size w w') := by
  have HV := Lib.hid hv
  have HT := Lib.hid ht; clear ht
  obtain ⟨_, ⟨rfl, a, cap, rfl, _⟩ | ⟨b, off, cap, rfl, h0, hcap, hcm, hc⟩⟩ := hv.cases
  · simp at h4
  clear hv
  obtain ⟨n, hn⟩ : ∃ n, bs.length = n + 4 := ⟨bs.length - 4, by omega⟩
  have en : bs.length - 4 = n := by omega
  rw [hn] at h4 hm hcap hc HV ⊢
  have hS : isSealed bs = (rd4 (bs.drop n) 4 == csum (bs.take n)) := by unfold isSealed; rw [en]
  rw [hS]
  have en2 : n + 4 - 4 = n := by omega
  rw [en2]
  have HN := Lib.hid hn; clear hn en hS en2
  go_enter Tryd.func44, Tryd.ntmps44
  go_wp2_with fail
  go_loop [5, 12] (fun s i => ∃ k : Nat, k ≤ 4 ∧ i = .int .i64 k ∧ s = .int .u32 (U (rd4 (bs.drop n) k))) (fun _ i => 4 - (intOf i).toNat)
  case atStart => exact ⟨0, by omega, rfl, rfl⟩
  case round =>
    obtain ⟨k, hk, rfl, rfl⟩ := hrel
    by_cases hlt : k < 4
    · have hck := hc (n + k) (by omega)
      have hR : rd4 (bs.drop n) (k + 1) = rd4 (bs.drop n) k ||| ((bs.getD (n + k) 0).setWidth 32 <<< (8 * k)) := by
        show _ ||| (((bs.drop n).getD k 0).setWidth 32 <<< (8 * k)) = _
        rw [getD_drop]
      have HR := Lib.hid hR; clear hR hc
      generalize hr : rd4 (bs.drop n) k = r at *
      generalize hx : bs.getD (n + k) 0 = x at *
      have Hr := Lib.hid hr; clear hr
      have Hx := Lib.hid hx; clear hx
      go_wp2_with fail
      go_round
      case rel => exact ⟨k + 1, by omega, by go_num, by rw [HR.out]⟩
      case measure => simp [intOf]; omega
    · obtain rfl : k = 4 := by omega
      have ht' := By.take (n := n) HV.out (by omega)
      have HT' := Lib.hid ht'; clear ht'
      go_wp2_with fail
      refine (sum_any _ (bs.take n) _ HT'.out HT.out).mono ?_
      rintro e w1 ⟨rfl, rfl⟩
      generalize hr : rd4 (bs.drop n) 4 = r at *
      generalize hS : csum (bs.take n) = S at *
      have Hr := Lib.hid hr; clear hr
      have HS := Lib.hid hS; clear hS
      have hln : (bs.take n).length = n := by rw [List.length_take, HN.out]; omega
      by_cases he : r = S
      · have h1 : (r != S) = false := by simpa using he
        have he' : (r == S) = true := by simpa using he
        have He := Lib.hid he'; clear he' he
        go_wp2_with (at_builtin; refine wpList_app slB rfl _ _ rfl w.heap.size _ 0 [] rfl (World.ownsRow_nil _ _ _ _) _ n (cu (bs.take n)) rfl (by have := HT'.out; unfold By at this; rw [hln] at this; exact this) cu_one (by unfold maxLen; omega) (by omega) (Nat.le_refl _) ?_; intro v2 w2 hown2 hg2 _; have HB2 := Lib.hid ((Below.refl w.heap.size w).grown hg2 (Nat.le_refl _) (fun k e => by cases e)); have HO2 := Lib.hid hown2; clear hown2 hg2)
        have hO2 : Ow 5 w2 w.heap.size v2 (bs.take n) := by unfold Ow; rw [hln]; simpa using HO2.out
        have HO3 := Lib.hid hO2; clear hO2
        go_ret2
        exact .inr ⟨by rw [Hr.out, HS.out]; exact He.out, _, rfl, HO3.out, HB2.out⟩
      · have h1 : (r != S) = true := by simpa using he
        have he' : (r == S) = false := by simpa using he
        have He := Lib.hid he'; clear he' he
        go_wp2_with fail
        go_ret2
        exact .inl ⟨by rw [Hr.out, HS.out]; exact He.out, rfl, Below.refl _ _⟩
end Go.Proofs.YtdmfjmdnkfeljaaDoor
