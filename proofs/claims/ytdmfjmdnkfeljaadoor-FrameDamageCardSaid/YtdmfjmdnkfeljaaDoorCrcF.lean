/- The contracts of crc.Append and of the reference's Append. -/
import Derived.Test.YtdmfjmdnkfeljaaDoorCrcH
import Derived.Test.YtdmfjmdnkfeljaaDoorMgC
namespace Go.Proofs.YtdmfjmdnkfeljaaDoor
open Go.RowKit

theorem slB : SlT Tryd.prog 22 5 (.int .u8 0) 1 1 := ⟨Tryd.underlying22, info_parts (by kernel_rfl), rfl, by decide⟩

theorem shr_u32_8nat (yk : IntKind) (x : BitVec 32) (k : Nat) : Op.shift .shr .u32 (U x) yk (8 * (k : Int)) = pure (.int .u32 (U (x >>> (8 * k)))) := shr_u32_nat yk x (8 * k)
attribute [go_sem ↓ high] shr_u32_8nat
@[go_sem] theorem u32_u8_bv (x : BitVec 32) : U x % 256 = U (x.setWidth 8) := by
  unfold U; rw [BitVec.toNat_setWidth]; rfl
@[go_sem] theorem wrap_u8_u32_bv (x : BitVec 32) : IntKind.u8.wrap (U x) = U (x.setWidth 8) := by
  rw [IntKind.wrap_u8]; exact u32_u8_bv x
theorem grown_below {B : Nat} {a w w' : World} {row : Option Nat} (h : Below B a w) (hg : w.grownBy w' row) (hB : B ≤ w.heap.size) (hr : ∀ k, row = some k → B ≤ k) : Below B a w' := h.grown hg hB hr
theorem ow_lt {T : TypeId} {w : World} {base : Nat} {v : Value} {bs : List (BitVec 8)} (h : Ow T w base v bs) : ∀ k, v.ownBlock = some k → base ≤ k := fun k hk => (World.ownsRow.lt h k hk).1
theorem Ow.alloc {T : TypeId} {w : World} {base : Nat} {v : Value} {bs : List (BitVec 8)} (h : Ow T w base v bs) (o : Obj) : Ow T (w.alloc o) base v bs := World.ownsRow.alloc h o
theorem ow_app {T : TypeId} {w : World} {base : Nat} {v : Value} {xs ys : List (BitVec 8)} (h : w.ownsRow base T 1 v (xs.length + ys.length) (cu xs ++ cu ys)) : Ow T w base v (xs ++ ys) := by
  unfold Ow; rw [List.length_append, ← cu_app]; exact h

set_option maxHeartbeats 1000000 in
theorem append_any (v : Value) (bs : List (BitVec 8)) (w : World) (hv : By w v bs) (ht : Tab w) (hm : bs.length ≤ 1048576) :
    Calls Tryd.prog 38 #[v] w fun e w' => ∃ v', e = .returned v' ∧ Ow 5 w' w.heap.size v' (sealed bs) ∧ Below w.heap.size w w' := by
  have HV := Lib.hid hv
  have HT := Lib.hid ht; clear ht
  obtain ⟨a, cap, rfl⟩ := hv.slice
  clear hv
  go_enter Tryd.func38, Tryd.ntmps38
  go_wp2_with fail
  refine (sum_any _ bs _ HV.out HT.out).mono ?_
  rintro e w1 ⟨rfl, rfl⟩
  generalize hS : csum bs = S at *
  have HS := Lib.hid hS; clear hS
  go_wp2_with (first
    | (at_make; refine wpList_mk slB rfl _ _ rfl w.heap.size _ rfl rfl (by omega) (by omega) (by unfold maxLen; omega) (Nat.le_refl _) ?_; intro w1 hown1 hg1; have HB1 := Lib.hid ((Below.refl w.heap.size w).grown hg1 (Nat.le_refl _) (fun k e => by cases e)); have HO1 := Lib.hid hown1; clear hown1 hg1)
    | (at_builtin; refine wpList_app slB rfl _ _ rfl w.heap.size _ 0 [] rfl HO1.out _ bs.length (cu bs) rfl (HV.out.below HB1.out) cu_one (by unfold maxLen; omega) (by omega) HB1.out.size ?_; intro v2 w2 hown2 hg2 _; have HB2 := Lib.hid (HB1.out.grown hg2 HB1.out.size (fun k e => by cases e; exact Nat.le_refl _)); have HO2 := Lib.hid hown2; clear hown2 hg2 HO1))
  have hO2 : Ow 5 w2 w.heap.size v2 bs := by simpa [Ow] using HO2.out
  have HO3 := Lib.hid hO2; clear hO2
  go_loopw [4, 15] (fun v i wr => ∃ k : Nat, k ≤ 4 ∧ i = .int .i64 k ∧ Hid (Ow 5 wr w.heap.size v (bs ++ (le4 S).take k)) ∧ Hid (Below w.heap.size w wr)) (fun _ i _ => 4 - (intOf i).toNat)
  case atStart => exact ⟨0, by omega, rfl, Lib.hid (by simpa using HO3.out), HB2⟩
  case round =>
    obtain ⟨k, hk, rfl, HO, HB⟩ := hrel
    by_cases hlt : k < 4
    · have hlen : (bs ++ (le4 S).take k).length ≤ 1048580 := by simp [le4]; omega
      have hsz := HB.out.size
      generalize hxs : bs ++ (le4 S).take k = xs at *
      have HX := Lib.hid hxs; clear hxs
      go_wp2_with (at_builtin; refine wpList_app slB rfl _ _ rfl w.heap.size _ xs.length (cu xs) rfl (HO.out.alloc _) _ 1 (cu [(S >>> (8 * k)).setWidth 8]) rfl (By_lit _ _ _ _ [(S >>> (8 * k)).setWidth 8] 1 1 rfl (by rfl) rfl (Nat.le_refl _) (by decide)) cu_one (by unfold maxLen; omega) (by omega) (by simp; omega) ?_; intro v3 w3 hown3 hg3 _; have HB3 := Lib.hid ((HB.out.alloc hsz _).grown hg3 (by simp; omega) (ow_lt HO.out)); have HO3 := Lib.hid (ow_app (ys := [(S >>> (8 * k)).setWidth 8]) hown3); clear hown3 hg3)
      go_roundw
      case rel => exact ⟨k + 1, by omega, by go_num, Lib.hid (by rw [le4_take S k hlt, ← List.append_assoc, HX.out]; exact HO3.out), HB3⟩
      case measure => simp [intOf]; omega
    · obtain rfl : k = 4 := by omega
      go_wp2_with fail
      go_ret
      have hO := HO.out
      rw [← HS.out] at hO
      exact ⟨_, rfl, hO, HB.out⟩
end Go.Proofs.YtdmfjmdnkfeljaaDoor
