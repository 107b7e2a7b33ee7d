/- The contracts of crc.Update, crc.Sum and of the reference's Register and Sum. -/
import Derived.Test.YtdmfjmdnkfeljaaDoorRows
import Derived.Test.YtdmfjmdnkfeljaaDoorMgA
import Derived.Test.YtdmfjmdnkfeljaaDoorMgC
import Derived.WalkKit
import Derived.WalkSpells
import Derived.WalkLawsBesides
import Derived.Lib.Hide
namespace Go.Proofs.YtdmfjmdnkfeljaaDoor
open Go.RowKit

attribute [go_sem] nib_fold
@[go_sem] theorem and15_lt (r : BitVec 32) : U (r &&& 15#32) < 16 := by
  unfold U; rw [BitVec.toNat_and]; have : r.toNat &&& (15#32).toNat < 16 := Nat.lt_of_le_of_lt Nat.and_le_right (by decide)
  omega
/-- the table lies in the block of the package-level variable -/
def Tab (w : World) : Prop := ∀ r : BitVec 32, w.cell? ⟨1, N (r &&& 15#32), none⟩ = some (.int .u32 (U (rem4 r)))

set_option maxHeartbeats 400000 in
theorem update_ne (sum : BitVec 32) (b off cap : Nat) (xs : List (BitVec 8)) (w : World) (hm : xs.length ≤ maxLen)
   (hc : ∀ k, k < xs.length → w.cell? ⟨b, off + k, none⟩ = some (.int .u8 (U (xs.getD k 0))))
   (ht : ∀ r : BitVec 32, w.cell? ⟨1, N (r &&& 15#32), none⟩ = some (.int .u32 (U (rem4 r)))) :
    Calls Tryd.prog 61 #[.int .u32 (U sum), .slice (some ⟨b, off, none⟩) xs.length cap] w fun e w' => e = .returned (.int .u32 (U (upd sum xs))) ∧ w = w' := by
  unfold maxLen at hm
  go_enter Tryd.func61, Tryd.ntmps61
  go_wp2
  go_loop [5, 12] (fun r i => ∃ k : Nat, k ≤ xs.length ∧ i = .int .i64 k ∧ r = .int .u32 (U (reg (~~~ sum) (xs.take k)))) (fun _ i => xs.length - (intOf i).toNat)
  case atStart => exact ⟨0, Nat.zero_le _, rfl, rfl⟩
  case round =>
    obtain ⟨k, hk, rfl, rfl⟩ := hrel
    by_cases hlt : k < xs.length
    · have hck := hc k (by omega)
      have hR := reg_snoc (~~~sum) xs k hlt
      have HR := Lib.hid hR; clear hR hc
      generalize hR : reg (~~~sum) (xs.take k) = R at *
      generalize hx : xs.getD k 0 = x at *
      have HR2 := Lib.hid hR; clear hR
      have HR3 := Lib.hid hx; clear hx
      go_wp2
      go_round
      case rel => exact ⟨k + 1, by omega, by go_num, by rw [HR.out]; rfl⟩
      case measure => simp [intOf]; omega
    · have hk' : k = xs.length := by omega
      go_wp2
      go_ret
      exact ⟨rfl, rfl⟩

set_option maxHeartbeats 400000 in
theorem update_nil (sum : BitVec 32) (a : Option Addr) (cap : Nat) (w : World) :
    Calls Tryd.prog 61 #[.int .u32 (U sum), .slice a 0 cap] w fun e w' => e = .returned (.int .u32 (U (upd sum []))) ∧ w = w' := by
  go_enter Tryd.func61, Tryd.ntmps61
  go_wp2
  refine wp_loop_rounds 1 ?_; rw [rounds_succ]
  go_wp2
  go_ret
  have e : upd sum [] = sum := by simp [upd, reg]
  rw [e]
  exact ⟨rfl, rfl⟩

theorem update_any (sum : BitVec 32) (v : Value) (bs : List (BitVec 8)) (w : World) (hv : By w v bs) (ht : Tab w) :
    Calls Tryd.prog 61 #[.int .u32 (U sum), v] w fun e w' => e = .returned (.int .u32 (U (upd sum bs))) ∧ w = w' := by
  obtain ⟨hm, ⟨rfl, a, cap, rfl, _⟩ | ⟨b, off, cap, rfl, _, _, _, hc⟩⟩ := hv.cases
  · exact update_nil sum a cap w
  · exact update_ne sum b off cap bs w hm hc ht

set_option maxHeartbeats 400000 in
theorem sum_any (v : Value) (bs : List (BitVec 8)) (w : World) (hv : By w v bs) (ht : Tab w) :
    Calls Tryd.prog 57 #[v] w fun e w' => e = .returned (.int .u32 (U (csum bs))) ∧ w = w' := by
  have H := Lib.hid (update_any 0 v bs w hv ht)
  clear hv ht
  go_enter Tryd.func57, Tryd.ntmps57
  go_wp2_with fail
  refine H.out.mono ?_
  rintro e w' ⟨rfl, rfl⟩
  go_wp2
  go_ret
  exact ⟨rfl, rfl⟩
end Go.Proofs.YtdmfjmdnkfeljaaDoor
