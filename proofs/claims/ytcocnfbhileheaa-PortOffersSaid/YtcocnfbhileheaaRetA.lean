/- bytes.Clone; blocks of a struct. -/
import Derived.Test.YtcocnfbhileheaaMgA
import Derived.Test.YtcocnfbhileheaaMgB
import Derived.Test.YtcocnfbhileheaaRows
import Derived.WalkLawsBesides
import Derived.Deep.QuietTactic
import Derived.BigQuiet
import Derived.BigRegion
import Derived.Deep.RegionWith
namespace Go.Proofs.Ytcocnfbhileheaa
open Go.RowKit

theorem slB : SlT Try.prog 31 5 (.int .u8 0) 1 1 := ⟨Try.underlying31, info_parts (by kernel_rfl), rfl, by decide⟩
theorem By.slice {w : World} {v : Value} {bs : List (BitVec 8)} (h : By w v bs) : ∃ a cap, v = .slice a bs.length cap := by
  obtain ⟨_, a, cap, rfl, _⟩ := h; exact ⟨a, cap, rfl⟩
theorem By.parts {w : World} {a : Option Addr} {l c : Nat} {bs : List (BitVec 8)} (h : By w (.slice a l c) bs) : l = bs.length ∧ l ≤ c ∧ c ≤ maxLen ∧ (a = none → l = 0 ∧ c = 0) := by
  obtain ⟨_, a', c', e, h1, h2, h3, _⟩ := h
  obtain ⟨rfl, rfl, rfl⟩ : a = a' ∧ l = bs.length ∧ c = c' := by simpa using e
  exact ⟨rfl, h1, h2, h3⟩
theorem By.alloc {w : World} {v : Value} {bs : List (BitVec 8)} (h : By w v bs) (o : Obj) : By (w.alloc o) v bs := h.below ((Below.refl _ _).alloc (Nat.le_refl _) _)
theorem By.drewN {w : World} {v : Value} {bs : List (BitVec 8)} (h : By w v bs) (n : Nat) : By (w.drewN n) v bs := Rd.keep h fun _ _ _ => rfl
/-- the row of a clone: new, with a place of its own -/
theorem clone_nil (w : World) : Calls Try.prog 44 #[.slice none 0 0] w fun e w' => e = .returned (.slice none 0 0) ∧ w = w' := by
  have hn := fun a n c n' c' => Lib.run_eql_slice_nil (P := Try.prog) w 31 5 a n c n' c' Try.underlying31
  go_enter Try.func44, Try.ntmps44
  go_wp2
  go_ret
  exact ⟨rfl, rfl⟩
theorem clone_some (ad : Addr) (cap : Nat) (bs : List (BitVec 8)) (w : World) (hv : By w (.slice (some ad) bs.length cap) bs) (hm : bs.length ≤ 1048576) :
    Calls Try.prog 44 #[.slice (some ad) bs.length cap] w fun e w' => ∃ v', e = .returned v' ∧ Ow 5 w' w.heap.size v' bs ∧ Below w.heap.size w w' := by
  have HV := Lib.hid hv; clear hv
  have hn := fun a n c n' c' => Lib.run_eql_slice_nil (P := Try.prog) w 31 5 a n c n' c' Try.underlying31
  go_enter Try.func44, Try.ntmps44
  go_wp2_with (at_builtin; refine wpList_app slB rfl _ _ rfl w.heap.size _ 0 [] rfl (World.ownsRow_made _ _ 0 (Nat.le_refl _) (Nat.zero_le _) rfl) _ bs.length (cu bs) rfl (By.alloc HV.out _) cu_one (by unfold maxLen; omega) (by omega) (by simp) ?_; intro v2 w2 hown2 hg2 hiff; clear hiff; have HB2 := Lib.hid (((Below.refl w.heap.size w).alloc (Nat.le_refl _) _).grown hg2 (by simp) (fun k e => by cases e; exact Nat.le_refl _)); have HO2 := Lib.hid (show Ow _ w2 w.heap.size v2 bs by simpa [Ow] using hown2); clear hown2 hg2)
  go_ret
  exact ⟨_, rfl, HO2.out, HB2.out⟩
/-- bytes.Clone: the same bytes, in new memory -/
theorem clone_any (v : Value) (bs : List (BitVec 8)) (w : World) (hv : By w v bs) (hm : bs.length ≤ 1048576) :
    Calls Try.prog 44 #[v] w fun e w' => ∃ v', e = .returned v' ∧ Ow 5 w' w.heap.size v' bs ∧ Below w.heap.size w w' := by
  obtain ⟨a, cap, rfl⟩ := hv.slice
  cases a with
  | some ad => exact clone_some ad cap bs w hv hm
  | none =>
    have hp := hv.parts.2.2.2 rfl
    have : bs = [] := List.eq_nil_of_length_eq_zero hp.1
    subst this
    obtain ⟨_, rfl⟩ := hp
    refine (clone_nil w).mono fun e w' ⟨he, hw⟩ => ?_
    subst hw
    exact ⟨_, he, World.ownsRow_nil _ _ _ _, Below.refl _ _⟩

theorem ow_shape {w : World} {e : TypeId} {base : Nat} {v : Value} {bs : List (BitVec 8)} (h : Ow e w base v bs) : ∃ a cap, v = .slice a bs.length cap := by
  obtain ⟨_, ⟨rfl, h0⟩ | ⟨g, cap, cur, rfl, _⟩⟩ := h
  · exact ⟨none, 0, by rw [h0]⟩
  · exact ⟨_, cap, rfl⟩
theorem ow_one {w : World} {e : TypeId} {base : Nat} {v : Value} {bs : List (BitVec 8)} (h : Ow e w base v bs) : v.oneCell' = true := by
  obtain ⟨_, ⟨rfl, _⟩ | ⟨g, cap, cur, rfl, _⟩⟩ := h <;> rfl
end Go.Proofs.Ytcocnfbhileheaa
