/- The contract of bytes.Equal at equal bytes. -/
import Derived.Test.YtbibippdafnenaaMgA
import Derived.WalkKit
import Derived.WalkSpells
import Derived.WalkLawsBesides
import Derived.Lib.Hide
import Derived.Laws.BytesArg
namespace Go.Proofs.Ytbibippdafnenaa
open Go.RowKit

/-- bytes as a string -/
def strB (bs : List (BitVec 8)) : ByteArray := strOfNums (bs.map fun x => U x)
theorem run_convert_by {w : World} {a : Option Addr} {n c : Nat} {bs : List (BitVec 8)} (h : By w (.slice a n c) bs) : (convert 30 9 (.slice a n c)).run Try.prog w = .ok (.string (strB bs)) w := by
  obtain ⟨_, ⟨rfl, a', c', e, h1, h2⟩ | ⟨b, off, c', e, h0, h1, h2, h3⟩⟩ := h.cases
  · obtain ⟨rfl, rfl, rfl⟩ : a = a' ∧ n = 0 ∧ c = c' := by simpa using e
    cases a with
    | none => exact run_convert_bytes_nil w _ _ Try.underlying30 Try.underlying5 _ _ _ Try.underlying9
    | some a =>
      rw [run_convert_bytes_string w _ _ _ _ _ _ Try.underlying30 Try.underlying5 Try.underlying9]
      have hl : (loadCells a 0).run Try.prog w = .ok (([] : List Int).map (Value.int .u8)).toArray w := by
        simpa using run_loadCells_list (P := Try.prog) w a [] (fun j v hj => by simp at hj)
      rw [run_bytesToString w a 0 c [] hl]
      rfl
  · obtain ⟨rfl, rfl, rfl⟩ : a = some ⟨b, off, none⟩ ∧ n = bs.length ∧ c = c' := by simpa using e
    refine run_convert_bytes_arg w _ _ Try.underlying30 Try.underlying5 b off _ _ (bs.map fun x => U x) (by simp) (fun i hi => ?_) _ Try.underlying9
    rw [h3 i hi]
    simp [List.getD, List.getElem?_map, List.getElem?_eq_getElem hi]
set_option maxRecDepth 100000 in
set_option maxHeartbeats 4000000 in
theorem bytesEqual_refl {u v : Value} {bs : List (BitVec 8)} {w : World} (hu : By w u bs) (hv : By w v bs) :
    Calls Try.prog 33 #[u, v] w fun e w' => e = .returned (.bool true) ∧ w = w' := by
  obtain ⟨a, ca, rfl⟩ : ∃ a cap, u = .slice a bs.length cap := by obtain ⟨_, a, cap, e, _⟩ := hu; exact ⟨a, cap, e⟩
  obtain ⟨b, cb, rfl⟩ : ∃ a cap, v = .slice a bs.length cap := by obtain ⟨_, a, cap, e, _⟩ := hv; exact ⟨a, cap, e⟩
  have h1 := run_convert_by hu
  have h2 := run_convert_by hv
  generalize strB bs = s at h1 h2
  have h3 : (s.toList == s.toList) = true := by simp
  clear hu hv
  go_enter Try.func33, Try.ntmps33
  go_wp2_with fail
  go_ret
  exact ⟨by simp, rfl⟩
end Go.Proofs.Ytbibippdafnenaa
