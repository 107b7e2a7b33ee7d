/- Strings made of bytes that are read. -/
import Derived.Test.YtdmfjmdnkfeljaaDoorMem
import Derived.Laws.BytesArg
namespace Go.Proofs.YtdmfjmdnkfeljaaDoor
open Go.RowKit

/-- the string with these bytes (a plain def, so that simp does not open it) -/
def str8 (bs : List (BitVec 8)) : ByteArray := strOfNums (bs.map U)
theorem str8_toList (bs : List (BitVec 8)) : (str8 bs).toList = bs.map fun x => UInt8.ofBitVec x := by
  rw [ByteArray.toList_eq]
  show (bs.map U).map (fun n => UInt8.ofNat n.toNat) = _
  rw [List.map_map]
  refine List.map_congr_left fun x _ => ?_
  show UInt8.ofNat (U x).toNat = _
  rw [U_toNat]
  apply UInt8.toBitVec_inj.1
  show BitVec.ofNat 8 x.toNat = x
  simp
theorem str8_inj {a b : List (BitVec 8)} (h : (str8 a).toList = (str8 b).toList) : a = b := by
  rw [str8_toList, str8_toList] at h
  have h2 := congrArg (List.map UInt8.toBitVec) h
  rw [List.map_map, List.map_map] at h2
  have e : ∀ l : List (BitVec 8), l.map (UInt8.toBitVec ∘ fun x => UInt8.ofBitVec x) = l := fun l => by
    conv => rhs; rw [← List.map_id l]
    rfl
  rwa [e, e] at h2
@[go_sem] theorem str8_beq (a b : List (BitVec 8)) : ((str8 a).toList == (str8 b).toList) = (a == b) := by
  rw [Bool.eq_iff_iff, beq_iff_eq, beq_iff_eq]
  exact ⟨str8_inj, fun h => by rw [h]⟩
theorem str8_size (bs : List (BitVec 8)) : (str8 bs).size = bs.length := by unfold str8; rw [strOfNums_size, List.length_map]
/-- string(v) of a slice that reads as bytes -/
theorem run_str8 {P : Program} {src e dst : TypeId} (hs : P.underlying src = some (.slice e)) (he : P.underlying e = some (.int .u8)) (hd : P.underlying dst = some .string) {w : World} {v : Value} {bs : List (BitVec 8)} (hv : By w v bs) :
    (convert src dst v).run P w = .ok (.string (str8 bs)) w := by
  obtain ⟨_, ⟨rfl, a, cap, rfl, _⟩ | ⟨b, off, cap, rfl, _, _, _, hc⟩⟩ := hv.cases
  · cases a with
    | none => exact run_convert_bytes_nil (P := P) w src e hs he 0 cap dst hd
    | some a =>
      obtain ⟨l, hl⟩ : ∃ l : List Int, l = [] := ⟨_, rfl⟩
      have hld : (loadCells a 0).run P w = .ok (([] : List Int).map (Value.int .u8)).toArray w := by
        have := run_loadCells_list (P := P) w a [] (fun j v hj => by simp at hj)
        simpa using this
      rw [run_convert_bytes_string w src dst e _ 0 cap hs he hd, run_bytesToString w _ 0 cap [] hld]
      rfl
  · have := run_convert_bytes_arg (P := P) w src e hs he b off bs.length cap (bs.map U) (by simp) (fun i hi => by rw [hc i hi]; simp [hi]) dst hd
    exact this
end Go.Proofs.YtdmfjmdnkfeljaaDoor
