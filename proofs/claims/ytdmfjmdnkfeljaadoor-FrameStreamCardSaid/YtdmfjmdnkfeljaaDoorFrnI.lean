/- The contracts of slices.EqualFunc and of the law's same, at two lists of the same packets. -/
import Derived.Test.YtdmfjmdnkfeljaaDoorFrnH
import Derived.Test.YtdmfjmdnkfeljaaDoorFrmV
namespace Go.Proofs.YtdmfjmdnkfeljaaDoor
open Go.RowKit

set_option maxRecDepth 100000 in
set_option maxHeartbeats 4000000 in
theorem equalF_refl (v u : Value) (l : List Pk) (w : World) (Z Y : BS) (hv : RdS ePk w Z v l) (hu : RdS ePk w Y u l) (hm : l.length ≤ 100000) :
    Calls Tryd.prog 56 #[v, u, .func (.func 24) #[] #[]] w fun e w' => e = .returned (.bool true) ∧ Below w.heap.size w w' := by
  have HV := Lib.hid hv; have HU := Lib.hid hu
  obtain ⟨va, vc, rfl, _⟩ := hv.shape
  obtain ⟨ua, uc, rfl, _⟩ := hu.shape
  clear hv hu
  go_enter Tryd.func56, Tryd.ntmps56
  go_wp2_with fail
  go_loopw [17] (fun i wr => ∃ k : Nat, k ≤ l.length ∧ i = .int .i64 (k : Int) ∧ Hid (Below w.heap.size w wr)) (fun i _ => l.length - (intOf i).toNat)
  case atStart => exact ⟨0, by omega, by go_num, Lib.hid (Below.refl _ _)⟩
  case round =>
    obtain ⟨k, hk, rfl, HB⟩ := hrel
    by_cases hlt : k < l.length
    · obtain ⟨p, hp⟩ : ∃ p, l[k]? = some p := ⟨l[k], List.getElem?_eq_getElem hlt⟩
      obtain ⟨b, off, pa, pc, rfl, hz1, c0, c1, c2, c3, c4⟩ := pk_at (HV.out.below HB.out) hp
      obtain ⟨g, goff, qa, qc, rfl, hz2, d0, d1, d2, d3, d4⟩ := pk_at (HU.out.below HB.out) hp
      have HZ1 := Lib.hid hz1; have HZ2 := Lib.hid hz2
      have hbl := World.block_lt_of_cell? wr _ c0
      have hgl := World.block_lt_of_cell? wr _ d0
      clear hz1 hz2 hp
      go_wp2_with fail
      refine (sameR_refl p pa qa pc qc _ (HZ1.out.1.below (by (repeat (first | (with_reducible exact Below.refl _ _) | (with_reducible refine Bw.alloc ?_ _) | (with_reducible refine Bw.drewN ?_ _) | (with_reducible refine Bw.drew ?_))))) (HZ2.out.1.below (by (repeat (first | (with_reducible exact Below.refl _ _) | (with_reducible refine Bw.alloc ?_ _) | (with_reducible refine Bw.drewN ?_ _) | (with_reducible refine Bw.drew ?_)))))).mono ?_
      rintro e w' ⟨rfl, hbx⟩
      have HB2 := Lib.hid (HB.out.trans (Below.trans ((show Below wr.heap.size wr _ by (repeat (first | (with_reducible exact Below.refl _ _) | (with_reducible refine Bw.alloc ?_ _) | (with_reducible refine Bw.drewN ?_ _) | (with_reducible refine Bw.drew ?_)))).mono HB.out.size) (hbx.mono (by simp; have := HB.out.size; omega))))
      clear hbx c0 c1 c2 c3 c4 d0 d1 d2 d3 d4
      go_wp2_with fail
      go_roundw
      case rel => exact ⟨k + 1, by omega, by go_num, HB2⟩
      case measure => simp [intOf]; omega
    · go_wp2_with fail
      go_ret
      exact ⟨rfl, HB.out⟩
theorem same_refl (v u : Value) (l : List Pk) (w : World) (Z Y : BS) (hv : RdS ePk w Z v l) (hu : RdS ePk w Y u l) (hm : l.length ≤ 100000) :
    Calls Tryd.prog 34 #[v, u] w fun e w' => e = .returned (.bool true) ∧ Below w.heap.size w w' := by
  have HE := Lib.hid (equalF_refl v u l w Z Y hv hu hm)
  obtain ⟨va, vc, rfl, _⟩ := hv.shape
  obtain ⟨ua, uc, rfl, _⟩ := hu.shape
  clear hv hu
  go_enter Tryd.func34, Tryd.ntmps34
  go_wp2_with fail
  refine HE.out.mono ?_
  rintro e w' ⟨rfl, hb⟩
  have HB := Lib.hid hb
  clear hb
  go_wp2_with fail
  go_ret
  exact ⟨rfl, HB.out⟩
/-- the argument that is a list of packets -/
theorem pks_of {W : World} {v : Value} (h : IsSl rPk W v) : ∃ l, RdS ePk W (Old W) v l := by
  obtain ⟨l, hl⟩ := h
  refine ⟨l, rdS_of (r := rPk) (E := ePk) rfl (by decide) (fun cs p hp => ?_) hl⟩
  obtain ⟨⟨k, c, n, v, pay⟩, ⟨c1, _, h1, ⟨rfl, hk⟩, c2, _, rfl, ⟨rfl, _⟩, c3, _, rfl, ⟨rfl, _⟩, c4, _, rfl, ⟨rfl, _⟩, x, rfl, hb⟩, rfl⟩ := hp
  have hk' := bounds_u8 hk
  refine ⟨x, ?_, byZ_of hb⟩
  have hu : U (BitVec.ofInt 8 k) = k := ofInt_U k (by omega) (by omega)
  show cs = [.int .u8 (U (BitVec.ofInt 8 k)), _, _, _, _]
  rw [hu, h1]; rfl
end Go.Proofs.YtdmfjmdnkfeljaaDoor
