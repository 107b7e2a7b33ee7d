/- The contract of linecode.Decode. The table of symbols must lie as laid; at most 100000 symbols. -/
import Derived.Test.YtdmfjmdnkfeljaaDoorFrmB
namespace Go.Proofs.YtdmfjmdnkfeljaaDoor
open Go.RowKit

theorem or_shift (i n x : Nat) (hx : x < 2 ^ i) (hb : n * 2 ^ i + x < 4611686018427387904) : bits .or .i64 ((n * 2 ^ i : Nat) : Int) (x : Int) = ((n * 2 ^ i + x : Nat) : Int) := by
  show IntKind.i64.wrap ((BitVec.ofInt 64 ((n * 2 ^ i : Nat) : Int) ||| BitVec.ofInt 64 (x : Int)).toNat : Int) = _
  have h1 : (BitVec.ofInt 64 ((n * 2 ^ i : Nat) : Int)).toNat = n * 2 ^ i := by rw [BitVec.toNat_ofInt]; omega
  have h2 : (BitVec.ofInt 64 (x : Int)).toNat = x := by rw [BitVec.toNat_ofInt]; omega
  rw [BitVec.toNat_or, h1, h2]
  have h3 : n * 2 ^ i ||| x = n * 2 ^ i + x := by rw [Nat.mul_comm, ← Nat.two_pow_add_eq_or_of_lt hx]
  rw [h3]
  exact IntWalk.i64_in _ (by omega)
theorem or_16 (u v : Nat) (hu : u < 16) (hv : v < 16) : bits .or .i64 ((u : Int) * 16) (v : Int) = ((u * 16 + v : Nat) : Int) := by
  have := or_shift 4 u v (by omega) (by omega)
  exact this
theorem find_bad {ss : List Byte} {k : Nat} (h : ∀ j, j < k → isData (ss.getD j 0) = true) (hk : k < ss.length) (hn : isData (ss.getD k 0) = false) : ss.findIdx? (fun s => !isData s) = some k := by
  rw [List.findIdx?_eq_some_iff_getElem]
  refine ⟨hk, ?_, fun j hj => ?_⟩
  · have : ss[k] = ss.getD k 0 := by simp [List.getD, hk]
    rw [this, hn]; rfl
  · have hjl : j < ss.length := by omega
    have : ss[j] = ss.getD j 0 := by simp [List.getD, hjl]
    rw [this, h j hj]; simp
theorem all_data {ss : List Byte} (h : ∀ j, j < ss.length → isData (ss.getD j 0) = true) : ∀ s ∈ ss, isData s = true := fun s hs => by
  obtain ⟨j, hj, rfl⟩ := List.getElem_of_mem hs
  have := h j hj
  simpa [List.getD, hj] using this
theorem dec_take2 (ss : List Byte) (m : Nat) (h : 2 * m + 1 < ss.length) : decB (ss.take (2 * (m + 1))) = decB (ss.take (2 * m)) ++ [BitVec.ofNat 8 (16 * idx (ss.getD (2 * m) 0) + idx (ss.getD (2 * m + 1) 0))] := by
  have e : ss.take (2 * (m + 1)) = ss.take (2 * m) ++ [ss.getD (2 * m) 0, ss.getD (2 * m + 1) 0] := by
    rw [show 2 * (m + 1) = (2 * m + 1) + 1 by omega, take_getD ss (2 * m + 1) 0 h, take_getD ss (2 * m) 0 (by omega), List.append_assoc]; rfl
  rw [e, decB_app _ _ _ (by rw [List.length_take]; omega)]
/-- what Decode returns -/
def DecP (w : World) (ss : List Byte) (e : Ending) (w' : World) : Prop := ∃ v', e = .returned (.tuple #[v', .int .i64 (decS ss).2.1, .int .i64 (decS ss).2.2]) ∧ Nb w' w.heap.size v' (decS ss).1 ∧ Below w.heap.size w w'
theorem DecP.mk {w w' : World} {ss : List Byte} {r : List Byte × Int × Int} (h : decS ss = r) {v' : Value} (h1 : Nb w' w.heap.size v' r.1) (h2 : Below w.heap.size w w') : DecP w ss (.returned (.tuple #[v', .int .i64 r.2.1, .int .i64 r.2.2])) w' := by
  subst h; exact ⟨v', rfl, h1, h2⟩
set_option maxRecDepth 100000 in
set_option maxHeartbeats 8000000 in
theorem dec_any (v : Value) (ss : List Byte) (w : World) (hb : By w v ss) (hv : Val w) (hm : ss.length ≤ 100000) :
    Calls Tryd.prog 60 #[v] w (DecP w ss) := by
  have HB := Lib.hid hb; have HV := Lib.hid hv
  obtain ⟨a, cap, rfl⟩ := hb.slice
  clear hb hv
  go_enter Tryd.func60, Tryd.ntmps60
  go_wp2_with (at_make; refine wpList_mk slB rfl _ _ rfl w.heap.size _ rfl rfl (by omega) (by omega) (by unfold maxLen; omega) (Nat.le_refl _) ?_; intro w1 hown1 hg1; have HB1 := Lib.hid ((Below.refl w.heap.size w).grown hg1 (Nat.le_refl _) (fun k e => by cases e)); have HO1 := Lib.hid (show Nb w1 w.heap.size _ [] from Sl.of_own hown1 fun _ h => h); clear hown1 hg1)
  go_loopw [5, 6, 18] (fun u5 u6 i wr => ∃ (k m up : Nat), k ≤ ss.length ∧ i = .int .i64 (k : Int) ∧ u6 = .int .i64 (up : Int) ∧ up < 16 ∧ 2 * m ≤ k ∧ k ≤ 2 * m + 1 ∧ Hid (k = 2 * m + 1 → up = idx (ss.getD (2 * m) 0)) ∧ Hid (∀ j, j < k → isData (ss.getD j 0) = true) ∧ Hid (Nb wr w.heap.size u5 (decB (ss.take (2 * m)))) ∧ Hid (Below w.heap.size w wr)) (fun _ _ i _ => ss.length - (intOf i).toNat)
  case atStart => exact ⟨0, 0, 0, by omega, by go_num, by go_num, by omega, by omega, by omega, Lib.hid (by omega), Lib.hid (fun j hj => by omega), HO1, HB1⟩
  case round =>
    clear HO1 HB1
    obtain ⟨k, m, up, hk, rfl, rfl, hup, hkm1, hkm2, HUP, HDA, HO, HBW⟩ := hrel
    by_cases hlt : k < ss.length
    · obtain ⟨_, ⟨h0, _⟩ | ⟨bb, off, cp, e, _, _, _, hc⟩⟩ := (HB.out.below HBW.out).cases
      · rw [h0] at hlt; simp at hlt
      · obtain ⟨rfl, rfl⟩ : a = some ⟨bb, off, none⟩ ∧ cap = cp := by simpa using e
        have hck := hc k hlt
        clear hc e
        obtain ⟨x, hx⟩ : ∃ x, x = ss.getD k 0 := ⟨_, rfl⟩
        rw [← hx] at hck
        have HX := Lib.hid hx
        clear hx
        by_cases hd : idx x < 16
        · have HVV : Hid (valV x = .tuple #[.int .i64 (idx x : Int), .bool false, .int .i64 0]) := Lib.hid (by unfold valV; rw [if_pos hd])
          obtain ⟨y, hy⟩ : ∃ y, y = idx x := ⟨_, rfl⟩
          rw [← hy] at hd HVV
          have HY := Lib.hid hy
          clear hy
          have HDA2 : Hid (∀ j, j < k + 1 → isData (ss.getD j 0) = true) := Lib.hid (fun j hj => by
            by_cases hjk : j = k
            · rw [hjk, ← HX.out]; unfold isData; rw [← HY.out]; simpa using hd
            · exact HDA.out j (by omega))
          go_wp2_with fail
          refine (value_any x wr (HV.out.below HBW.out)).mono ?_
          rintro e w' ⟨rfl, rfl⟩
          rw [HVV.out]
          by_cases he : k = 2 * m
          · have hev : ((k : Int) % 2 == 0) = true := by simp; omega
            have HE := Lib.hid he
            clear he
            go_wp2_with fail
            go_roundw
            case rel => exact ⟨k + 1, m, y, by omega, by go_num, by go_num, hd, by have := HE.out; omega, by have := HE.out; omega, Lib.hid (fun _ => by rw [HY.out, HX.out, HE.out]), HDA2, HO, HBW⟩
            case measure => simp [intOf]; omega
          · have hev : ((k : Int) % 2 == 0) = false := by simp; omega
            have hup1 := HUP.out (by omega)
            have HU1 := Lib.hid hup1
            have hor := or_16 up y hup hd
            have HD2 := Lib.hid (dec_take2 ss m (by omega))
            have HN := Lib.hid he
            clear hup1 he
            have hxl : (decB (ss.take (2 * m))).length ≤ 100000 := by rw [decB_length, List.length_take]; omega
            obtain ⟨bt, hbt⟩ : ∃ bt : Byte, bt = BitVec.ofNat 8 (16 * up + y) := ⟨_, rfl⟩
            have HBT := Lib.hid (show [Value.int .u8 ((up : Int) * 16 + (y : Int))] = cu [bt] by
              have e1 : (up : Int) * 16 + (y : Int) = ((16 * up + y : Nat) : Int) := by omega
              have e2 : U bt = ((16 * up + y : Nat) : Int) := by rw [hbt]; unfold U; rw [BitVec.toNat_ofNat]; omega
              rw [e1, ← e2]; rfl)
            have HD3 := Lib.hid (show decB (ss.take (2 * (m + 1))) = decB (ss.take (2 * m)) ++ [bt] by
              have hk1 : k = 2 * m + 1 := by have := HN.out; omega
              rw [HD2.out, hbt, HU1.out, HY.out, HX.out, hk1])
            clear hbt
            generalize decB (ss.take (2 * m)) = xs at *
            have hwr := HBW.out.size
            go_wp2_with (at_builtin; refine wpList_nb rfl _ _ rfl w.heap.size _ xs rfl (by exact HO.out.below (by (repeat (first | (with_reducible exact Below.refl _ _) | (with_reducible refine Bw.alloc ?_ _) | (with_reducible refine Bw.drewN ?_ _) | (with_reducible refine Bw.drew ?_))))) _ [bt] rfl (By_lit _ _ _ _ [bt] 1 1 rfl HBT.out rfl (Nat.le_refl _) (by decide)) (by show xs.length + 1 ≤ _; omega) (by simp; omega) ?_; intro a' c' w2 hn2 hb2; have HN2 := Lib.hid hn2; have HB2 := Lib.hid (HBW.out.trans (Below.trans ((show Below wr.heap.size wr _ by (repeat (first | (with_reducible exact Below.refl _ _) | (with_reducible refine Bw.alloc ?_ _) | (with_reducible refine Bw.drewN ?_ _) | (with_reducible refine Bw.drew ?_)))).mono hwr) hb2)); clear hn2 hb2)
            go_roundw
            case rel => exact ⟨k + 1, m + 1, up, by omega, by go_num, rfl, hup, by have := HN.out; omega, by have := HN.out; omega, Lib.hid (fun h => by have := HN.out; omega), HDA2, Lib.hid (by rw [HD3.out]; exact HN2.out), HB2⟩
            case measure => simp [intOf]; omega
        · have hdf : isData x = false := by unfold isData; simpa using hd
          have HFB := Lib.hid (decS_bad (find_bad HDA.out hlt (by rw [← HX.out]; exact hdf)))
          have hi20 := idx_le x
          by_cases h20 : idx x < 20
          · have HVV : Hid (valV x = .tuple #[.int .i64 ((idx x : Int) - 16), .bool true, .int .i64 0]) := Lib.hid (by unfold valV; rw [if_neg hd, if_pos h20])
            go_wp2_with fail
            refine (value_any x wr (HV.out.below HBW.out)).mono ?_
            rintro e w' ⟨rfl, rfl⟩
            rw [HVV.out]
            go_wp2_with fail
            go_ret3
            exact DecP.mk HFB.out (Nb.nil _ _) HBW.out
          · have HVV : Hid (valV x = .tuple #[.int .i64 0, .bool false, .int .i64 3]) := Lib.hid (by unfold valV; rw [if_neg hd, if_neg h20])
            go_wp2_with fail
            refine (value_any x wr (HV.out.below HBW.out)).mono ?_
            rintro e w' ⟨rfl, rfl⟩
            rw [HVV.out]
            go_wp2_with fail
            go_ret3
            exact DecP.mk HFB.out (Nb.nil _ _) HBW.out
    · have hkl : k = ss.length := by omega
      have HKL := Lib.hid hkl
      have HAD := Lib.hid (all_data (ss := ss) (by rw [← hkl]; exact HDA.out))
      clear hkl
      by_cases hev : ss.length % 2 = 0
      · have htt : ((ss.length : Int) % 2 != 0) = false := by simp; omega
        have HDS := Lib.hid (decS_good HAD.out hev)
        have HTK := Lib.hid (show ss.take (2 * m) = ss from List.take_of_length_le (by have := HKL.out; omega))
        clear hev
        go_wp2_with fail
        go_ret3
        exact DecP.mk HDS.out (by have := HO.out; rw [HTK.out] at this; exact this) HBW.out
      · have htt : ((ss.length : Int) % 2 != 0) = true := by simp; omega
        have HDS := Lib.hid (decS_odd HAD.out hev)
        clear hev
        go_wp2_with fail
        go_ret3
        exact DecP.mk HDS.out (Nb.nil _ _) HBW.out
end Go.Proofs.YtdmfjmdnkfeljaaDoor
