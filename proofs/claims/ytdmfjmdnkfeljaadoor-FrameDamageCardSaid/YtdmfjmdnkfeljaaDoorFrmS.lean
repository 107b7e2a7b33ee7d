/- The contracts of slices.Equal, at equal bytes and at others, and of slices.Clone. -/
import Derived.Test.YtdmfjmdnkfeljaaDoorFrmR
namespace Go.Proofs.YtdmfjmdnkfeljaaDoor
open Go.RowKit

theorem dr_add (w : World) (a b : Nat) : Dr w ((w.drewN a).drewN b) := ⟨a + b, by simp [World.drewN, Nat.add_assoc]⟩
set_option maxRecDepth 100000 in
set_option maxHeartbeats 4000000 in
theorem equal_any (u v : Value) (xs ys : List Byte) (w : World) (hu : By w u xs) (hv : By w v ys) (hm : xs.length ≤ 1000000) (hm2 : ys.length ≤ 1000000) :
    Calls Tryd.prog 19 #[u, v] w fun e w' => e = .returned (.bool (xs == ys)) ∧ Dr w w' := by
  have HU := Lib.hid hu; have HV := Lib.hid hv
  obtain ⟨a, ca, rfl⟩ := hu.slice
  obtain ⟨b, cb, rfl⟩ := hv.slice
  clear hu hv
  by_cases hl : xs.length = ys.length
  · have HL := Lib.hid hl
    have hln : ((xs.length : Int) != (ys.length : Int)) = false := by simp; omega
    have hle1 : xs.length ≤ ys.length := by omega
    clear hl
    go_enter Tryd.func19, Tryd.ntmps19
    go_wp2_with fail
    go_loopw [13] (fun i wr => ∃ k : Nat, k ≤ xs.length ∧ i = .int .i64 (k : Int) ∧ Hid (∀ j, j < k → xs.getD j 0 = ys.getD j 0) ∧ ∃ m, wr = w.drewN m) (fun i _ => xs.length - (intOf i).toNat)
    case atStart => exact ⟨0, by omega, by go_num, Lib.hid (fun j hj => by omega), 0, rfl⟩
    case round =>
      obtain ⟨k, hk, rfl, HA, m, rfl⟩ := hrel
      by_cases hlt : k < xs.length
      · obtain ⟨_, ⟨h0, _⟩ | ⟨b1, o1, c1, e1, _, _, _, hc1⟩⟩ := HU.out.cases
        · rw [h0] at hlt; simp at hlt
        obtain ⟨_, ⟨h0, _⟩ | ⟨b2, o2, c2, e2, _, _, _, hc2⟩⟩ := HV.out.cases
        · have h9 := congrArg List.length h0; simp only [List.length_nil] at h9; omega
        obtain ⟨rfl, rfl⟩ : a = some ⟨b1, o1, none⟩ ∧ ca = c1 := by simpa using e1
        obtain ⟨rfl, rfl⟩ : b = some ⟨b2, o2, none⟩ ∧ cb = c2 := by simpa using e2
        have k1 := hc1 k hlt
        have k2 := hc2 k (by omega)
        clear hc1 hc2 e1 e2
        generalize hx : xs.getD k 0 = x at *
        generalize hy : ys.getD k 0 = y at *
        have HX := Lib.hid hx; have HY := Lib.hid hy
        clear hx hy
        by_cases he : x = y
        · have hne : (x != y) = false := by simpa using he
          have HE := Lib.hid he
          clear he
          go_wp2_with fail
          go_quiet (fail)
          go_wp2_with fail
          go_roundw
          case rel =>
            refine ⟨k + 1, by omega, by go_num, Lib.hid (fun j hj => ?_), _, rfl⟩
            by_cases hjk : j = k
            · subst hjk; rw [HX.out, HY.out, HE.out]
            · exact HA.out j (by omega)
          case measure => simp [intOf]; omega
        · have hne : (x != y) = true := by simpa using he
          have HF := Lib.hid (show (xs == ys) = false by
            rw [Bool.eq_false_iff]
            intro h
            have h2 : xs = ys := by simpa using h
            exact he (by rw [← HX.out, ← HY.out, h2]))
          clear he
          go_wp2_with fail
          go_quiet (fail)
          go_wp2_with fail
          go_ret
          exact ⟨by rw [HF.out]; rfl, dr_add _ _ _⟩
      · obtain rfl : k = xs.length := by omega
        have HF := Lib.hid (show (xs == ys) = true by
          have h2 : xs = ys := List.ext_getElem HL.out fun j h1 h2 => by
            have := HA.out j h1
            simpa [List.getD, h1, h2] using this
          simpa using h2)
        go_wp2_with fail
        go_ret
        exact ⟨by rw [HF.out]; rfl, _, rfl⟩
  · have hln : ((xs.length : Int) != (ys.length : Int)) = true := by simp; omega
    have HF := Lib.hid (show (xs == ys) = false by
      rw [Bool.eq_false_iff]
      intro h
      have h2 : xs = ys := by simpa using h
      exact hl (by rw [h2]))
    clear hl
    go_enter Tryd.func19, Tryd.ntmps19
    go_wp2_with fail
    go_ret
    exact ⟨by rw [HF.out]; rfl, Dr.refl _⟩
end Go.Proofs.YtdmfjmdnkfeljaaDoor
