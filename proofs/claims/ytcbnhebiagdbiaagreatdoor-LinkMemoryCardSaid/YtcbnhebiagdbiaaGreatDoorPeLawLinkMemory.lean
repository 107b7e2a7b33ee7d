/- What LawLinkMemory needs besides. -/
import Derived.Test.YtcbnhebiagdbiaaGreatDoorRows
import Derived.Test.YtcbnhebiagdbiaaGreatDoorPkA1
import Derived.ProofKit
import Derived.OpenShut
import Derived.ShutString
import Derived.ChangeOld
import Derived.Below
import Derived.Test.YtcbnhebiagdbiaaGreatDoorPeWalkLinkMemory
namespace Go.Proofs.YtcbnhebiagdbiaaGreatDoor
open Go.ChangeShapes Go.WideShapes Go.ChangeAt Go.RowKit

section
variable {H : Type} {enc : TypeId × Value → H} {P : Program} {W : World} {base : Nat} {t e : TypeId} {v : Value} {d : DataW H} {ps : List MemPlace} {r : Reach}
theorem open_isBytes (ht : P.underlying t = some (.slice e)) (he : P.underlying e = some (.int .u8)) (hc : P.cellsOf e = 1) (hval : Value.okWide P W r base t v) (hd : DataW.Trod enc P W 0 (fun _ => true) true t v d ps) : IsBytes W v := by
  obtain ⟨a, len, cap, rfl⟩ := okWide_slice ht hval
  obtain ⟨fuel, hf⟩ := hd
  rcases open_ints ht he hc hf with ⟨hcs, _⟩ | ⟨x, l, c, zs, hcs, _, hl, hm, hz, _, hcell, hwz⟩
  · simp [Value.cells] at hcs
    obtain ⟨rfl, rfl, rfl⟩ := hcs
    exact ⟨[], By.of_nil W⟩
  · simp [Value.cells] at hcs
    obtain ⟨rfl, rfl, rfl⟩ := hcs
    obtain ⟨bs, rfl⟩ := bytes_of hwz
    simp only [List.length_map, if_true] at hz hcell
    refine ⟨bs.take len, ?_⟩
    have hlen : (bs.take len).length = len := by rw [List.length_take]; omega
    refine ⟨by rw [cu_length, Nat.mul_one], some x, cap, by rw [hlen], by omega, hm, (fun e => by cases e), fun b hb j u hj => ?_⟩
    obtain rfl := Option.some.inj hb
    by_cases h0 : bs.length = 0
    · have : bs = [] := List.eq_nil_of_length_eq_zero h0
      subst this
      simp [cu] at hj
    · have hs : x.spot = none := by
        have := hcell 0 (by omega)
        have := World.cell?_spot this
        simpa [Addr.add] using this
      refine ⟨hs, ?_⟩
      rw [cu, List.getElem?_map, List.getElem?_take] at hj
      split at hj
      · rename_i hj'
        have hjb : j < bs.length := by
          rcases Nat.lt_or_ge j bs.length with h | h
          · exact h
          · rw [List.getElem?_eq_none h] at hj; cases hj
        rw [List.getElem?_eq_getElem hjb] at hj
        simp at hj
        subst hj
        have := hcell j hjb
        rw [add_eq _ _ hs] at this
        rw [this]; simp [hjb]
      · simp at hj
end

end Go.Proofs.YtcbnhebiagdbiaaGreatDoor

