/- A region that ends in stores: the operation that comes up next, by cases. No condition on the program. -/
import Derived.Test.YtbibippdafnenaaRgl
import Derived.Test.YtbibippdafnenaaWaA
namespace Go.Proofs.Ytbibippdafnenaa
open Go.RowKit
section
variable {P : Program} {Q : Exit → Act → World → Prop} {md : Region.Mode} {S : World → Prop} {last : Nat} {l : List Oper} {fuel : Nat} {listed : Array Bool} {a : Act} {w : World}
def PickL (P : Program) (md : Region.Mode) (l : List Oper) (Q : Exit → Act → World → Prop) (S : World → Prop) (last fuel i : Nat) (listed : Array Bool) (a : Act) (w : World) : Prop :=
  wpOp P l.toArray Q i (fun a' w' => ((listed.setIfInBounds i true).getD last true = false → S w') ∧ wpAnyL P md l.toArray Q S last fuel (listed.setIfInBounds i true) a' w') a w
theorem anyL2 (i j : Nat) (hr : Region.ready md l.toArray listed = [i, j]) (h : PickL P md l Q S last fuel i listed a w) (h' : PickL P md l Q S last fuel j listed a w) : wpAnyL P md l.toArray Q S last (fuel + 1) listed a w := by
  refine ⟨fun h => (by rw [hr] at h; cases h), fun k hk => ?_⟩
  rw [hr] at hk
  have hk' : k = i ∨ k = j := by simpa using hk
  rcases hk' with rfl | rfl
  · exact h
  · exact h'
theorem pickL (i : Nat) {o : Oper} {rest : List Oper} (ho : l.drop i = o :: rest)
    (h : ∀ K : Act → World → Prop, Shut (∀ a w, (i ≠ last → S w) → wpAnyL P md l.toArray Q S last fuel (listed.setIfInBounds i true) a w → K a w) → if Region.wanted o (yielded l.toArray a.tmps) = true then Oper.wp P o a w K Q else K (a.put o.dst undef) w) :
    PickL P md l Q S last fuel i listed a w := by
  have ho' : l.toArray[i]? = some o := by
    have : (l.drop i)[0]? = some o := by rw [ho]; rfl
    rw [List.getElem?_drop] at this
    simpa using this
  exact wpOp_step ho' fun K hK => h K fun a w hS hW => hK a w ⟨fun h => hS (ne_last h).1, hW⟩
theorem rd_at {w : World} {g s n : Nat} {us : List Value} {T : TypeId} (h : w.heap[g]? = some (.cells us.toArray T)) (hs : us.length = n * s) (hn : n ≤ 1000) : Rd w s (.slice (some ⟨g, 0, none⟩) n n) n us := by
  refine ⟨hs, _, _, rfl, Nat.le_refl _, by unfold maxLen; omega, (fun e => by cases e), fun b hb j u hj => ?_⟩
  obtain rfl := Option.some.inj hb
  refine ⟨rfl, ?_⟩
  simp only [World.cell?, h, Nat.zero_add]
  simpa using hj
end
end Go.Proofs.Ytbibippdafnenaa
