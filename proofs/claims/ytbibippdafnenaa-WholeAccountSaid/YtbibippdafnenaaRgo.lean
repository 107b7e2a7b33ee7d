/- A region whose order is open: the operation that comes up next, by cases. No condition on the program. -/
import Derived.Test.YtbibippdafnenaaReg
import Derived.Test.YtbibippdafnenaaPorD
namespace Go.Proofs.Ytbibippdafnenaa
open Go.RowKit
section
variable {P : Program} {Q : Exit → Act → World → Prop} {md : Region.Mode} {S : World → Prop} {l : List Oper} {fuel : Nat} {listed : Array Bool} {a : Act} {w : World}
def PickH (P : Program) (md : Region.Mode) (l : List Oper) (Q : Exit → Act → World → Prop) (S : World → Prop) (fuel i : Nat) (listed : Array Bool) (a : Act) (w : World) : Prop :=
  wpOp P l.toArray Q i (fun a' w' => S w' ∧ wpAnyH P md l.toArray Q S fuel (listed.setIfInBounds i true) a' w') a w
theorem anyH1 (i : Nat) (hr : Region.ready md l.toArray listed = [i]) (h : PickH P md l Q S fuel i listed a w) : wpAnyH P md l.toArray Q S (fuel + 1) listed a w := by
  refine wpAnyH_all hr (by simp) fun k hk => ?_
  obtain rfl : k = i := by simpa using hk
  exact h
theorem anyH2 (i j : Nat) (hr : Region.ready md l.toArray listed = [i, j]) (h : PickH P md l Q S fuel i listed a w) (h' : PickH P md l Q S fuel j listed a w) : wpAnyH P md l.toArray Q S (fuel + 1) listed a w := by
  refine wpAnyH_all hr (by simp) fun k hk => ?_
  have hk' : k = i ∨ k = j := by simpa using hk
  rcases hk' with rfl | rfl
  · exact h
  · exact h'
theorem anyH3 (i j m : Nat) (hr : Region.ready md l.toArray listed = [i, j, m]) (h : PickH P md l Q S fuel i listed a w) (h' : PickH P md l Q S fuel j listed a w) (h'' : PickH P md l Q S fuel m listed a w) : wpAnyH P md l.toArray Q S (fuel + 1) listed a w := by
  refine wpAnyH_all hr (by simp) fun k hk => ?_
  have hk' : k = i ∨ k = j ∨ k = m := by simpa using hk
  rcases hk' with rfl | rfl | rfl
  · exact h
  · exact h'
  · exact h''
theorem pickH (i : Nat) {o : Oper} {rest : List Oper} (ho : l.drop i = o :: rest)
    (h : ∀ K : Act → World → Prop, Shut (∀ a w, S w → wpAnyH P md l.toArray Q S fuel (listed.setIfInBounds i true) a w → K a w) → if Region.wanted o (yielded l.toArray a.tmps) = true then Oper.wp P o a w K Q else K (a.put o.dst undef) w) :
    PickH P md l Q S fuel i listed a w := by
  have ho' : l.toArray[i]? = some o := by
    have : (l.drop i)[0]? = some o := by rw [ho]; rfl
    rw [List.getElem?_drop] at this
    simpa using this
  exact wpOp_step ho' fun K hK => h K fun a w hS hW => hK a w ⟨hS, hW⟩
/-- a thing of which nothing is said -/
def tNo : Th := tStar []
theorem Held.no {F Z : BS} {W : World} {ts : List Th} (h : Held F Z W ts w) : Held F Z W (ts ++ [tNo]) w := h.add (Below.refl _ _) (T := tNo) (Star.nil _ _ _)
/-- a slice that is made takes the place of nothing -/
theorem step_mkH {α : Type} {E : El α} {t e : TypeId} {z : Value} {bytes : Nat} (X : SlT P t e z 1 bytes) (hsz : E.size = 1) (hzz : z.cells = #[z]) {a0 : α} (he : ∀ w Z, E.rd w (fun _ => False) Z [z] a0) {ops : Array Oper} {o : Oper} {K : Act → World → Prop} {E0 : Prop}
    (hg : o.guard = none) (x : Operand) (hop : o.op = Op.makeSlice t x x) (n : Nat) (hl : a.eval x = .int .i64 (n : Int)) (b2 : bytes * n ≤ 281474976710656) (b3 : n ≤ maxLen) {F Z : BS} {W : World} {ts : List Th} (h : Held F Z W ts w) (i : Nat) (hi : ts[i]? = some tNo)
    (hK : ∀ b w', Below w.heap.size w w' → Held F Z W (ts.set i (tSq E e (.slice (some ⟨b, 0, none⟩) n n) (List.replicate n a0))) w' → K (a.put o.dst (.slice (some ⟨b, 0, none⟩) n n)) w') :
    if Region.wanted o (yielded ops a.tmps) = true then Oper.wp P o a w K Q else E0 := by
  obtain ⟨u, hu, hz, hsz2, hby⟩ := X.info
  obtain ⟨w1, hrun, hown, hgr⟩ := run_make_full (P := P) (w := w) w.heap.size t e u z 1 X.under hu hz hsz2 .i64 .i64 n (by rw [hby]; exact b2) b3 (Nat.le_refl _)
  have hb1 : Below w.heap.size w w1 := (Below.refl w.heap.size w).grown hgr (Nat.le_refl _) (fun k e => by cases e)
  rw [hzz, Nat.mul_one, toList_madeCells_one] at hown
  have hsl : Sl w1 (fun k => k = w.heap.size) e 1 (.slice (some ⟨w.heap.size, 0, none⟩) n n) n (List.replicate n z) := by
    obtain ⟨hl, ⟨h, _⟩ | ⟨g, cap, cur, e, hb, hg, h10, h11, h12, h13⟩⟩ := hown
    · cases h
    · obtain ⟨rfl, rfl⟩ : w.heap.size = g ∧ n = cap := by simpa using e
      exact ⟨hl, .inr ⟨_, 0, _, cur, rfl, rfl, hg, h10, h11, by omega, by simpa using h13⟩⟩
  have hkl : w.heap.size < w1.heap.size := by
    obtain ⟨_, ⟨h, _⟩ | ⟨g, off, cap, cur, e, rfl, hg, _⟩⟩ := hsl
    · cases h
    · exact lt_of_block hg
  refine step_val (v := .slice (some ⟨w.heap.size, 0, none⟩) n n) (w' := w1) (by simp [Region.wanted, hg]) (by simp [execOp, hop, hl, hrun, Result.andThen]) ?_
  refine hK _ _ hb1 (h.grow i hi fun G Y _ hd => ⟨fun k => k = w.heap.size, fun _ => False, fun k hk => .inr (by subst hk; exact Nat.le_refl _), fun _ f => f.elim, fun _ _ f => f, ?_, Fr.of_below (Fr.refl _ _) hb1⟩)
  refine ⟨fun k => k = w.heap.size, fun _ => False, List.replicate n z, fun k hk => hk.elim id False.elim, fun _ _ f => f, fun k hk => by subst hk; exact hkl, by rw [List.length_replicate, hsz]; exact hsl, ?_⟩
  have := Els.zero (E := E) (Z := fun _ => False) (he w1 _) n
  rwa [show (List.replicate n [z]).flatten = List.replicate n z by rw [List.flatten_replicate_singleton]] at this
end
end Go.Proofs.Ytbibippdafnenaa
