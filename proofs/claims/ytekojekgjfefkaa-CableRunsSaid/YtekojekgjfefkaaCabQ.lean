/- The reference's cable among things that are held: Send, Tick, and what is written into its box. -/
import Derived.Test.YtekojekgjfefkaaCabR
namespace Go.Proofs.Ytekojekgjfefkaa
open Go.RowKit

theorem els_freeBy {w : World} {Z : BS} : ∀ {D : BS} (G : BS) {us : List Value} {xs : List Byt}, Els eBy w D Z us xs → Els eBy w G Z us xs
  | _, _, _, [], h => h
  | _, G, _, _ :: _, ⟨cs, rest, _, _, e, _, _, _, h1, h2⟩ => ⟨cs, rest, fun _ => False, G, e, fun _ f => f.elim, fun _ h => h, fun _ f => f.elim, h1, els_freeBy G h2⟩
theorem Sq.rdT {w : World} {T : TypeId} {F Z : BS} {v : Value} {xs : List Byt} (h : Sq eBy T w F Z v xs) : RdS eBy w (fun _ => True) v xs := by
  obtain ⟨K, D, us, _, _, _, h3, h4⟩ := h
  exact ⟨us, h3.rd, (els_freeBy _ h4).mono (fun _ h => h) fun _ _ => trivial, fun _ _ _ => trivial⟩
section
variable {F Z : BS} {W w : World} {ts : List Th}
theorem Held.sts7 (h : Held F Z W ts w) (i : Nat) {p : Nat} {c0 c1 c2 c3 c4 c5 c6 : Value} {T : TypeId} (hi : ts[i]? = some (tBlk p (.cells #[c0, c1, c2, c3, c4, c5, c6] T))) (x0 x1 x2 x3 x4 x5 x6 : Value) :
    Held F Z W (ts.set i (tBlk p (.cells #[x0, x1, x2, x3, x4, x5, x6] T))) (((((((w.setCell ⟨p, 0, none⟩ x0).setCell ⟨p, 1, none⟩ x1).setCell ⟨p, 2, none⟩ x2).setCell ⟨p, 3, none⟩ x3).setCell ⟨p, 4, none⟩ x4).setCell ⟨p, 5, none⟩ x5).setCell ⟨p, 6, none⟩ x6) :=
  h.set i hi _ (by (repeat (first | (with_reducible exact Fr.refl _ _) | exact Or.inl rfl | (with_reducible refine Fr.setCell ?_ ?_ _) | (with_reducible refine Fr.drewN ?_ _) | (with_reducible refine Fr.drew ?_)))) (by have h1 := h.blk i hi; (apply row_trans; focus (repeat (first | (with_reducible exact h1) | (with_reducible apply row_set) | (with_reducible apply row_drewN) | (with_reducible apply row_drew)))); rfl)
theorem Held.sts_2 (h : Held F Z W ts w) (i : Nat) {p : Nat} {c0 c1 c2 c3 c4 c5 c6 : Value} {T : TypeId} (hi : ts[i]? = some (tBlk p (.cells #[c0, c1, c2, c3, c4, c5, c6] T))) (x : Value) :
    Held F Z W (ts.set i (tBlk p (.cells #[c0, c1, x, c3, c4, c5, c6] T))) (w.setCell ⟨p, 2, none⟩ x) :=
  h.set i hi _ (by (repeat (first | (with_reducible exact Fr.refl _ _) | exact Or.inl rfl | (with_reducible refine Fr.setCell ?_ ?_ _) | (with_reducible refine Fr.drewN ?_ _) | (with_reducible refine Fr.drew ?_)))) (by have h1 := h.blk i hi; (apply row_trans; focus (repeat (first | (with_reducible exact h1) | (with_reducible apply row_set) | (with_reducible apply row_drewN) | (with_reducible apply row_drew)))); rfl)
theorem Held.seven (h : Held F Z W ts w) (i : Nat) {p : Nat} {c0 c1 c2 c3 c4 c5 c6 : Value} {T : TypeId} (hi : ts[i]? = some (tBlk p (.cells #[c0, c1, c2, c3, c4, c5, c6] T))) :
    w.cell? ⟨p, 0, none⟩ = some c0 ∧ w.cell? ⟨p, 1, none⟩ = some c1 ∧ w.cell? ⟨p, 2, none⟩ = some c2 ∧ w.cell? ⟨p, 3, none⟩ = some c3 ∧ w.cell? ⟨p, 4, none⟩ = some c4 ∧ w.cell? ⟨p, 5, none⟩ = some c5 ∧ w.cell? ⟨p, 6, none⟩ = some c6 ∧ (∀ i, w.frozen? ⟨p, i, none⟩ = false) ∧ p < w.heap.size := by
  have h1 := h.blk i hi
  exact ⟨blk_cell (i := 0) h1 rfl, blk_cell (i := 1) h1 rfl, blk_cell (i := 2) h1 rfl, blk_cell (i := 3) h1 rfl, blk_cell (i := 4) h1 rfl, blk_cell (i := 5) h1 rfl, blk_cell (i := 6) h1 rfl, fun i => blk_free h1 i, lt_of_block h1⟩
def RSendH (F Z : BS) (W : World) (ts : List Th) (i : Nat) (c : Cab) (d : Byt) (fv : Value) (e : Ending) (w' : World) : Prop := ∃ (va : Option Addr) (vc : Nat),
  e = .returned (.tuple #[.agg #[.int .i64 ((c.send d).2.delay : Int), fv, .bool (!(c.send d).2.up), .int .i64 ((c.send d).2.sent : Int), .int .i64 ((c.send d).2.ticks : Int), .slice va (c.send d).2.flying.length vc, .int .i64 ((c.send d).2.lost : Int)], .int .i64 ((c.send d).1 : Int)]) ∧
    Held F Z W (ts.set i (tSq eTr 71 (.slice va (c.send d).2.flying.length vc) (c.send d).2.flying)) w'
theorem rSend_h (h : Held F Z W ts w) (c : Cab) (hok : c.Ok) (i : Nat) {la : Option Addr} {lc : Nat} (hi : ts[i]? = some (tSq eTr 71 (.slice la c.flying.length lc) c.flying)) (jf : Nat) {fa : Option Addr} {fc : Nat} (hjf : ts[jf]? = some (tRd eFlt (.slice fa c.faults.length fc) c.faults)) (hfi : jf ≠ i)
    (jo : Nat) {T : Th} (hjo : ts[jo]? = some T) (hoi : jo ≠ i) (a : Option Addr) (n cap : Nat) (d : Byt) (hdl : d.length ≤ 1000) (hread : ∀ H Y, T.on w H Y → ByZ w Y (.slice a n cap) d) (hfl : c.faults.length ≤ 1000000) (hls : c.lost < 1000000000) (hse : c.sent < 1000000000) (hti : c.ticks < 1000000000) :
    Calls Try.prog 21 #[refV c (.slice fa c.faults.length fc) (.slice la c.flying.length lc), .slice a n cap] w (RSendH F Z W ts i c d (.slice fa c.faults.length fc)) := by
  obtain ⟨G, Y, hsq, hd, _, hoth, hb⟩ := h.use i hi
  obtain ⟨H1, _, _, hf⟩ := hoth jf _ hfi hjf
  obtain ⟨H2, _, _, ho⟩ := hoth jo _ hoi hjo
  have hv := hread _ _ ho
  have hf' : RdS eFlt w Y (.slice fa c.faults.length fc) c.faults := hf
  by_cases h1 : c.up = false ∨ c.fault.kind = 1
  · refine (refSend_drop w Y c fa fc la lc a n cap hf' hfl hls hse h1).mono ?_
    rintro e w' ⟨rfl, hbl⟩
    have hs : c.send d = (0, { c with sent := c.sent + 1, lost := c.lost + 1 }) := by unfold Cab.send; rw [if_pos h1]
    refine ⟨la, lc, by rw [hs]; rfl, ?_⟩
    rw [hs]
    have := h.own hbl
    rw [set_same hi]
    exact this
  · have hk : c.up = true ∧ c.fault.kind ≠ 1 := ⟨by cases hu : c.up with
      | true => rfl
      | false => exact absurd (.inl hu) h1, fun h => h1 (.inr h)⟩
    by_cases h2 : 64 < c.flying.length + c.copies
    · refine (refSend_full w Y c fa fc la lc a n cap hf' hfl hls hse hk hok.fly h2).mono ?_
      rintro e w' ⟨rfl, hbl⟩
      have hs : c.send d = (5, { c with sent := c.sent + 1, lost := c.lost + 1 }) := by unfold Cab.send; rw [if_neg h1, if_pos h2]
      refine ⟨la, lc, by rw [hs]; rfl, ?_⟩
      rw [hs]
      have := h.own hbl
      rw [set_same hi]
      exact this
    · refine (refSend_fly w G Y hd c fa fc la lc a n cap d hv hdl hsq hf' hfl hse hti (by have := hok.d2; omega) hk hok.fault.2.2 (by omega)).mono ?_
      rintro e w' ⟨va, vc, rfl, hdid⟩
      have hs : (c.send d).1 = 0 := by unfold Cab.send; rw [if_neg h1, if_neg h2]
      refine ⟨va, vc, by rw [hs]; rfl, ?_⟩
      have := hb w' _ _ hdid
      rwa [List.append_nil] at this
def RTickH (F Z : BS) (W : World) (ts : List Th) (i : Nat) (c : Cab) (fv : Value) (e : Ending) (w' : World) : Prop := ∃ (va : Option Addr) (vc : Nat) (v2 : Value),
  e = .returned (.tuple #[.agg #[.int .i64 (c.tick.2.delay : Int), fv, .bool (!c.tick.2.up), .int .i64 (c.tick.2.sent : Int), .int .i64 (c.tick.2.ticks : Int), .slice va c.tick.2.flying.length vc, .int .i64 (c.tick.2.lost : Int)], v2]) ∧
    Held F Z W (ts.set i (tSq eTr 71 (.slice va c.tick.2.flying.length vc) c.tick.2.flying) ++ [tSq eBy 32 v2 c.tick.1]) w'
theorem rTick_h (h : Held F Z W ts w) (c : Cab) (hok : c.Ok) (hdue : Due c) (i : Nat) {la : Option Addr} {lc : Nat} (hi : ts[i]? = some (tSq eTr 71 (.slice la c.flying.length lc) c.flying)) (fa : Option Addr) (fn fc : Nat) (hti : c.ticks < 1000000000) :
    Calls Try.prog 22 #[refV c (.slice fa fn fc) (.slice la c.flying.length lc)] w (RTickH F Z W ts i c (.slice fa fn fc)) := by
  obtain ⟨G, Y, hsq, hd, _, _, hb⟩ := h.use i hi
  refine (refTick_any c fa fn fc la lc hok.fly hti w G Y hd hsq).mono ?_
  rintro e w' ⟨v1, v2, rfl, hdid⟩
  obtain ⟨e1, e2⟩ := hdue.tick_eq
  rw [e1, e2] at hdid
  have h1 := hb w' _ _ hdid
  obtain ⟨G2, Y2, hs1⟩ := h1.get i (T := tSq eTr 71 v1 c.tick.2.flying) (by rw [List.getElem?_append_left (by rw [List.length_set]; exact lt_of_get hi), List.getElem?_set_self (lt_of_get hi)])
  obtain ⟨va, vc, rfl, _⟩ := (show Sq eTr _ w' G2 Y2 v1 c.tick.2.flying from hs1).le
  exact ⟨va, vc, v2, rfl, h1⟩
end
end Go.Proofs.Ytekojekgjfefkaa
