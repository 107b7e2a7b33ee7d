/- A line of the law as a thing. -/
import Derived.Test.YtbibippdafnenaaWaR
import Derived.Test.YtbibippdafnenaaWaZ
namespace Go.Proofs.Ytbibippdafnenaa
open Go.RowKit
set_option maxRecDepth 100000

abbrev lnThs (p : Nat) (x : Ln) (v : LnV) : List Th :=
  [tBlk p (lnRow x v x.w.top x.w.base), tWr v.wp x.w, tRdr v.rp x.r, tSq eU8 5 v.wv x.w.all, tSq eU8 5 v.rv x.rd, tSq eSeg 50 v.sv x.segs, tSq eAk 58 v.av x.acks, tSq eBool 4 v.dv x.dones]
def tLn (p : Nat) (x : Ln) : Th := tEx (lnThs p x)
theorem ln_cells {w : World} {p : Nat} {x : Ln} {v : LnV} {t b : Nat} (h : w.heap[p]? = some (lnRow x v t b)) :
    (w.cell? ⟨p, 0, none⟩ = some (.pointer (some ⟨v.wp, 0, none⟩)) ∧ w.cell? ⟨p, 1, none⟩ = some (.pointer (some ⟨v.rp, 0, none⟩)) ∧ w.cell? ⟨p, 2, none⟩ = some v.wv ∧ w.cell? ⟨p, 3, none⟩ = some v.rv ∧ w.cell? ⟨p, 4, none⟩ = some v.sv) ∧
    w.cell? ⟨p, 5, none⟩ = some v.av ∧ w.cell? ⟨p, 6, none⟩ = some v.dv ∧ w.cell? ⟨p, 7, none⟩ = some (.int .i64 (t : Int)) ∧ w.cell? ⟨p, 8, none⟩ = some (.int .i64 (b : Int)) :=
  ⟨⟨blk_cell h rfl, blk_cell h rfl, blk_cell h rfl, blk_cell h rfl, blk_cell h rfl⟩, blk_cell h rfl, blk_cell h rfl, blk_cell h rfl, blk_cell h rfl⟩
theorem Held.weakL {F Z : BS} {W w : World} {ts : List Th} {A T : Th} (h : Held F Z W ts w) (i : Nat) (hi : ts[i]? = some A) (k : ∀ G Y, A.on w G Y → T.on w (fun _ => False) Y) : Held F Z W (ts ++ [T]) w := by
  obtain ⟨L, h1, h2, h3⟩ := h
  refine ⟨L, h1, h2, fun j T' hj => ?_⟩
  by_cases hjl : j < ts.length
  · rw [List.getElem?_append_left hjl] at hj; exact h3 j T' hj
  · rw [List.getElem?_append_right (Nat.le_of_not_lt hjl)] at hj
    obtain rfl : T = T' := by
      have : j - ts.length = 0 := by have := lt_of_get hj; simp at this; omega
      rw [this] at hj; simpa using hj
    exact T.mono (k _ _ (h3 i A hi)) (fun _ f => f.elim) fun _ h => h
theorem Held.front2 {F Z : BS} {W w : World} {ts : List Th} {A T : Th} (h : Held F Z W (A :: (ts ++ [T])) w) : Held F Z W (T :: A :: ts) w := Held.front (ts := A :: ts) h
section
variable {F Z : BS} {W w : World} {ts : List Th} {p : Nat}
/-- the bytes of a segment that lies in a list -/
theorem Held.segAt {ss : List Seg} {s : Seg} {a : Option Addr} {n c : Nat} (h : Held F Z W ts w) (i : Nat) (hi : ts[i]? = some (tSq eSeg 50 (.slice a n c) ss)) {j : Nat} (hj : ss[j]? = some s) :
    ∃ b off a' c', a = some ⟨b, off, none⟩ ∧ w.cell? ⟨b, off + j * 3, none⟩ = some (.int .i64 (s.off : Int)) ∧ w.cell? ⟨b, off + j * 3 + 1, none⟩ = some (.slice a' s.data.length c') ∧ w.cell? ⟨b, off + j * 3 + 2, none⟩ = some (.bool s.last) ∧ Held F Z W (ts ++ [tBy (.slice a' s.data.length c') s.data]) w := by
  obtain ⟨G, Y, hr⟩ := h.get i hi
  obtain ⟨b, off, cs, A, ea, _, ⟨v, ecs, hv⟩, _, hc⟩ := Sq.at (show Sq eSeg 50 w G Y (.slice a n c) ss from hr) (by decide) hj
  obtain ⟨⟨_, a', c', ev, _⟩, _⟩ := id hv
  subst ev
  have k0 := hc 0 (.int .i64 (s.off : Int)) (by rw [ecs]; rfl)
  have k1 := hc 1 (.slice a' s.data.length c') (by rw [ecs]; rfl)
  have k2 := hc 2 (.bool s.last) (by rw [ecs]; rfl)
  refine ⟨b, off, a', c', ea, k0, k1, k2, h.weakL (T := tBy (.slice a' s.data.length c') s.data) i hi fun G' Y' hon => ?_⟩
  obtain ⟨b2, off2, cs2, A2, ea2, _, ⟨v2, ecs2, hv2⟩, _, hc2⟩ := Sq.at (show Sq eSeg 50 w G' Y' (.slice a n c) ss from hon) (by decide) hj
  rw [ea] at ea2
  obtain ⟨rfl, rfl⟩ : b = b2 ∧ off = off2 := by simpa using ea2
  have q1 := hc2 1 v2 (by rw [ecs2]; rfl)
  have : (Value.slice a' s.data.length c') = v2 := by
    have := k1.symm.trans q1
    simpa using this
  rw [this]
  exact hv2
end
end Go.Proofs.Ytbibippdafnenaa
