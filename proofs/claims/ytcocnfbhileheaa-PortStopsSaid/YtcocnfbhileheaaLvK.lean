/- A pair of ports in memory, when everything has come: what its ports count. -/
import Derived.Test.YtcocnfbhileheaaMgK
import Derived.Test.YtcocnfbhileheaaMgJ
import Derived.Test.YtcocnfbhileheaaPprH
namespace Go.Proofs.Ytcocnfbhileheaa
open Go.RowKit

/-- the takes behind a tick, one by one -/
def stage (P : Pr) (q : Nat) : Pr := if q = 0 then P else if q = 1 then P.take 0 0 else if q = 2 then (P.take 0 0).take 1 0 else if q = 3 then ((P.take 0 0).take 1 0).take 0 1 else (((P.take 0 0).take 1 0).take 0 1).take 1 1
theorem stage_0 (P : Pr) : stage P 0 = P := rfl
theorem stage_1 (P : Pr) : stage P 1 = (stage P 0).take 0 0 := rfl
theorem stage_2 (P : Pr) : stage P 2 = (stage P 1).take 1 0 := rfl
theorem stage_3 (P : Pr) : stage P 3 = (stage P 2).take 0 1 := rfl
theorem stage_4 (P : Pr) : stage P 4 = (stage P 3).take 1 1 := rfl
theorem serves_next (P : Pr) (n : Nat) : serves P (n + 1) = stage ((serves P n).tick 0 0) 4 := rfl
theorem stage_ok {N : Nat} {P : Pr} (h : P.Ok N) : (stage P 0).Ok N ∧ (stage P 1).Ok (N + 1) ∧ (stage P 2).Ok (N + 2) ∧ (stage P 3).Ok (N + 3) := by
  have h1 := h.take 0 (c := 0) (by decide)
  have h2 := h1.take 1 (c := 0) (by decide)
  exact ⟨h, h1, h2, h2.take 0 (c := 1) (by decide)⟩
section
variable {F Z : BS} {W w : World} {ts : List Th} {x N : Nat} {P : Pr} {v : PP}
theorem counts_l (h : Held F Z W (pairThs x P v ++ ts) w) (ok : P.Ok N) (hN : N ≤ 1000000000) (hd : Done P) {c : Nat} (hc : c < 2) :
    Calls Try.prog 18 #[.pointer (some ⟨v.pl, 0, none⟩), .int .i64 (c : Int)] w fun e w' => e = .returned (.tuple #[.int .i64 ((P.l.off.getD c []).length : Int), .int .i64 ((P.r.off.getD c []).length : Int), .int .i64 ((P.r.off.getD c []).length : Int)]) ∧ Held F Z W (pairThs x P v ++ ts) w' := by
  have := counts_any h 1 rfl ok.l.ok hN c (by rw [ok.l.two]; exact hc)
  obtain ⟨h1, h2, h3⟩ := hd.cnt c hc
  rwa [h1, h2, h3, (hd.got c hc).2] at this
theorem counts_r (h : Held F Z W (pairThs x P v ++ ts) w) (ok : P.Ok N) (hN : N ≤ 1000000000) (hd : Done P) {c : Nat} (hc : c < 2) :
    Calls Try.prog 18 #[.pointer (some ⟨v.pr, 0, none⟩), .int .i64 (c : Int)] w fun e w' => e = .returned (.tuple #[.int .i64 ((P.r.off.getD c []).length : Int), .int .i64 ((P.l.off.getD c []).length : Int), .int .i64 ((P.l.off.getD c []).length : Int)]) ∧ Held F Z W (pairThs x P v ++ ts) w' := by
  have := counts_any h 2 rfl ok.r.ok hN c (by rw [ok.r.two]; exact hc)
  obtain ⟨h1, h2, h3⟩ := hd.cnt' c hc
  rwa [h1, h2, h3, (hd.got c hc).1] at this
/-- a list offered or taken, and its cell -/
theorem Held.bb2 {u : Value} {l : List Bytes} (h : Held F Z W ts w) (i : Nat) (hi : ts[i]? = some (tBB u l)) (hl : l.length = 2) {c : Nat} (hc : c < 2) :
    ∃ b off cap va vc, u = .slice (some ⟨b, off, none⟩) 2 cap ∧ 2 ≤ cap ∧ w.cell? ⟨b, off + c, none⟩ = some (.slice va (l.getD c []).length vc) ∧ By w (.slice va (l.getD c []).length vc) (l.getD c []) := by
  obtain ⟨b, off, cap, vc, h1, h2, h3, h4⟩ := h.bb_at i hi (getD_of (d := []) (show c < l.length by omega))
  rw [hl] at h1 h2
  obtain ⟨va, k, rfl⟩ := h4.slice
  exact ⟨b, off, cap, va, k, h1, h2, h3, h4⟩
end
end Go.Proofs.Ytcocnfbhileheaa
