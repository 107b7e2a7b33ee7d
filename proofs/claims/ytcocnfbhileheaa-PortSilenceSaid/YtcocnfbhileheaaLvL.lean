/- A pair of ports that hears nothing: both go down. No program in sight. -/
import Derived.Test.YtcocnfbhileheaaMgK
namespace Go.Proofs.Ytcocnfbhileheaa

/-- ticks in which everything is lost -/
def losts (P : Pr) : Nat → Pr
  | 0 => P
  | n + 1 => (losts P n).tick 65535 0
theorem sift_all : ∀ (l : List Pt) (k : Nat), sift 65535 0 k l = []
  | [], _ => rfl
  | y :: l, k => by
    have h : ∀ j, j < 16 → ¬ 65535 >>> j % 2 = 0 := by decide
    unfold sift
    rw [if_neg (h _ (Nat.mod_lt _ (by decide))), sift_all l]
    rfl
theorem tick_side (p : Prt) : (p.tick []).2.side = p.side.tick := by
  by_cases h : p.side.tick.state = 2
  · rw [Prt.tick_up (a := p) (l := []) (a1 := p) rfl h]
    have h2 := (choose_side { p with side := p.side.tick }).1
    split
    · exact h2
    · exact h2
  · rw [Prt.tick_down (a := p) (l := []) (a1 := p) rfl h]
theorem side_tick_quiet {s : Side} {j : Nat} (h : s.state = 0 ∧ s.peer = 0 ∨ j ≤ s.silent ∧ s.silent < s.dead ∧ (s.peer = 0 → s.state = 0)) : s.tick.state = 0 ∧ s.tick.peer = 0 ∨ j + 1 ≤ s.tick.silent ∧ s.tick.silent < s.tick.dead ∧ (s.tick.peer = 0 → s.tick.state = 0) := by
  unfold Side.tick
  split
  · rename_i hp
    rcases h with h | h
    · exact .inl h
    · exact .inl ⟨h.2.2 hp, hp⟩
  · rename_i hp
    split
    · exact .inl ⟨rfl, rfl⟩
    · rcases h with h | h
      · exact absurd h.2 hp
      · exact .inr ⟨by dsimp only; omega, by dsimp only; omega, h.2.2⟩
section
variable {N k : Nat} {P : Pr}
theorem losts_ok (h : P.Ok N) : ∀ n, (losts P n).Ok (N + 2001 * n)
  | 0 => h
  | n + 1 => ((losts_ok h n).tick 65535 0).mono (by omega)
theorem losts_good (h : P.Good) (ok : P.Ok N) : ∀ n, (losts P n).Good
  | 0 => h
  | n + 1 => (losts_good h ok n).tick (losts_ok ok n) 65535 0
theorem losts_sum (h : P.Sum k) (ok : P.Ok N) : ∀ n, (losts P n).Sum k
  | 0 => h
  | n + 1 => (losts_sum h ok n).tick (losts_ok ok n) 65535 0
theorem losts_fly (n : Nat) : (losts P (n + 1)).l.fly = [] ∧ (losts P (n + 1)).r.fly = [] := ⟨sift_all _ _, sift_all _ _⟩
theorem losts_quiet (h : P.Sum k) (ok : P.Ok N) (n : Nat) : ∀ p : Prt, p = (losts P (n + 1)).l.prt ∨ p = (losts P (n + 1)).r.prt → p.side.state = 0 ∧ p.side.peer = 0 ∨ n ≤ p.side.silent ∧ p.side.silent < p.side.dead ∧ (p.side.peer = 0 → p.side.state = 0) := by
  induction n with
  | zero =>
    intro p hp
    have o := losts_ok ok 1
    rcases hp with rfl | rfl
    · exact .inr ⟨Nat.zero_le _, o.l.ok.side.silent, o.l.ok.side.zero.1⟩
    · exact .inr ⟨Nat.zero_le _, o.r.ok.side.silent, o.r.ok.side.zero.1⟩
  | succ n ih =>
    obtain ⟨f1, f2⟩ := losts_fly (P := P) n
    intro p hp
    rcases hp with rfl | rfl
    · have e : (losts P (n + 1 + 1)).l.prt = ((losts P (n + 1)).l.prt.tick (losts P (n + 1)).r.fly).2 := rfl
      rw [e, f2, tick_side]
      exact side_tick_quiet (ih _ (.inl rfl))
    · have e : (losts P (n + 1 + 1)).r.prt = ((losts P (n + 1)).r.prt.tick (losts P (n + 1)).l.fly).2 := rfl
      rw [e, f1, tick_side]
      exact side_tick_quiet (ih _ (.inr rfl))
/-- after 14 ticks without a packet both are down -/
theorem losts_down (h : P.Sum k) (ok : P.Ok N) {n : Nat} (hn : 13 < n) : decide ((losts P n).l.prt.side.state = 2) = false ∧ decide ((losts P n).r.prt.side.state = 2) = false := by
  obtain ⟨m, rfl⟩ : ∃ m, n = m + 1 := ⟨n - 1, by omega⟩
  have s := losts_sum h ok (m + 1)
  have hd : ∀ p : Prt, p = (losts P (m + 1)).l.prt ∨ p = (losts P (m + 1)).r.prt → p.side.dead = 12 := fun p hp => by
    rcases hp with rfl | rfl
    · rw [s.l.cons.dd, s.l.dead]
    · rw [s.r.cons.dd, s.r.dead]
  have key : ∀ p : Prt, p = (losts P (m + 1)).l.prt ∨ p = (losts P (m + 1)).r.prt → decide (p.side.state = 2) = false := fun p hp => by
    rcases losts_quiet h ok m p hp with q | q
    · rw [q.1]; rfl
    · have := hd p hp
      omega
  exact ⟨key _ (.inl rfl), key _ (.inr rfl)⟩
end
end Go.Proofs.Ytcocnfbhileheaa
