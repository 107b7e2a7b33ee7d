/- The sender as a thing that lives in a set of blocks. -/
import Derived.Test.YtcocnfbhileheaaRetH
import Derived.Test.YtcocnfbhileheaaMgA
namespace Go.Proofs.Ytcocnfbhileheaa
open Go.RowKit

def SnO (w : World) (F : Nat → Prop) (p : Nat) (s : Snd) : Prop := ∃ K D, SndAt w p K D s ∧ ∀ k, (k = p ∨ K k ∨ D k) → F k
theorem SnO.thing (p : Nat) (s : Snd) : Thing (fun w F => SnO w F p s) where
  keep := fun ⟨K, D, h, hF⟩ hs hk => ⟨K, D, h.keep hs fun k hkd hl => hk k (hF k hkd) hl, fun k hkd => ⟨hF k hkd, by
    rcases hkd with rfl | hkd
    · exact h.plt
    · exact h.lt k hkd⟩⟩
  mono := fun ⟨K, D, h, hF⟩ hG => ⟨K, D, h, fun k hk => hG k (hF k hk)⟩
theorem SnO.old {w w' : World} {F K D : Nat → Prop} {p : Nat} {s s' : Snd} (h : SndAt w p K D s) (hF : ∀ k, (k = p ∨ K k ∨ D k) → F k) (h' : SndAt w' p K D s') : SnO w' (fun k => F k ∧ k < w.heap.size) p s' :=
  ⟨K, D, h', fun k hkd => ⟨hF k hkd, by
    rcases hkd with rfl | hkd
    · exact h.plt
    · exact h.lt k hkd⟩⟩
theorem SnO.plt {w : World} {F : Nat → Prop} {p : Nat} {s : Snd} (h : SnO w F p s) : p < w.heap.size := by obtain ⟨K, D, h, _⟩ := h; exact h.plt
theorem SnO.at {w : World} {F : Nat → Prop} {p : Nat} {s : Snd} (h : SnO w F p s) : F p := by obtain ⟨K, D, _, h⟩ := h; exact h p (.inl rfl)
theorem offer_o {w : World} {F : Nat → Prop} {p : Nat} {s : Snd} (h : SnO w F p s) (hok : s.Ok) (v : Value) (d : Bytes) (hv : By w v d) :
    Calls Try.prog 85 #[.pointer (some ⟨p, 0, none⟩), v] w fun e w' => e = .returned (.int .i64 ((s.offer d).1 : Int)) ∧ SnO w' (fun k => F k ∨ w.heap.size ≤ k) p (s.offer d).2 ∧ Fr F w w' := by
  obtain ⟨K, D, hs, hx⟩ := h
  refine (offer_any p K D s hok v d w hs hv).mono fun e w' ⟨he, K', D', h1, h2, h3, h4⟩ => ⟨he, ⟨K', D', h1, fun k hk => ?_⟩, h2.mono fun k hk => hx k ?_⟩
  · rcases hk with rfl | hk | hk
    · exact .inl (hx k (.inl rfl))
    · exact (h3 k hk).imp (fun h => hx k (.inr (.inl h))) id
    · exact (h4 k hk).imp (fun h => hx k (.inr (.inr h))) id
  · rcases hk with rfl | hk
    · exact .inl rfl
    · exact .inr (.inl hk)
theorem tick_o {w : World} {F : Nat → Prop} {p : Nat} {s : Snd} (h : SnO w F p s) (hok : s.Ok) (ht : s.total < 1000000000000) :
    Calls Try.prog 51 #[.pointer (some ⟨p, 0, none⟩)] w fun e w' => ∃ v, e = .returned (.tuple #[.int .i64 ((s.tick.1.elim 0 (·.1) : Nat) : Int), v, .bool s.tick.1.isSome]) ∧
      ByD w' (fun k => w.heap.size ≤ k) v (s.tick.1.elim [] (·.2)) ∧ SnO w' (fun k => F k ∧ k < w.heap.size) p s.tick.2 ∧ Fr F w w' := by
  obtain ⟨K, D, hs, hx⟩ := h
  refine (tick_any p K D s hok ht w hs).mono fun e w' ⟨v, he, h1, h2, h3⟩ => ⟨v, he, h1.byD.mono fun k h => h.1, SnO.old hs hx h2, h3.mono fun k hk => hx k (.inl hk)⟩
theorem ack_o {w : World} {F : Nat → Prop} {p : Nat} {s : Snd} (h : SnO w F p s) (hok : s.Ok) (ht : s.total < 1000000000000) (n : Int) :
    Calls Try.prog 99 #[.pointer (some ⟨p, 0, none⟩), .int .i64 n] w fun e w' => e = .returned (.int .i64 ((s.ack n).1 : Int)) ∧ SnO w' (fun k => F k ∧ k < w.heap.size) p (s.ack n).2 ∧ Fr F w w' := by
  obtain ⟨K, D, hs, hx⟩ := h
  exact (ack_any p K D s hok ht n w hs).mono fun e w' ⟨he, h2, h3⟩ => ⟨he, SnO.old hs hx h2, h3.mono fun k hk => hx k (.inl hk)⟩
theorem kept_o {w : World} {F : Nat → Prop} {p : Nat} {s : Snd} (h : SnO w F p s) :
    Calls Try.prog 81 #[.pointer (some ⟨p, 0, none⟩)] w fun e w' => e = .returned (.int .i64 (s.kept.length : Int)) ∧ w = w' := by
  obtain ⟨K, D, hs, _⟩ := h
  exact kept_any p K D s w hs
theorem total_o {w : World} {F : Nat → Prop} {p : Nat} {s : Snd} (h : SnO w F p s) (hok : s.Ok) (ht : s.total < 1000000000000) :
    Calls Try.prog 86 #[.pointer (some ⟨p, 0, none⟩)] w fun e w' => e = .returned (.tuple #[.int .i64 ((s.acked : Int) + (s.kept.length : Int)), .int .i64 (s.acked : Int)]) ∧ Dr w w' := by
  obtain ⟨K, D, hs, _⟩ := h
  exact total_any p K D s hok ht w hs
theorem new_o (a b : Nat) (w : World) (h1 : 1 ≤ a) (h2 : a ≤ 128) (h3 : 1 ≤ b) (h4 : b ≤ 1000) :
    Calls Try.prog 67 #[.int .i64 (a : Int), .int .i64 (b : Int)] w fun e w' => e = .returned (.tuple #[.pointer (some ⟨w.heap.size, 0, none⟩), .int .i64 0]) ∧
      SnO w' (fun k => k = w.heap.size) w.heap.size (newSnd a b) ∧ Below w.heap.size w w' := by
  refine (newSender_ok a b w h1 h2 h3 h4).mono fun e w' ⟨he, hs, hb⟩ => ⟨he, ⟨_, _, hs, fun k hk => ?_⟩, hb⟩
  rcases hk with rfl | hk | hk
  · rfl
  · exact hk.elim
  · exact hk.elim
end Go.Proofs.Ytcocnfbhileheaa
