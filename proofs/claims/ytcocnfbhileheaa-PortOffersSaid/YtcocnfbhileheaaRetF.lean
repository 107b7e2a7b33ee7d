/- Offer and Tick, joined; the receiver. -/
import Derived.Test.YtcocnfbhileheaaRetE
namespace Go.Proofs.Ytcocnfbhileheaa
open Go.RowKit

/-- a tick of the sender, whatever comes -/
theorem tick_any (p : Nat) (K D : Nat → Prop) (s : Snd) (hok : s.Ok) (ht : s.total < 1000000000000) (w : World) (hs : SndAt w p K D s) :
    Calls Try.prog 51 #[.pointer (some ⟨p, 0, none⟩)] w fun e w' => ∃ v, e = .returned (.tuple #[.int .i64 ((s.tick.1.elim 0 (·.1) : Nat) : Int), v, .bool s.tick.1.isSome]) ∧
      Ow 5 w' w.heap.size v (s.tick.1.elim [] (·.2)) ∧ SndAt w' p K D s.tick.2 ∧ Fr (fun k => k = p) w w' := by
  unfold Snd.tick
  by_cases h0 : s.kept.length = 0
  · rw [if_pos h0]
    refine (tick_empty p K D s w hs h0).mono fun e w' ⟨he, hw⟩ => ?_
    subst hw
    exact ⟨_, he, World.ownsRow_nil _ _ _ _, hs, Fr.refl _ _⟩
  · rw [if_neg h0]
    by_cases h1 : s.kept.length ≤ s.pos
    · rw [if_pos h1]
      by_cases h2 : s.timer + 1 < s.timeout
      · rw [if_pos h2]
        refine (tick_wait p K D s hok w hs (by omega) h1 h2).mono fun e w' ⟨he, h3, h4⟩ => ?_
        exact ⟨_, he, World.ownsRow_nil _ _ _ _, h3, h4⟩
      · rw [if_neg h2]
        exact tick_resend p K D s hok ht w hs (by omega) h1 (by omega)
    · rw [if_neg h1]
      exact tick_send p K D s hok ht w hs (by omega)
/-- Offer, whatever comes -/
theorem offer_any (p : Nat) (K D : Nat → Prop) (s : Snd) (hok : s.Ok) (v : Value) (d : Bytes) (w : World) (hs : SndAt w p K D s) (hv : By w v d) :
    Calls Try.prog 85 #[.pointer (some ⟨p, 0, none⟩), v] w fun e w' => e = .returned (.int .i64 ((s.offer d).1 : Int)) ∧ ∃ K' D', SndAt w' p K' D' (s.offer d).2 ∧ Fr (sndF p K) w w' ∧ Ext w K K' ∧ Ext w D D' := by
  unfold Snd.offer
  by_cases h0 : 64 < d.length
  · rw [if_pos h0]
    refine (offer_big (some p) v d w hv h0).mono fun e w' ⟨he, hw⟩ => ?_
    subst hw
    exact ⟨he, K, D, hs, Fr.refl _ _, fun _ h => .inl h, fun _ h => .inl h⟩
  · rw [if_neg h0]
    by_cases h1 : s.window ≤ s.kept.length
    · rw [if_pos h1]
      refine (offer_full p K D s hok v d w hs hv (by omega) h1).mono fun e w' ⟨he, n, hw⟩ => ?_
      subst hw
      exact ⟨he, K, D, hs.keep (Nat.le_refl _) fun _ _ _ => rfl, (Fr.refl _ _).drewN n, fun _ h => .inl h, fun _ h => .inl h⟩
    · rw [if_neg h1]
      exact offer_room p K D s hok v d w hs hv (by omega) (by omega)
end Go.Proofs.Ytcocnfbhileheaa
