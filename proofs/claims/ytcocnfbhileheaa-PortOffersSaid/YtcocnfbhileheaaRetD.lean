/- Ack, Nak and Tick of the sender. -/
import Derived.Test.YtcocnfbhileheaaRetC
namespace Go.Proofs.Ytcocnfbhileheaa
open Go.RowKit

theorem accept_any (p : Nat) (K D : Nat → Prop) (s : Snd) (hok : s.Ok) (ht : s.total < 1000000000000) (n : Int) (w : World) (hs : SndAt w p K D s) :
    Calls Try.prog 105 #[.pointer (some ⟨p, 0, none⟩), .int .i64 n] w fun e w' =>
      e = .returned (.tuple #[.int .i64 ((s.accept n).1.1 : Int), .bool (s.accept n).1.2]) ∧ SndAt w' p K D (s.accept n).2 ∧ Fr (fun k => k = p) w w' := by
  cases hc : s.count n with
  | none =>
    refine (accept_bad p K D s hok ht n w hs hc).mono fun e w' ⟨he, hw⟩ => ?_
    subst hw
    have : s.accept n = ((0, false), s) := by simp [Snd.accept, hc]
    rw [this]
    exact ⟨he, hs, Fr.refl _ _⟩
  | some k =>
    have : s.accept n = ((k, true), s.drop k) := by simp [Snd.accept, hc]
    rw [this]
    exact accept_ok' p K D s hok ht n w hs k hc
set_option maxHeartbeats 1000000 in
theorem ack_any (p : Nat) (K D : Nat → Prop) (s : Snd) (hok : s.Ok) (ht : s.total < 1000000000000) (n : Int) (w : World) (hs : SndAt w p K D s) :
    Calls Try.prog 99 #[.pointer (some ⟨p, 0, none⟩), .int .i64 n] w fun e w' =>
      e = .returned (.int .i64 ((s.ack n).1 : Int)) ∧ SndAt w' p K D (s.ack n).2 ∧ Fr (fun k => k = p) w w' := by
  unfold Snd.ack
  have HC := Lib.hid (accept_any p K D s hok ht n w hs)
  generalize s.accept n = r at *
  clear hs hok ht
  go_enter Try.func99, Try.ntmps99
  go_wp2_with (go_at_call 105; refine HC.out.mono ?_; rintro e w1 ⟨rfl, hs1, hf1⟩; have HS1 := Lib.hid hs1; have HF1 := Lib.hid hf1; clear hs1 hf1)
  go_ret
  exact ⟨rfl, HS1.out, HF1.out⟩
set_option maxHeartbeats 1000000 in
theorem tick_empty (p : Nat) (K D : Nat → Prop) (s : Snd) (w : World) (hs : SndAt w p K D s) (h0 : s.kept.length = 0) :
    Calls Try.prog 51 #[.pointer (some ⟨p, 0, none⟩)] w fun e w' => e = .returned (.tuple #[.int .i64 0, .slice none 0 0, .bool false]) ∧ w = w' := by
  obtain ⟨kv, vs, hrow, hsl, hk⟩ := hs.row
  obtain ⟨ka, kcap, rfl⟩ := hsl.shape
  obtain ⟨_, _, c2, _⟩ := snd_cells hrow
  clear hs hsl hk hrow
  go_enter Try.func51, Try.ntmps51
  go_wp2_with fail
  go_ret3
  exact ⟨rfl, rfl⟩
theorem tick_nil (w : World) : Calls Try.prog 51 #[.pointer none] w fun e w' => e = .returned (.tuple #[.int .i64 0, .slice none 0 0, .bool false]) ∧ w = w' := by
  go_enter Try.func51, Try.ntmps51
  go_wp2_with fail
  go_ret3
  exact ⟨rfl, rfl⟩
set_option maxHeartbeats 1000000 in
theorem tick_wait (p : Nat) (K D : Nat → Prop) (s : Snd) (hok : s.Ok) (w : World) (hs : SndAt w p K D s) (h0 : 0 < s.kept.length) (h1 : s.kept.length ≤ s.pos) (h2 : s.timer + 1 < s.timeout) :
    Calls Try.prog 51 #[.pointer (some ⟨p, 0, none⟩)] w fun e w' => e = .returned (.tuple #[.int .i64 0, .slice none 0 0, .bool false]) ∧ SndAt w' p K D { s with timer := s.timer + 1 } ∧ Fr (fun k => k = p) w w' := by
  obtain ⟨kv, vs, hrow, hsl, hk⟩ := hs.row
  obtain ⟨ka, kcap, rfl⟩ := hsl.shape
  obtain ⟨_, c1, c2, c3, c4, c5, c6⟩ := snd_cells hrow
  obtain ⟨_, _, _, _, f6⟩ := snd_free hrow
  have hpos := hok.pos
  have hsent := hok.sent
  have hkl := hok.kept
  have hw2 := hok.w2
  have ht2 := hok.t2
  have HS := Lib.hid hs; clear hs
  have HSL := Lib.hid hsl; clear hsl
  have HK := Lib.hid hk; clear hk
  have HROW := Lib.hid hrow; clear hrow
  clear hok
  go_enter Try.func51, Try.ntmps51
  go_wp2_with fail
  go_quiet (fail)
  go_wp2_with fail
  go_quiet (fail)
  go_wp2_with fail
  go_ret3
  exact ⟨rfl, SndAt.put (kv := .slice ka s.kept.length kcap) (vs := vs) HS.out HSL.out HK.out (by (repeat (first | (with_reducible exact Fr.refl _ _) | exact Or.inl rfl | (with_reducible refine Fr.setCell ?_ ?_ _) | (with_reducible refine Fr.drewN ?_ _) | (with_reducible refine Fr.drew ?_)))) (by (apply row_trans; focus (repeat (first | (with_reducible exact HROW.out) | (with_reducible apply row_set) | (with_reducible apply row_drewN) | (with_reducible apply row_drew)))); rfl), by (repeat (first | (with_reducible exact Fr.refl _ _) | exact Or.inl rfl | (with_reducible refine Fr.setCell ?_ ?_ _) | (with_reducible refine Fr.drewN ?_ _) | (with_reducible refine Fr.drew ?_)))⟩
end Go.Proofs.Ytcocnfbhileheaa
