/- A sender among other things: it keeps out of a set X of blocks, and what is in X is kept. -/
import Derived.Test.YtcocnfbhileheaaRetG
namespace Go.Proofs.Ytcocnfbhileheaa
open Go.RowKit

/-- w' is w, as far as the blocks of X go -/
structure Kp (X : Nat → Prop) (w w' : World) : Prop where
  os : w'.os = w.os
  tape : w'.tape = w.tape
  output : w'.output = w.output
  size : w.heap.size ≤ w'.heap.size
  block : ∀ k, X k → k < w.heap.size → w'.heap[k]? = w.heap[k]?
theorem Kp.refl (X : Nat → Prop) (w : World) : Kp X w w := ⟨rfl, rfl, rfl, Nat.le_refl _, fun _ _ _ => rfl⟩
theorem Kp.trans {X : Nat → Prop} {a b c : World} (h : Kp X a b) (k : Kp X b c) : Kp X a c :=
  ⟨k.os.trans h.os, k.tape.trans h.tape, k.output.trans h.output, Nat.le_trans h.size k.size, fun x hx hl => (k.block x hx (Nat.lt_of_lt_of_le hl h.size)).trans (h.block x hx hl)⟩
theorem Kp.mono {X Y : Nat → Prop} {a b : World} (h : Kp X a b) (hY : ∀ k, Y k → X k) : Kp Y a b := ⟨h.os, h.tape, h.output, h.size, fun x hx hl => h.block x (hY x hx) hl⟩
theorem Kp.of_fr {X F : Nat → Prop} {a b : World} (h : Fr F a b) (hX : ∀ k, F k → ¬ X k) : Kp X a b := ⟨h.os, h.tape, h.output, h.size, fun x hx hl => h.block x hl fun f => hX x f hx⟩
theorem Kp.of_below {X : Nat → Prop} {a b : World} (h : Below a.heap.size a b) : Kp X a b := ⟨h.os, h.tape, h.output, h.size, fun x _ hl => h.block x hl⟩
theorem Kp.below {X : Nat → Prop} {a b : World} (h : Kp X a b) {B : Nat} (hB : B ≤ a.heap.size) (hX : ∀ k, k < B → X k) : Below B a b := ⟨h.os, h.tape, h.output, h.size, fun k hk => h.block k (hX k hk) (by omega)⟩
theorem Kp.drewN {X : Nat → Prop} {a b : World} (h : Kp X a b) (n : Nat) : Kp X a (b.drewN n) := ⟨h.os, h.tape, h.output, h.size, h.block⟩
theorem Kp.alloc {X : Nat → Prop} {a b : World} (h : Kp X a b) (o : Obj) : Kp X a (b.alloc o) := h.trans (Kp.of_fr ((Fr.refl (fun _ => False) b).alloc o) fun _ f => f.elim)
theorem Kp.dr {X : Nat → Prop} {a b c : World} (h : Kp X a b) (hd : Dr b c) : Kp X a c := by obtain ⟨n, rfl⟩ := hd; exact h.drewN n
/-- a sender at p that keeps out of X -/
def Sn (w : World) (X : Nat → Prop) (p : Nat) (s : Snd) : Prop := ∃ K D, SndAt w p K D s ∧ ∀ k, (k = p ∨ K k ∨ D k) → ¬ X k
theorem SndAt.plt {w : World} {p : Nat} {K D : Nat → Prop} {s : Snd} (h : SndAt w p K D s) : p < w.heap.size := by obtain ⟨kv, vs, h, _⟩ := h.row; exact lt_of_block h
theorem Sn.plt {w : World} {X : Nat → Prop} {p : Nat} {s : Snd} (h : Sn w X p s) : p < w.heap.size := by obtain ⟨K, D, h, _⟩ := h; exact h.plt
/-- what another's call leaves of a sender: it changed but blocks of X and new ones -/
theorem Sn.fr {w w' : World} {X F : Nat → Prop} {p : Nat} {s : Snd} (h : Sn w X p s) (hf : Fr F w w') (hF : ∀ k, F k → X k) : Sn w' X p s := by
  obtain ⟨K, D, h, hX⟩ := h
  exact ⟨K, D, h.fr hf fun k hk f => hX k hk (hF k f), hX⟩
theorem Sn.below {w w' : World} {X : Nat → Prop} {p : Nat} {s : Snd} (h : Sn w X p s) (hb : Below w.heap.size w w') : Sn w' X p s := by
  obtain ⟨K, D, h, hX⟩ := h
  exact ⟨K, D, h.below hb, hX⟩
theorem Sn.dr {w w' : World} {X : Nat → Prop} {p : Nat} {s : Snd} (h : Sn w X p s) (hd : Dr w w') : Sn w' X p s := by
  obtain ⟨n, rfl⟩ := hd
  obtain ⟨K, D, h, hX⟩ := h
  exact ⟨K, D, h.keep (Nat.le_refl _) fun _ _ _ => rfl, hX⟩
/-- a set of blocks that the sender never had -/
theorem Sn.more {w : World} {X Y : Nat → Prop} {p : Nat} {s : Snd} (h : Sn w X p s) (hY : ∀ k, Y k → X k ∨ w.heap.size ≤ k) : Sn w Y p s := by
  obtain ⟨K, D, h, hX⟩ := h
  refine ⟨K, D, h, fun k hk hy => (hY k hy).elim (hX k hk) fun hl => ?_⟩
  have : k < w.heap.size := by rcases hk with rfl | hk
                               · exact h.plt
                               · exact h.lt k hk
  omega
theorem offer_sn {w : World} {X : Nat → Prop} {p : Nat} {s : Snd} (h : Sn w X p s) (hX : ∀ k, X k → k < w.heap.size) (hok : s.Ok) (v : Value) (d : Bytes) (hv : By w v d) :
    Calls Try.prog 85 #[.pointer (some ⟨p, 0, none⟩), v] w fun e w' => e = .returned (.int .i64 ((s.offer d).1 : Int)) ∧ Sn w' X p (s.offer d).2 ∧ Kp X w w' := by
  obtain ⟨K, D, hs, hx⟩ := h
  refine (offer_any p K D s hok v d w hs hv).mono fun e w' ⟨he, K', D', h1, h2, h3, h4⟩ => ⟨he, ⟨K', D', h1, fun k hk hxk => ?_⟩, Kp.of_fr h2 fun k hk => hx k ?_⟩
  · have := hX k hxk
    rcases hk with rfl | hk | hk
    · exact hx k (.inl rfl) hxk
    · rcases h3 k hk with h | h
      · exact hx k (.inr (.inl h)) hxk
      · omega
    · rcases h4 k hk with h | h
      · exact hx k (.inr (.inr h)) hxk
      · omega
  · rcases hk with rfl | hk
    · exact .inl rfl
    · exact .inr (.inl hk)
theorem tick_sn {w : World} {X : Nat → Prop} {p : Nat} {s : Snd} (h : Sn w X p s) (hok : s.Ok) (ht : s.total < 1000000000000) :
    Calls Try.prog 51 #[.pointer (some ⟨p, 0, none⟩)] w fun e w' => ∃ v, e = .returned (.tuple #[.int .i64 ((s.tick.1.elim 0 (·.1) : Nat) : Int), v, .bool s.tick.1.isSome]) ∧
      Ow 5 w' w.heap.size v (s.tick.1.elim [] (·.2)) ∧ Sn w' X p s.tick.2 ∧ Kp X w w' := by
  obtain ⟨K, D, hs, hx⟩ := h
  refine (tick_any p K D s hok ht w hs).mono fun e w' ⟨v, he, h1, h2, h3⟩ => ⟨v, he, h1, ⟨K, D, h2, hx⟩, Kp.of_fr h3 fun k hk => hx k (.inl hk)⟩
theorem ack_sn {w : World} {X : Nat → Prop} {p : Nat} {s : Snd} (h : Sn w X p s) (hok : s.Ok) (ht : s.total < 1000000000000) (n : Int) :
    Calls Try.prog 99 #[.pointer (some ⟨p, 0, none⟩), .int .i64 n] w fun e w' => e = .returned (.int .i64 ((s.ack n).1 : Int)) ∧ Sn w' X p (s.ack n).2 ∧ Kp X w w' := by
  obtain ⟨K, D, hs, hx⟩ := h
  exact (ack_any p K D s hok ht n w hs).mono fun e w' ⟨he, h2, h3⟩ => ⟨he, ⟨K, D, h2, hx⟩, Kp.of_fr h3 fun k hk => hx k (.inl hk)⟩
theorem kept_sn {w : World} {X : Nat → Prop} {p : Nat} {s : Snd} (h : Sn w X p s) :
    Calls Try.prog 81 #[.pointer (some ⟨p, 0, none⟩)] w fun e w' => e = .returned (.int .i64 (s.kept.length : Int)) ∧ w = w' := by
  obtain ⟨K, D, hs, hx⟩ := h
  exact kept_any p K D s w hs
theorem total_sn {w : World} {X : Nat → Prop} {p : Nat} {s : Snd} (h : Sn w X p s) (hok : s.Ok) (ht : s.total < 1000000000000) :
    Calls Try.prog 86 #[.pointer (some ⟨p, 0, none⟩)] w fun e w' => e = .returned (.tuple #[.int .i64 ((s.acked : Int) + (s.kept.length : Int)), .int .i64 (s.acked : Int)]) ∧ Dr w w' := by
  obtain ⟨K, D, hs, hx⟩ := h
  exact total_any p K D s hok ht w hs
theorem new_sn (a b : Nat) (w : World) (X : Nat → Prop) (hX : ∀ k, X k → k < w.heap.size) (h1 : 1 ≤ a) (h2 : a ≤ 128) (h3 : 1 ≤ b) (h4 : b ≤ 1000) :
    Calls Try.prog 67 #[.int .i64 (a : Int), .int .i64 (b : Int)] w fun e w' => e = .returned (.tuple #[.pointer (some ⟨w.heap.size, 0, none⟩), .int .i64 0]) ∧
      Sn w' X w.heap.size (newSnd a b) ∧ Below w.heap.size w w' := by
  refine (newSender_ok a b w h1 h2 h3 h4).mono fun e w' ⟨he, hs, hb⟩ => ⟨he, ⟨_, _, hs, fun k hk hxk => ?_⟩, hb⟩
  have := hX k hxk
  rcases hk with rfl | hk | hk
  · omega
  · exact hk
  · exact hk
end Go.Proofs.Ytcocnfbhileheaa
