/- Layer 6 (retry) in plain words: the sender and the receiver. No program in sight. -/
namespace Go.Proofs.Ytcocnfbhileheaa

abbrev Bytes := List (BitVec 8)
/-- a sender -/
structure Snd where
  window : Nat
  timeout : Nat
  kept : List Bytes
  acked : Nat
  pos : Nat
  sent : Nat
  timer : Nat
/-- the bounds of every sender that New made -/
structure Snd.Ok (s : Snd) : Prop where
  w1 : 1 ≤ s.window
  w2 : s.window ≤ 128
  t1 : 1 ≤ s.timeout
  t2 : s.timeout ≤ 1000
  kept : s.kept.length ≤ s.window
  pos : s.pos ≤ s.sent
  sent : s.sent ≤ s.kept.length
  timer : s.timer ≤ s.timeout
  small : ∀ d ∈ s.kept, d.length ≤ 64

def newSnd (window timeout : Nat) : Snd := ⟨window, timeout, [], 0, 0, 0, 0⟩
def Snd.offer (s : Snd) (d : Bytes) : Nat × Snd :=
  if 64 < d.length then (2, s) else if s.window ≤ s.kept.length then (5, s) else (0, { s with kept := s.kept ++ [d] })
/-- the packet at the position goes out -/
def Snd.send (s : Snd) : (Nat × Bytes) × Snd :=
  (((s.acked + s.pos) % 256, s.kept.getD s.pos []), { s with pos := s.pos + 1, sent := max s.sent (s.pos + 1), timer := 0 })
def Snd.tick (s : Snd) : Option (Nat × Bytes) × Snd :=
  if s.kept.length = 0 then (none, s)
  else if s.kept.length ≤ s.pos then
    if s.timer + 1 < s.timeout then (none, { s with timer := s.timer + 1 })
    else (some ({ s with pos := 0 }.send).1, ({ s with pos := 0 }.send).2)
  else (some s.send.1, s.send.2)
/-- how many packets an acknowledgment acknowledges; none: it is not valid -/
def Snd.count (s : Snd) (n : Int) : Option Nat :=
  if n < 0 ∨ 256 ≤ n then none
  else if s.sent < (n.toNat + 256 - s.acked % 256) % 256 then none else some ((n.toNat + 256 - s.acked % 256) % 256)
/-- k packets are acknowledged -/
def Snd.drop (s : Snd) (k : Nat) : Snd :=
  if k = 0 then s else { s with kept := s.kept.drop k, acked := s.acked + k, sent := s.sent - k, pos := s.pos - k, timer := 0 }
def Snd.accept (s : Snd) (n : Int) : (Nat × Bool) × Snd :=
  match s.count n with
  | none => ((0, false), s)
  | some k => ((k, true), s.drop k)
def Snd.ack (s : Snd) (n : Int) : Nat × Snd := ((s.accept n).1.1, (s.accept n).2)
def Snd.nak (s : Snd) (n : Int) : Nat × Snd :=
  ((s.accept n).1.1, if (s.accept n).1.2 then { (s.accept n).2 with pos := 0, timer := 0 } else (s.accept n).2)

theorem newSnd_ok {a b : Nat} (h1 : 1 ≤ a) (h2 : a ≤ 128) (h3 : 1 ≤ b) (h4 : b ≤ 1000) : (newSnd a b).Ok :=
  ⟨h1, h2, h3, h4, by simp [newSnd], by simp [newSnd], by simp [newSnd], by simp [newSnd], by simp [newSnd]⟩
theorem offer_ok {s : Snd} (h : s.Ok) (d : Bytes) : (s.offer d).2.Ok := by
  unfold Snd.offer
  split
  · exact h
  · split
    · exact h
    · rename_i h1 h2
      obtain ⟨a1, a2, a3, a4, a5, a6, a7, a8, a9⟩ := h
      refine ⟨a1, a2, a3, a4, ?_, a6, ?_, a8, ?_⟩
      · simp; omega
      · simp; omega
      · intro x hx
        rcases List.mem_append.1 hx with hx | hx
        · exact a9 x hx
        · have : x = d := by simpa using hx
          subst this; omega
theorem send_ok {s : Snd} (h : s.Ok) (hp : s.pos < s.kept.length) : s.send.2.Ok := by
  obtain ⟨a1, a2, a3, a4, a5, a6, a7, a8, a9⟩ := h
  exact ⟨a1, a2, a3, a4, a5, Nat.le_max_right _ _, Nat.max_le.2 ⟨a7, hp⟩, Nat.zero_le _, a9⟩
theorem tick_ok {s : Snd} (h : s.Ok) : s.tick.2.Ok := by
  unfold Snd.tick
  split
  · exact h
  · split
    · split
      · obtain ⟨a1, a2, a3, a4, a5, a6, a7, a8, a9⟩ := h
        exact ⟨a1, a2, a3, a4, a5, a6, a7, by simp; omega, a9⟩
      · obtain ⟨a1, a2, a3, a4, a5, a6, a7, a8, a9⟩ := h
        refine send_ok (s := { s with pos := 0 }) ⟨a1, a2, a3, a4, a5, Nat.zero_le _, a7, a8, a9⟩ ?_
        show 0 < s.kept.length; omega
    · exact send_ok h (by omega)
theorem drop_ok {s : Snd} (h : s.Ok) (k : Nat) (hk : k ≤ s.sent) : (s.drop k).Ok := by
  unfold Snd.drop
  split
  · exact h
  · obtain ⟨a1, a2, a3, a4, a5, a6, a7, a8, a9⟩ := h
    refine ⟨a1, a2, a3, a4, ?_, ?_, ?_, Nat.zero_le _, fun d hd => a9 d (List.mem_of_mem_drop hd)⟩
    · simp; omega
    · simp; omega
    · simp; omega
theorem count_le {s : Snd} {n : Int} {k : Nat} (h : s.count n = some k) : k ≤ s.sent := by
  unfold Snd.count at h
  split at h
  · cases h
  · split at h
    · cases h
    · obtain rfl := Option.some.inj h; omega
theorem accept_ok {s : Snd} (h : s.Ok) (n : Int) : (s.accept n).2.Ok := by
  unfold Snd.accept
  cases hc : s.count n with
  | none => exact h
  | some k => exact drop_ok h k (count_le hc)
theorem ack_ok {s : Snd} (h : s.Ok) (n : Int) : (s.ack n).2.Ok := accept_ok h n
theorem nak_ok {s : Snd} (h : s.Ok) (n : Int) : (s.nak n).2.Ok := by
  have := accept_ok h n
  unfold Snd.nak
  dsimp only
  split
  · obtain ⟨a1, a2, a3, a4, a5, a6, a7, a8, a9⟩ := this
    exact ⟨a1, a2, a3, a4, a5, Nat.zero_le _, a7, Nat.zero_le _, a9⟩
  · exact this
/-- a bound on how many packets were taken, that grows by 1 with an offer -/
def Snd.total (s : Snd) : Nat := s.acked + s.kept.length
theorem offer_total (s : Snd) (d : Bytes) : (s.offer d).2.total ≤ s.total + 1 := by
  unfold Snd.offer Snd.total
  split
  · simp
  · split
    · simp
    · simp; omega
theorem tick_total (s : Snd) : s.tick.2.total = s.total := by
  unfold Snd.tick Snd.total
  split
  · rfl
  · split
    · split <;> rfl
    · rfl
theorem drop_total {s : Snd} (k : Nat) (h : k ≤ s.kept.length) : (s.drop k).total = s.total := by
  unfold Snd.drop Snd.total
  split
  · rfl
  · simp; omega
theorem accept_total {s : Snd} (h : s.Ok) (n : Int) : (s.accept n).2.total = s.total := by
  unfold Snd.accept
  cases hc : s.count n with
  | none => rfl
  | some k => exact drop_total k (Nat.le_trans (count_le hc) h.sent)
theorem nak_total {s : Snd} (h : s.Ok) (n : Int) : (s.nak n).2.total = s.total := by
  have := accept_total h n
  unfold Snd.nak; dsimp only; split
  · exact this
  · exact this
end Go.Proofs.Ytcocnfbhileheaa
