/- Several texts in one: One direction between two ports, in plain words: what the receiver keeps. No program in sight. One direction between two ports, in plain words: frames taken, chosen, sent. Two ports and what is under way between them: each packet bears a tag that says when it was sent; the invariant of one direction, sessions and restarts included. No program in sight. Two ports and what is under way between them: the packets that a port handles, one by one. No program in sight. Two ports and what flies between them: a session begins. No program in sight. Two ports and what is under way between them: a packet is handled, all that arrives is handled. No program in sight. Two connected ports, in plain words: what a side is, what its steps are, their bounds. No program in sight. Two connected ports, in plain words: the bounds through all steps. No program in sight. What a tick of a port with two classes sends (plain). -/
import Derived.Test.YtcocnfbhileheaaPorP
import Derived.Test.YtcocnfbhileheaaPotP
import Derived.Test.YtcocnfbhileheaaPotD
/- One direction between two ports, in plain words: what the receiver keeps. No program in sight. -/
namespace Go.Proofs.Ytcocnfbhileheaa

abbrev Hist := List (Nat × Bytes)
/-- how many frames of a class -/
def cnt (h : Hist) (c : Nat) : Nat := (h.filter fun f => f.1 == c).length
theorem cnt_append (h k : Hist) (c : Nat) : cnt (h ++ k) c = cnt h c + cnt k c := by unfold cnt; rw [List.filter_append, List.length_append]
theorem cnt_one (d : Bytes) (c k : Nat) : cnt [(c, d)] k = if c = k then 1 else 0 := by
  unfold cnt
  by_cases h : c = k
  · subst h; simp
  · simp [h]
theorem cnt_take_succ {h : Hist} {r c : Nat} {d : Bytes} (hr : h[r]? = some (c, d)) (k : Nat) : cnt (h.take (r + 1)) k = cnt (h.take r) k + if c = k then 1 else 0 := by
  rw [List.take_add_one, hr, cnt_append]
  show _ + cnt [(c, d)] k = _
  rw [cnt_one]
theorem cnt_take_le (h : Hist) (n k : Nat) : cnt (h.take n) k ≤ cnt h k := by
  conv => rhs; rw [← List.take_append_drop n h, cnt_append]
  omega
abbrev Prt.gv (b : Prt) (c : Nat) : Giv := b.giv.getD c ⟨0, 0, 0⟩
abbrev Prt.bs (b : Prt) (c : Nat) : Nat := b.base.getD c 0
abbrev Prt.tk (b : Prt) (c : Nat) : Tak := b.tak.getD c ⟨0, 0⟩
/-- what the receiver keeps of a session: hist are the frames that the sender was given, top those that were ever sent -/
structure Rec (b : Prt) (hist : Hist) (top : Nat) : Prop where
  gl : b.giv.length = b.rooms.length
  rt : b.rcv ≤ top
  tl : top ≤ hist.length
  low : top ≤ b.rcv + 128
  cls : ∀ f ∈ hist, f.1 < b.rooms.length
  room : ∀ c, b.bs c + cnt hist c ≤ (b.gv c).limit
  got : ∀ c, (b.gv c).received = b.bs c + cnt (hist.take b.rcv) c
  bl : b.buffer.length = b.rooms.length
  rm : ∀ c, c < b.rooms.length → (b.gv c).room = b.rooms.getD c 0
  buf : ∀ c, c < b.rooms.length → (b.gv c).received = (b.gv c).freed + (b.buffer.getD c []).length
/-- a data packet that carries the frame m -/
def Carries (hist : Hist) (top : Nat) (y : Pt) : Prop := ∃ m c : Nat, m < top ∧ top ≤ m + 128 ∧ y.cls = (c : Int) ∧ hist[m]? = some (c, y.pay) ∧ y.number = ((m % 256 : Nat) : Int)
theorem getD_set {α : Type} (l : List α) (i j : Nat) (v d : α) (hi : i < l.length) : (l.set i v).getD j d = if i = j then v else l.getD j d := by
  simp only [List.getD, List.getElem?_set]
  by_cases h : i = j
  · subst h; simp [hi]
  · simp [h]
/-- a data packet of the session: it is the next frame, and there is room; or nothing happens -/
theorem Rec.receive {b : Prt} {hist : Hist} {top t : Nat} {y : Pt} (h : Rec b hist top) (hlo : b.rcv ≤ t) (hhi : t ≤ top) (hy : Carries hist t y) :
    Rec (b.receive y) hist top ∧ (b.receive y).overflows = b.overflows ∧ (b.receive y = b ∨ ∃ c : Nat, b.rcv < t ∧ hist[b.rcv]? = some (c, y.pay) ∧ c < b.rooms.length ∧
      b.receive y = { b with
        rcv := b.rcv + 1
        giv := b.giv.set c { b.gv c with received := (b.gv c).received + 1 }
        buffer := b.buffer.set c (b.buffer.getD c [] ++ [y.pay])
        received := b.received.set c (b.received.getD c 0 + 1) }) := by
  obtain ⟨m, c, hm, hm2, hc, hh, hn⟩ := hy
  by_cases hg : ¬ b.has y.cls ∨ y.number ≠ (b.rcv % 256 : Nat)
  · have e : b.receive y = b := by unfold Prt.receive; rw [if_pos hg]
    rw [e]
    exact ⟨h, rfl, .inl rfl⟩
  · have hnum : y.number = (b.rcv % 256 : Nat) := Decidable.byContradiction fun x => hg (.inr x)
    obtain rfl : m = b.rcv := by
      have h2 := h.low
      rw [hn] at hnum
      have h3 : m % 256 = b.rcv % 256 := by exact_mod_cast hnum
      omega
    have hcl : c < b.rooms.length := h.cls _ (List.mem_of_getElem? hh)
    have hlt := cnt_take_succ hh c
    rw [if_pos rfl] at hlt
    have hroom := h.room c
    have hgot := h.got c
    have hle := cnt_take_le hist (b.rcv + 1) c
    have hfree : ¬ (b.gv c).limit ≤ (b.gv c).received := by omega
    have e : b.receive y = { b with
        rcv := b.rcv + 1
        giv := b.giv.set c { b.gv c with received := (b.gv c).received + 1 }
        buffer := b.buffer.set c (b.buffer.getD c [] ++ [y.pay])
        received := b.received.set c (b.received.getD c 0 + 1) } := by
      unfold Prt.receive
      rw [if_neg hg, hc]
      simp only [Int.toNat_natCast]
      unfold Giv.receive
      simp only [if_neg hfree]
      rfl
    refine ⟨?_, by rw [e], .inr ⟨c, hm, hh, hcl, e⟩⟩
    rw [e]
    have hgl : c < b.giv.length := by rw [h.gl]; exact hcl
    refine ⟨by simp [h.gl], Nat.le_trans hm hhi, h.tl, by have := h.low; show top ≤ b.rcv + 1 + 128; omega, h.cls, fun k => ?_, fun k => ?_, ?_, fun k hk => ?_, fun k hk => ?_⟩
    · show b.bs k + cnt hist k ≤ ((b.giv.set c { b.gv c with received := (b.gv c).received + 1 }).getD k ⟨0, 0, 0⟩).limit
      rw [getD_set _ _ _ _ _ hgl]
      have := h.room k
      split
      · rename_i e; subst e; exact this
      · exact this
    · show ((b.giv.set c { b.gv c with received := (b.gv c).received + 1 }).getD k ⟨0, 0, 0⟩).received = b.bs k + cnt (hist.take (b.rcv + 1)) k
      rw [getD_set _ _ _ _ _ hgl, cnt_take_succ hh k]
      have := h.got k
      split
      · rename_i e; subst e
        show (b.gv c).received + 1 = _
        omega
      · rw [Nat.add_zero]; exact this
    · simp [h.bl]
    · show ((b.giv.set c { b.gv c with received := (b.gv c).received + 1 }).getD k ⟨0, 0, 0⟩).room = _
      rw [getD_set _ _ _ _ _ hgl]
      have := h.rm k hk
      split
      · rename_i e; subst e; exact this
      · exact this
    · show ((b.giv.set c { b.gv c with received := (b.gv c).received + 1 }).getD k ⟨0, 0, 0⟩).received = ((b.giv.set c { b.gv c with received := (b.gv c).received + 1 }).getD k ⟨0, 0, 0⟩).freed + ((b.buffer.set c (b.buffer.getD c [] ++ [y.pay])).getD k []).length
      rw [getD_set _ _ _ _ _ hgl, getD_set _ _ _ _ _ (by rw [h.bl]; exact hcl)]
      have := h.buf k hk
      split
      · rename_i e; subst e
        rw [List.length_append]
        show (b.gv c).received + 1 = (b.gv c).freed + (_ + 1)
        omega
      · exact this
/-- what sender and receiver of one session have in common -/
structure Lnk (a b : Prt) (hist : Hist) (top : Nat) : Prop where
  kept : a.kept = hist.drop a.snd.acked
  tq : top = a.snd.acked + a.snd.sent
  ack : a.snd.acked ≤ b.rcv
  sent : ∀ c, (a.tk c).sent = cnt hist c
  lim : ∀ c, b.bs c + (a.tk c).limit ≤ (b.gv c).limit
/-- an acknowledgment whose number lies among those that were sent -/
theorem ack_exact {a : Prt} {y : Pt} (hok : a.snd.Ok) {r : Nat} (ha : a.snd.acked ≤ r) (hb : r ≤ a.snd.acked + a.snd.sent) (hn : y.number = ((r % 256 : Nat) : Int)) :
    a.acknowledge y = { a with snd := a.snd.drop (r - a.snd.acked), acked := tally a.acked (a.kept.take (r - a.snd.acked)), kept := a.kept.drop (r - a.snd.acked) } ∧ (a.snd.drop (r - a.snd.acked)).acked = r ∧ (a.snd.drop (r - a.snd.acked)).sent = a.snd.sent - (r - a.snd.acked) := by
  have h4 := hok.sent; have h5 := hok.kept; have h6 := hok.w2
  have hc : a.snd.count y.number = some (r - a.snd.acked) := by
    unfold Snd.count
    rw [hn, if_neg (by omega), Int.toNat_natCast, show (r % 256 + 256 - a.snd.acked % 256) % 256 = r - a.snd.acked by omega, if_neg (by omega)]
  have he : a.snd.ack y.number = (r - a.snd.acked, a.snd.drop (r - a.snd.acked)) := by
    unfold Snd.ack Snd.accept
    rw [hc]
  refine ⟨by unfold Prt.acknowledge; rw [he], ?_⟩
  unfold Snd.drop
  split
  · exact ⟨by omega, by omega⟩
  · exact ⟨by dsimp only; omega, rfl⟩
/-- an acknowledgment of what the receiver has -/
theorem Lnk.acknowledge {a b : Prt} {hist : Hist} {top : Nat} {y : Pt} (h : Lnk a b hist top) (hr : Rec b hist top) (hok : a.snd.Ok) {r : Nat} (ha : a.snd.acked ≤ r) (hb : r ≤ b.rcv) (hn : y.number = ((r % 256 : Nat) : Int)) :
    Lnk (a.acknowledge y) b hist top := by
  have h1 := h.ack; have h2 := hr.rt; have h3 := h.tq
  obtain ⟨e, hd⟩ := ack_exact hok ha (by omega) hn
  rw [e]
  refine ⟨?_, by dsimp only; rw [hd.1, hd.2]; omega, by dsimp only; rw [hd.1]; exact hb, h.sent, h.lim⟩
  dsimp only
  rw [hd.1, h.kept, List.drop_drop, show a.snd.acked + (r - a.snd.acked) = r by omega]
/-- a credit that the receiver gave -/
theorem Lnk.raise {a b : Prt} {hist : Hist} {top : Nat} {y : Pt} (h : Lnk a b hist top) (hl : a.tak.length = a.rooms.length)
    (hy : ∀ c, y.cls = (c : Nat) → ((b.bs c : Nat) : Int) + y.number ≤ ((b.gv c).limit : Nat)) : Lnk (a.raise y) b hist top := by
  unfold Prt.raise
  split
  · rename_i hh
    obtain ⟨h0, h1⟩ := hh
    obtain ⟨c, hc⟩ := Int.eq_ofNat_of_zero_le h0
    rw [hc, Int.toNat_natCast]
    have hcl : c < a.tak.length := by rw [hl]; omega
    have hyc := hy c hc
    refine ⟨h.kept, h.tq, h.ack, fun k => ?_, fun k => ?_⟩
    · show ((a.tak.set c ((a.tak.getD c ⟨0, 0⟩).raise y.number)).getD k ⟨0, 0⟩).sent = _
      rw [getD_set _ _ _ _ _ hcl]
      have := h.sent k
      split
      · rename_i e; subst e
        rw [← this]; unfold Tak.raise; split <;> rfl
      · exact this
    · show b.bs k + ((a.tak.set c ((a.tak.getD c ⟨0, 0⟩).raise y.number)).getD k ⟨0, 0⟩).limit ≤ _
      rw [getD_set _ _ _ _ _ hcl]
      have := h.lim k
      split
      · rename_i e; subst e
        unfold Tak.raise
        split
        · exact this
        · show b.bs c + max (a.tk c).limit y.number.toNat ≤ _
          omega
      · exact this
  · exact h
/-- the receiver has taken a frame in -/
theorem Lnk.receive {a b : Prt} {hist : Hist} {top t : Nat} {y : Pt} (h : Lnk a b hist top) (hr : Rec b hist top) (hlo : b.rcv ≤ t) (hhi : t ≤ top) (hy : Carries hist t y) : Lnk a (b.receive y) hist top := by
  obtain ⟨_, _, e | ⟨c, h1, h2, h3, e⟩⟩ := hr.receive hlo hhi hy
  · rw [e]; exact h
  · rw [e]
    refine ⟨h.kept, h.tq, Nat.le_succ_of_le h.ack, h.sent, fun k => ?_⟩
    show b.bs k + (a.tk k).limit ≤ ((b.giv.set c { b.gv c with received := (b.gv c).received + 1 }).getD k ⟨0, 0, 0⟩).limit
    rw [getD_set _ _ _ _ _ (by rw [hr.gl]; exact h3)]
    have := h.lim k
    split
    · rename_i e; subst e; exact this
    · exact this
end Go.Proofs.Ytcocnfbhileheaa

/- One direction between two ports, in plain words: frames taken, chosen, sent. -/
namespace Go.Proofs.Ytcocnfbhileheaa

/-- the receiver's reader takes a frame -/
theorem Rec.take {b : Prt} {hist : Hist} {top : Nat} (h : Rec b hist top) (c : Int) : Rec (b.take c).2 hist top := by
  unfold Prt.take
  split
  · exact h
  · rename_i d hd
    have hh : b.has c := by
      unfold Prt.peek at hd
      split at hd
      · assumption
      · cases hd
    obtain ⟨c, rfl⟩ := Int.eq_ofNat_of_zero_le hh.1
    have hc : c < b.giv.length := by rw [h.gl]; have := hh.2; omega
    rw [Int.toNat_natCast]
    have hf : (b.gv c).free.received = (b.gv c).received ∧ (b.gv c).limit ≤ (b.gv c).free.limit := by
      unfold Giv.free Giv.limit
      split
      · exact ⟨rfl, Nat.le_refl _⟩
      · exact ⟨rfl, by dsimp only; omega⟩
    have hne : 0 < (b.buffer.getD c []).length := by
      unfold Prt.peek at hd
      rw [if_pos hh, Int.toNat_natCast] at hd
      cases hx : b.buffer.getD c [] with
      | nil => rw [hx] at hd; cases hd
      | cons _ _ => simp
    have hcr : c < b.rooms.length := by rw [← h.gl]; exact hc
    have hfr : (b.gv c).free = { b.gv c with freed := (b.gv c).freed + 1 } := by
      have := h.buf c hcr
      unfold Giv.free
      rw [if_neg (by omega)]
    refine ⟨by simp [h.gl], h.rt, h.tl, h.low, h.cls, fun k => ?_, fun k => ?_, by simp [h.bl], fun k hk => ?_, fun k hk => ?_⟩
    · show b.bs k + cnt hist k ≤ ((b.giv.set c (b.gv c).free).getD k ⟨0, 0, 0⟩).limit
      rw [getD_set _ _ _ _ _ hc]
      have := h.room k
      split
      · rename_i e; subst e; exact Nat.le_trans this hf.2
      · exact this
    · show ((b.giv.set c (b.gv c).free).getD k ⟨0, 0, 0⟩).received = b.bs k + cnt (hist.take b.rcv) k
      rw [getD_set _ _ _ _ _ hc]
      have := h.got k
      split
      · rename_i e; subst e; rw [hf.1]; exact this
      · exact this
    · show ((b.giv.set c (b.gv c).free).getD k ⟨0, 0, 0⟩).room = _
      rw [getD_set _ _ _ _ _ hc]
      have := h.rm k hk
      split
      · rename_i e; subst e; rw [hfr]; exact this
      · exact this
    · show ((b.giv.set c (b.gv c).free).getD k ⟨0, 0, 0⟩).received = ((b.giv.set c (b.gv c).free).getD k ⟨0, 0, 0⟩).freed + ((b.buffer.set c ((b.buffer.getD c []).drop 1)).getD k []).length
      rw [getD_set _ _ _ _ _ hc, getD_set _ _ _ _ _ (by rw [h.bl]; exact hcr)]
      have := h.buf k hk
      split
      · rename_i e; subst e
        rw [hfr, List.length_drop]
        show (b.gv c).received = (b.gv c).freed + 1 + _
        omega
      · exact this
theorem Lnk.take {a b : Prt} {hist : Hist} {top : Nat} (h : Lnk a b hist top) (hr : Rec b hist top) (c : Int) : Lnk a (b.take c).2 hist top := by
  unfold Prt.take
  split
  · exact h
  · rename_i d hd
    have hh : b.has c := by
      unfold Prt.peek at hd
      split at hd
      · assumption
      · cases hd
    obtain ⟨c, rfl⟩ := Int.eq_ofNat_of_zero_le hh.1
    have hc : c < b.giv.length := by rw [hr.gl]; have := hh.2; omega
    rw [Int.toNat_natCast]
    have hf : (b.gv c).limit ≤ (b.gv c).free.limit := by
      unfold Giv.free Giv.limit
      split
      · exact Nat.le_refl _
      · dsimp only; omega
    refine ⟨h.kept, h.tq, h.ack, h.sent, fun k => ?_⟩
    show b.bs k + (a.tk k).limit ≤ ((b.giv.set c (b.gv c).free).getD k ⟨0, 0, 0⟩).limit
    rw [getD_set _ _ _ _ _ hc]
    have := h.lim k
    split
    · rename_i e; subst e; exact Nat.le_trans this hf
    · exact this
/-- what choose does -/
theorem Prt.choose_eq {N : Nat} {a : Prt} (h : a.Ok N) : (∃ r, a.choose = { a with arb := r }) ∨ ∃ (c : Nat) (d : Bytes) (l : List Bytes) (r : Arb), c < a.rooms.length ∧ a.waiting.getD c [] = d :: l ∧ (a.tk c).sent < (a.tk c).limit ∧ a.snd.kept.length < a.window ∧
    a.choose = { a with arb := r, waiting := a.waiting.set c l, tak := a.tak.set c { a.tk c with sent := (a.tk c).sent + 1 }, snd := { a.snd with kept := a.snd.kept ++ [d] }, kept := a.kept ++ [(c, d)] } := by
  by_cases hw : a.window ≤ a.snd.kept.length
  · refine .inl ⟨a.arb, ?_⟩
    unfold Prt.choose
    rw [if_pos hw]
  · cases hp : (a.arb.pick a.requests).1 with
    | none =>
      refine .inl ⟨(a.arb.pick a.requests).2, ?_⟩
      unfold Prt.choose
      rw [if_neg hw, hp]
    | some c =>
      obtain ⟨h1, h2, h3⟩ := Prt.pick_some h hp
      obtain ⟨d, l, hl⟩ : ∃ d l, a.waiting.getD c [] = d :: l := by
        cases hx : a.waiting.getD c [] with
        | nil => rw [hx] at h2; cases h2
        | cons d l => exact ⟨d, l, rfl⟩
      refine .inr ⟨c, d, l, (a.arb.pick a.requests).2, h1, hl, h3, by omega, ?_⟩
      have hd : d.length ≤ 64 := getD_all (P := fun l : List Bytes => ∀ d ∈ l, d.length ≤ 64) h.wsz (d := []) (fun _ h => by cases h) c d (by rw [hl]; exact List.mem_cons_self ..)
      have ho := offer_takes (s := a.snd) hd (by rw [h.win]; omega)
      unfold Prt.choose
      rw [if_neg hw, hp]
      simp only [hl, List.drop_succ_cons, List.drop_zero, List.getD_cons_zero, ho]
      unfold Tak.take
      rw [if_neg (by omega)]
theorem getD_out {α : Type} {l : List α} {i : Nat} {d : α} (h : l.length ≤ i) : l.getD i d = d := by
  rw [List.getD, List.getElem?_eq_none h]; rfl
/-- a frame is chosen: the session has one more -/
theorem Rec.choose {N : Nat} {a b : Prt} {hist : Hist} {top : Nat} (h : Rec b hist top) (hl : Lnk a b hist top) (ha : a.Ok N) :
    ∃ k : Hist, Rec b (hist ++ k) top ∧ Lnk a.choose b (hist ++ k) top ∧ ((k = [] ∧ ∃ r, a.choose = { a with arb := r }) ∨ ∃ (c : Nat) (d : Bytes) (l : List Bytes) (r : Arb), k = [(c, d)] ∧ c < a.rooms.length ∧ a.waiting.getD c [] = d :: l ∧
      a.choose = { a with arb := r, waiting := a.waiting.set c l, tak := a.tak.set c { a.tk c with sent := (a.tk c).sent + 1 }, snd := { a.snd with kept := a.snd.kept ++ [d] }, kept := a.kept ++ [(c, d)] }) := by
  rcases Prt.choose_eq ha with ⟨r, e⟩ | ⟨c, d, l, r, h1, h2, h3, h4, e⟩
  · refine ⟨[], by rw [List.append_nil]; exact h, ?_, .inl ⟨rfl, r, e⟩⟩
    rw [e, List.append_nil]
    exact ⟨hl.kept, hl.tq, hl.ack, hl.sent, hl.lim⟩
  · have hct : c < a.tak.length := by rw [ha.tl]; exact h1
    have hlim := hl.lim c
    have hsen := hl.sent c
    have hcb : c < b.rooms.length := Decidable.byContradiction fun hx => by
      have e : b.gv c = ⟨0, 0, 0⟩ := getD_out (by rw [h.gl]; omega)
      rw [e] at hlim
      unfold Giv.limit at hlim
      dsimp only at hlim
      omega
    refine ⟨[(c, d)], ⟨h.gl, h.rt, by rw [List.length_append]; exact Nat.le_trans h.tl (Nat.le_add_right _ _), h.low, fun f hf => ?_, fun k => ?_, fun k => ?_, h.bl, h.rm, h.buf⟩, ?_, .inr ⟨c, d, l, r, rfl, h1, h2, e⟩⟩
    · rcases List.mem_append.1 hf with hf | hf
      · exact h.cls f hf
      · rw [List.mem_singleton.1 hf]; exact hcb
    · rw [cnt_append, cnt_one]
      have := h.room k
      split
      · rename_i e; subst e; omega
      · omega
    · rw [List.take_append_of_le_length (Nat.le_trans h.rt h.tl)]
      exact h.got k
    · rw [e]
      have hak : a.snd.acked ≤ hist.length := Nat.le_trans hl.ack (Nat.le_trans h.rt h.tl)
      refine ⟨?_, hl.tq, hl.ack, fun k => ?_, fun k => ?_⟩
      · show a.kept ++ [(c, d)] = (hist ++ [(c, d)]).drop a.snd.acked
        rw [List.drop_append_of_le_length hak, ← hl.kept]
      · show ((a.tak.set c { a.tk c with sent := (a.tk c).sent + 1 }).getD k ⟨0, 0⟩).sent = _
        rw [getD_set _ _ _ _ _ hct, cnt_append, cnt_one]
        have := hl.sent k
        split
        · rename_i e; subst e
          show (a.tk c).sent + 1 = _
          omega
        · rw [Nat.add_zero]; exact this
      · show b.bs k + ((a.tak.set c { a.tk c with sent := (a.tk c).sent + 1 }).getD k ⟨0, 0⟩).limit ≤ _
        rw [getD_set _ _ _ _ _ hct]
        have := hl.lim k
        split
        · rename_i e; subst e; exact this
        · exact this
/-- what a sender's tick does -/
theorem Snd.tick_cases (s : Snd) : (s.tick.1 = none ∧ ∃ t, s.tick.2 = { s with timer := t }) ∨ ∃ i, i < s.kept.length ∧ s.tick.1 = some ((s.acked + i) % 256, s.kept.getD i []) ∧ s.tick.2 = { s with pos := i + 1, sent := max s.sent (i + 1), timer := 0 } := by
  unfold Snd.tick
  split
  · exact .inl ⟨rfl, s.timer, rfl⟩
  · rename_i h0
    split
    · split
      · exact .inl ⟨rfl, s.timer + 1, rfl⟩
      · exact .inr ⟨0, by omega, rfl, rfl⟩
    · rename_i h1
      exact .inr ⟨s.pos, by omega, rfl, rfl⟩
/-- the tick of the sender of a session -/
theorem Rec.sndTick {N : Nat} {a b : Prt} {hist : Hist} {top : Nat} (h : Rec b hist top) (hl : Lnk a b hist top) (ha : a.Ok N) :
    ∃ top', top ≤ top' ∧ Rec b hist top' ∧ Lnk { a with snd := a.snd.tick.2 } b hist top' ∧ ∀ (n : Nat) (d : Bytes), a.snd.tick.1 = some (n, d) → Carries hist top' ⟨2#8, (Prt.classOf { a with snd := a.snd.tick.2 } n : Nat), n, a.inc, d⟩ := by
  have hk : a.snd.kept.length = a.kept.length := by rw [← ha.kept, List.length_map]
  have hkl : a.kept.length = hist.length - a.snd.acked := by rw [hl.kept, List.length_drop]
  have hs := ha.snd.sent; have hw := ha.snd.kept; have hw2 := ha.snd.w2
  have h1 := h.rt; have h2 := h.tl; have h3 := h.low; have h4 := hl.tq; have h5 := hl.ack
  rcases Snd.tick_cases a.snd with ⟨e1, t, e2⟩ | ⟨i, hi, e1, e2⟩
  · refine ⟨top, Nat.le_refl _, h, ?_, fun n d e => by rw [e1] at e; cases e⟩
    rw [e2]
    exact ⟨hl.kept, hl.tq, hl.ack, hl.sent, hl.lim⟩
  · refine ⟨a.snd.acked + max a.snd.sent (i + 1), by omega, ⟨h.gl, by omega, by omega, by omega, h.cls, h.room, h.got, h.bl, h.rm, h.buf⟩, ?_, fun n d e => ?_⟩
    · rw [e2]
      exact ⟨hl.kept, rfl, hl.ack, hl.sent, hl.lim⟩
    · rw [e1] at e
      simp only [Option.some.injEq, Prod.mk.injEq] at e
      obtain ⟨rfl, rfl⟩ := e
      have hik : i < a.kept.length := by omega
      obtain ⟨⟨c, d⟩, hcd⟩ : ∃ f, a.kept[i]? = some f := ⟨_, List.getElem?_eq_getElem hik⟩
      have hcls : Prt.classOf { a with snd := a.snd.tick.2 } ((a.snd.acked + i) % 256) = c := by
        unfold Prt.classOf
        rw [e2]
        dsimp only
        rw [show ((a.snd.acked + i) % 256 + 256 - a.snd.acked % 256) % 256 = i by omega, List.getD, hcd]
        rfl
      have hd : a.snd.kept.getD i [] = d := by
        rw [← ha.kept, List.getD, List.getElem?_map, hcd]
        rfl
      rw [hcls, hd]
      refine ⟨a.snd.acked + i, c, by omega, by omega, rfl, ?_, rfl⟩
      rw [← List.getElem?_drop, ← hl.kept]
      exact hcd
end Go.Proofs.Ytcocnfbhileheaa

/- Two ports and what is under way between them: each packet bears a tag that says when it was sent; the invariant of one direction, sessions and restarts included. No program in sight. -/
namespace Go.Proofs.Ytcocnfbhileheaa

/-- when a packet was sent: the incarnation of the sender, the peer of its session and of its side, what it had sent and received, the room it had given -/
structure Tag where
  i : Nat
  s : Nat
  v : Nat
  top : Nat
  r : Nat
  lim : Nat → Int
/-- one session is not before another -/
def Lx (i s j t : Nat) : Prop := i < j ∨ i = j ∧ s ≤ t
/-- one tag is not behind another -/
def Tag.le (t u : Tag) : Prop := Lx t.i t.s u.i u.s ∧ (t.i = u.i → t.s = u.s → t.top ≤ u.top ∧ t.r ≤ u.r ∧ ∀ c, t.lim c ≤ u.lim c)
theorem Tag.le.refl (t : Tag) : t.le t := ⟨.inr ⟨rfl, Nat.le_refl _⟩, fun _ _ => ⟨Nat.le_refl _, Nat.le_refl _, fun _ => Int.le_refl _⟩⟩
theorem Lx.trans {i s j t k u : Nat} (h : Lx i s j t) (h' : Lx j t k u) : Lx i s k u := by unfold Lx at *; omega
theorem Tag.le.trans {t u x : Tag} (h : t.le u) (h' : u.le x) : t.le x := by
  refine ⟨h.1.trans h'.1, fun e1 e2 => ?_⟩
  have h1 := h.1; have h2 := h'.1
  unfold Lx at h1 h2
  obtain ⟨a1, a2, a3⟩ := h.2 (by omega) (by omega)
  obtain ⟨b1, b2, b3⟩ := h'.2 (by omega) (by omega)
  exact ⟨Nat.le_trans a1 b1, Nat.le_trans a2 b2, fun c => Int.le_trans (a3 c) (b3 c)⟩
def Prt.tag (a : Prt) : Tag := ⟨a.inc, a.peer, a.side.peer, a.snd.acked + a.snd.sent, a.rcv, fun c => ((a.gv c).limit : Int) - ((a.bs c : Nat) : Int)⟩
/-- a packet under way -/
abbrev Way := Tag × Pt
/-- the packet says what its tag says -/
structure Fits (t : Tag) (y : Pt) : Prop where
  num : y.kind = 1#8 → y.number = (t.i : Int) ∧ y.value = (t.v : Int)
  val : y.kind ≠ 1#8 → y.value = (t.i : Int)
  ack : y.kind = 3#8 → y.number = ((t.r % 256 : Nat) : Int)
  crd : y.kind = 4#8 → ∀ c : Nat, y.cls = (c : Int) → y.number ≤ t.lim c
/-- one direction, from a to b; wa: what a has sent and is under way, the eldest first; wb: the same of b; hist, top: of the session in which b is -/
structure Half (a b : Prt) (wa wb : List Way) (hist : Hist) (top : Nat) : Prop where
  srt : wa.Pairwise fun p q => p.1.le q.1
  cur : ∀ p ∈ wa, p.1.le a.tag
  fit : ∀ p ∈ wa, Fits p.1 p.2
  one : ∀ p ∈ wa, 1 ≤ p.1.i
  vs : ∀ p ∈ wa, p.1.v = 0 ∨ p.1.v = p.1.s
  si : ∀ p ∈ wa, p.1.s ≤ b.inc
  mine : b.side.mine = b.inc
  inc : 1 ≤ b.inc
  sp : b.side.peer = 0 ∨ b.side.peer = b.peer
  st : b.side.peer = 0 ↔ b.side.state = 0
  pl : b.peer ≤ b.side.seen
  sl : b.side.seen ≤ a.inc
  up : b.side.state = 2 → Lx b.side.peer b.inc a.inc a.peer ∧ ∀ p ∈ wa, Lx b.side.peer b.inc p.1.i p.1.s
  rc : Rec b hist top
  over : b.overflows = 0
  fly : ∀ p ∈ wa, p.1.i = b.peer → p.1.s = b.inc → b.rcv ≤ p.1.top ∧ p.1.top ≤ top ∧ (p.2.kind = 2#8 → Carries hist p.1.top p.2)
  frF : ∀ p ∈ wa, p.1.s = b.inc → b.peer < p.1.i → p.1.top = 0 ∧ p.1.r = 0 ∧ p.2.kind ≠ 2#8
  lnk : b.peer = a.inc → a.peer = b.inc → Lnk a b hist top
  frR : b.peer = a.inc → a.peer ≠ b.inc → b.rcv = 0 ∧ ∀ c, (b.gv c).received = b.bs c ∧ b.bs c ≤ (b.gv c).limit
  frS : b.peer ≠ a.inc → a.peer = b.inc → a.snd.acked = 0 ∧ a.snd.sent = 0 ∧ a.kept = [] ∧ ∀ c, a.tk c = ⟨0, 0⟩
  akd : ∀ u ∈ wb, u.1.i = b.inc → u.1.s = a.inc → b.peer = a.inc → a.peer = b.inc → a.snd.acked ≤ u.1.r
  old : ∀ u ∈ wb, u.1.i = a.peer → u.1.s = a.inc → a.peer ≠ b.inc → a.snd.acked ≤ u.1.r ∧ u.1.r ≤ a.snd.acked + a.snd.sent
section
variable {a a' b b' : Prt} {wa wb wa' wb' : List Way} {x : Way} {hist : Hist} {top : Nat}
/-- fewer packets under way, or the same ones again, in order -/
theorem Half.ways (h : Half a b wa wb hist top) (h1 : ∀ p ∈ wa', p ∈ wa) (h2 : wa'.Pairwise fun p q => p.1.le q.1) (h3 : ∀ p ∈ wb', p ∈ wb) : Half a b wa' wb' hist top :=
  { h with
    srt := h2
    cur := fun p hp => h.cur p (h1 p hp)
    fit := fun p hp => h.fit p (h1 p hp)
    one := fun p hp => h.one p (h1 p hp)
    vs := fun p hp => h.vs p (h1 p hp)
    si := fun p hp => h.si p (h1 p hp)
    up := fun e => ⟨(h.up e).1, fun p hp => (h.up e).2 p (h1 p hp)⟩
    fly := fun p hp => h.fly p (h1 p hp)
    frF := fun p hp => h.frF p (h1 p hp)
    akd := fun p hp => h.akd p (h3 p hp)
    old := fun p hp => h.old p (h3 p hp) }
theorem Half.dropB (h : Half a b wa (x :: wb) hist top) : Half a b wa wb hist top := h.ways (fun _ hp => hp) h.srt fun _ hp => List.mem_cons_of_mem _ hp
theorem Half.dropA (h : Half a b (x :: wa) wb hist top) : Half a b wa wb hist top := h.ways (fun _ hp => List.mem_cons_of_mem _ hp) (List.pairwise_cons.1 h.srt).2 fun _ hp => hp
theorem Rec.same (h : Rec b hist top) (e1 : b'.rooms = b.rooms) (e2 : b'.rcv = b.rcv) (e3 : b'.giv = b.giv) (e4 : b'.base = b.base) (e5 : b'.buffer = b.buffer) : Rec b' hist top :=
  ⟨by rw [e1, e3]; exact h.gl, by rw [e2]; exact h.rt, h.tl, by rw [e2]; exact h.low, by rw [e1]; exact h.cls, by simpa only [e1, Prt.bs, Prt.gv, e3, e4] using h.room, by simpa only [e1, e2, Prt.bs, Prt.gv, e3, e4] using h.got, by rw [e1, e5]; exact h.bl, by simpa only [e1, Prt.gv, e3] using h.rm, by simpa only [e1, e5, Prt.gv, e3] using h.buf⟩
theorem Lnk.sameB (h : Lnk a b hist top) (e2 : b'.rcv = b.rcv) (e3 : b'.giv = b.giv) (e4 : b'.base = b.base) : Lnk a b' hist top :=
  ⟨h.kept, h.tq, by rw [e2]; exact h.ack, h.sent, by simpa only [Prt.bs, Prt.gv, e3, e4] using h.lim⟩
theorem Tag.le.lx {t u : Tag} (h : t.le u) : Lx t.i t.s u.i u.s := h.1
/-- the sender's port has changed within its session -/
theorem Half.ofA (h : Half a b wa wb hist top) (e2 : a'.inc = a.inc) (e3 : a'.peer = a.peer) (ht : a.tag.le a'.tag)
    (hk : a'.snd.acked = a.snd.acked ∨ ∀ u ∈ wb, u.1.i = b.inc → u.1.s = a.inc → b.peer = a.inc → a.peer = b.inc → a'.snd.acked ≤ u.1.r)
    (hl : b.peer = a.inc → a.peer = b.inc → Lnk a b hist top → Lnk a' b hist top)
    (hs : b.peer ≠ a.inc → a.peer = b.inc → a'.snd.acked = 0 ∧ a'.snd.sent = 0 ∧ a'.kept = [] ∧ ∀ c, a'.tk c = ⟨0, 0⟩)
    (ho : ∀ u ∈ wb, u.1.i = a.peer → u.1.s = a.inc → a.peer ≠ b.inc → a'.snd.acked ≤ u.1.r ∧ u.1.r ≤ a'.snd.acked + a'.snd.sent) : Half a' b wa wb hist top :=
  { h with
    cur := fun p hp => (h.cur p hp).trans ht
    sl := by rw [e2]; exact h.sl
    up := by rw [e2, e3]; exact h.up
    lnk := by rw [e2, e3]; exact fun x y => hl x y (h.lnk x y)
    frR := by rw [e2, e3]; exact h.frR
    frS := by rw [e2, e3]; exact hs
    akd := by
      rw [e2, e3]
      rcases hk with hk | hk
      · rw [hk]; exact h.akd
      · exact hk
    old := by rw [e2, e3]; exact ho }
/-- the receiver's port has changed, not in what a receiver is -/
theorem Half.ofB (h : Half a b wa wb hist top) (e1 : b'.rooms = b.rooms) (e2 : b'.inc = b.inc) (e3 : b'.peer = b.peer) (e4 : b'.side = b.side)
    (e5 : b'.rcv = b.rcv) (e6 : b'.giv = b.giv) (e7 : b'.base = b.base) (e8 : b'.overflows = b.overflows) (e9 : b'.buffer = b.buffer) : Half a b' wa wb hist top where
  srt := h.srt
  cur := h.cur
  fit := h.fit
  one := h.one
  vs := h.vs
  si := by rw [e2]; exact h.si
  mine := by rw [e2, e4]; exact h.mine
  inc := by rw [e2]; exact h.inc
  sp := by rw [e3, e4]; exact h.sp
  st := by rw [e4]; exact h.st
  pl := by rw [e3, e4]; exact h.pl
  sl := by rw [e4]; exact h.sl
  up := by rw [e2, e4]; exact h.up
  rc := h.rc.same e1 e5 e6 e7 e9
  over := by rw [e8]; exact h.over
  fly := by rw [e2, e3, e5]; exact h.fly
  frF := by rw [e2, e3]; exact h.frF
  lnk := by rw [e2, e3]; exact fun x y => (h.lnk x y).sameB e5 e6 e7
  frR := by simpa only [e2, e3, e5, Prt.bs, Prt.gv, e6, e7] using h.frR
  frS := by rw [e2, e3]; exact h.frS
  akd := by rw [e2, e3]; exact h.akd
  old := by rw [e2]; exact h.old
end
end Go.Proofs.Ytcocnfbhileheaa

/- Two ports and what is under way between them: the packets that a port handles, one by one. No program in sight. -/
namespace Go.Proofs.Ytcocnfbhileheaa

section
variable {N : Nat} {a b : Prt} {wa wb : List Way} {t : Tag} {y : Pt} {hA hB : Hist} {tA tB : Nat}
/-- an accepted packet is of the session in which the port is -/
theorem Half.of_up (hb : Half b a ((t, y) :: wb) wa hB tB) (hk : y.kind ≠ 1#8) (hup : a.side.state = 2 ∧ a.side.peer ≠ 0 ∧ (a.side.peer : Int) = y.value) : t.i = a.peer ∧ t.s = a.inc ∧ (a.peer = b.inc → b.peer = a.inc ∨ a.inc < b.peer) := by
  have hv := (hb.fit _ (List.mem_cons_self ..)).val hk
  dsimp only at hv
  have h1 : a.side.peer = t.i := by have := hup.2.2; rw [hv] at this; exact_mod_cast this
  have hp : a.side.peer = a.peer := (hb.sp).resolve_left hup.2.1
  obtain ⟨u1, u2⟩ := hb.up hup.1
  have u3 := u2 _ (List.mem_cons_self ..)
  have h4 := hb.si _ (List.mem_cons_self ..)
  unfold Lx at u1 u3
  dsimp only at u3 h4
  exact ⟨by omega, by omega, fun h => by omega⟩
theorem drop_acked (s : Snd) (k : Nat) (hk : k ≤ s.sent) : (s.drop k).acked = s.acked + k ∧ (s.drop k).acked + (s.drop k).sent = s.acked + s.sent := by
  unfold Snd.drop
  split
  · exact ⟨by omega, rfl⟩
  · exact ⟨rfl, by dsimp only; omega⟩
theorem ack_step (a : Prt) (y : Pt) : ∃ k, k ≤ a.snd.sent ∧ a.acknowledge y = { a with snd := a.snd.drop k, acked := tally a.acked (a.kept.take k), kept := a.kept.drop k } := by
  unfold Prt.acknowledge Snd.ack Snd.accept
  cases h : a.snd.count y.number with
  | none => exact ⟨0, Nat.zero_le _, by simp [Snd.drop]⟩
  | some k => exact ⟨k, count_le h, rfl⟩
theorem ack_tag (a : Prt) (y : Pt) : (a.acknowledge y).tag = a.tag := by
  obtain ⟨k, hk, e⟩ := ack_step a y
  rw [e]
  unfold Prt.tag
  dsimp only
  rw [(drop_acked a.snd k hk).2]
theorem both_ack (ha : Half a b wa ((t, y) :: wb) hA tA) (hb : Half b a ((t, y) :: wb) wa hB tB) (ok : a.Ok N) (hk : y.kind = 3#8) (hup : a.side.state = 2 ∧ a.side.peer ≠ 0 ∧ (a.side.peer : Int) = y.value) :
    Half (a.acknowledge y) b wa wb hA tA ∧ Half b (a.acknowledge y) wb wa hB tB ∧ a.snd.acked ≤ t.r ∧ t.r ≤ a.snd.acked + a.snd.sent ∧ t.i = a.peer ∧ t.s = a.inc ∧
      a.acknowledge y = { a with snd := a.snd.drop (t.r - a.snd.acked), acked := tally a.acked (a.kept.take (t.r - a.snd.acked)), kept := a.kept.drop (t.r - a.snd.acked) } := by
  obtain ⟨hp, hs, hli⟩ := hb.of_up (by rw [hk]; decide) hup
  have hbi := Nat.le_trans ha.pl ha.sl
  have hnum := (hb.fit _ (List.mem_cons_self ..)).ack hk
  dsimp only at hnum
  have hcur := hb.cur _ (List.mem_cons_self ..)
  have hr : a.peer = b.inc → t.r ≤ b.rcv := fun h => (hcur.2 (hp.trans h) (hs.trans (by have := hli h; show a.inc = b.peer; omega))).2.1
  have hlo : a.snd.acked ≤ t.r ∧ t.r ≤ a.snd.acked + a.snd.sent := by
    by_cases h2 : a.peer = b.inc
    · have h1 : b.peer = a.inc := by have := hli h2; omega
      have h3 := (ha.lnk h1 h2).tq
      have h4 := ha.rc.rt
      have h5 := hr h2
      exact ⟨ha.akd _ (List.mem_cons_self ..) (hp.trans h2) hs h1 h2, by omega⟩
    · exact ha.old _ (List.mem_cons_self ..) hp hs h2
  obtain ⟨e, e1, e2⟩ := ack_exact ok.snd hlo.1 hlo.2 hnum
  have hak : (a.acknowledge y).snd.acked = t.r := by rw [e]; exact e1
  have hsum : (a.acknowledge y).snd.acked + (a.acknowledge y).snd.sent = a.snd.acked + a.snd.sent := by rw [hak, e]; dsimp only; rw [e2]; omega
  have hle : ∀ u ∈ wb, u.1.i = a.peer → u.1.s = a.inc → t.r ≤ u.1.r := fun u hu e1 e2 => (((List.pairwise_cons.1 hb.srt).1 u hu).2 (hp.trans e1.symm) (hs.trans e2.symm)).2.1
  refine ⟨ha.dropB.ofA rfl rfl (by rw [ack_tag]; exact Tag.le.refl _) (.inr fun u hu e1 e2 h1 h2 => ?_) (fun h1 h2 hl => ?_) (fun h1 h2 => ?_) (fun u hu e1 e2 e3 => ?_), hb.dropA.ofB rfl rfl rfl rfl rfl rfl rfl rfl rfl, hlo.1, hlo.2, hp, hs, e⟩
  · rw [hak]; exact hle u hu (e1.trans h2.symm) e2
  · exact hl.acknowledge ha.rc ok.snd hlo.1 (hr h2) hnum
  · have := hli h2; omega
  · rw [hak, ← hak, hsum, hak]
    exact ⟨hle u hu e1 e2, (ha.dropB.old u hu e1 e2 e3).2⟩
theorem raise_fields (a : Prt) (y : Pt) : (a.raise y).rooms = a.rooms ∧ (a.raise y).inc = a.inc ∧ (a.raise y).peer = a.peer ∧ (a.raise y).side = a.side ∧ (a.raise y).rcv = a.rcv ∧ (a.raise y).giv = a.giv ∧ (a.raise y).base = a.base ∧ (a.raise y).overflows = a.overflows := by
  unfold Prt.raise
  split <;> exact ⟨rfl, rfl, rfl, rfl, rfl, rfl, rfl, rfl⟩
theorem raise_buf (a : Prt) (y : Pt) : (a.raise y).buffer = a.buffer := by
  unfold Prt.raise
  split <;> rfl
theorem raise_snd (a : Prt) (y : Pt) : (a.raise y).snd = a.snd := by
  unfold Prt.raise
  split <;> rfl
theorem raise_tag (a : Prt) (y : Pt) : (a.raise y).tag = a.tag := by
  unfold Prt.raise
  split <;> rfl
theorem both_raise (ha : Half a b wa ((t, y) :: wb) hA tA) (hb : Half b a ((t, y) :: wb) wa hB tB) (ok : a.Ok N) (hk : y.kind = 4#8) (hup : a.side.state = 2 ∧ a.side.peer ≠ 0 ∧ (a.side.peer : Int) = y.value) :
    Half (a.raise y) b wa wb hA tA ∧ Half b (a.raise y) wb wa hB tB := by
  obtain ⟨hp, hs, hli⟩ := hb.of_up (by rw [hk]; decide) hup
  obtain ⟨e1, e2, e3, e4, e5, e6, e7, e8⟩ := raise_fields a y
  have hbi := Nat.le_trans ha.pl ha.sl
  refine ⟨ha.dropB.ofA e2 e3 (by rw [raise_tag]; exact Tag.le.refl _) (.inl (by rw [raise_snd])) (fun h1 h2 hl => ?_) (fun h1 h2 => ?_) (by rw [raise_snd]; exact ha.dropB.old), hb.dropA.ofB e1 e2 e3 e4 e5 e6 e7 e8 (raise_buf a y)⟩
  · refine hl.raise ok.tl fun c hc => ?_
    have hn := (hb.fit _ (List.mem_cons_self ..)).crd hk c hc
    have hc2 := ((hb.cur _ (List.mem_cons_self ..)).2 (hp.trans h2) (hs.trans h1.symm)).2.2 c
    have hc3 : t.lim c ≤ ((b.gv c).limit : Int) - ((b.bs c : Nat) : Int) := hc2
    dsimp only at hn
    omega
  · have := hli h2; omega
/-- data are taken in -/
theorem both_receive (ha : Half a b wa ((t, y) :: wb) hA tA) (hb : Half b a ((t, y) :: wb) wa hB tB) (hk : y.kind = 2#8) (hup : a.side.state = 2 ∧ a.side.peer ≠ 0 ∧ (a.side.peer : Int) = y.value) :
    Half (a.receive y) b wa wb hA tA ∧ Half b (a.receive y) wb wa hB tB ∧ (a.receive y = a ∨ ∃ (c : Nat), hB[a.rcv]? = some (c, y.pay) ∧ c < a.rooms.length ∧ a.receive y = { a with
        rcv := a.rcv + 1
        giv := a.giv.set c { a.gv c with received := (a.gv c).received + 1 }
        buffer := a.buffer.set c (a.buffer.getD c [] ++ [y.pay])
        received := a.received.set c (a.received.getD c 0 + 1) }) := by
  obtain ⟨hp, hs, hli⟩ := hb.of_up (by rw [hk]; decide) hup
  obtain ⟨f1, f2, f3⟩ := hb.fly _ (List.mem_cons_self ..) hp hs
  have hc := f3 hk
  dsimp only at f1 f2 hc
  have hbi := Nat.le_trans ha.pl ha.sl
  obtain ⟨hr, ho, e | ⟨c, h1, h2, h3, e⟩⟩ := hb.rc.receive f1 f2 hc
  · rw [e]; exact ⟨ha.dropB, hb.dropA, .inl rfl⟩
  · have hL := fun x z => (hb.lnk x z).receive hb.rc f1 f2 hc
    rw [e] at hr ho hL ⊢
    have hlim : ∀ k, ((a.giv.set c { a.gv c with received := (a.gv c).received + 1 }).getD k ⟨0, 0, 0⟩).limit = (a.gv k).limit := fun k => by
      rw [getD_set _ _ _ _ _ (by rw [hb.rc.gl]; exact h3)]
      split
      · rename_i e; subst e; rfl
      · rfl
    refine ⟨ha.dropB.ofA rfl rfl ⟨.inr ⟨rfl, Nat.le_refl _⟩, fun _ _ => ⟨Nat.le_refl _, Nat.le_succ _, fun k => ?_⟩⟩ (.inl rfl) (fun _ _ hl => ⟨hl.kept, hl.tq, hl.ack, hl.sent, hl.lim⟩) ha.frS ha.dropB.old, ?_, .inr ⟨c, h2, h3, rfl⟩⟩
    · show ((a.gv k).limit : Int) - _ ≤ (((a.giv.set c { a.gv c with received := (a.gv c).received + 1 }).getD k ⟨0, 0, 0⟩).limit : Int) - _
      rw [hlim k]
      exact Int.le_refl _
    · have hd := hb.dropA
      exact { hd with
        rc := hr
        over := by rw [ho]; exact hd.over
        fly := fun p hp' e1 e2 => by
          obtain ⟨g1, g2, g3⟩ := hd.fly p hp' e1 e2
          have hle := (((List.pairwise_cons.1 hb.srt).1 p hp').2 (hp.trans e1.symm) (hs.trans e2.symm)).1
          dsimp only at hle
          exact ⟨Nat.le_trans h1 hle, g2, g3⟩
        lnk := hL
        frR := fun x z => absurd (show b.peer = a.inc by have := hli x; omega) z }
/-- what a greeting does to a port -/
theorem greet_cases (hb : Half b a ((t, y) :: wb) wa hB tB) (okb : b.inc ≤ 1099511627775) (hk : y.kind = 1#8) :
    a.greet y = a ∨ (a.side.seen ≤ t.i ∧ ∃ sd : Side, sd.mine = a.side.mine ∧ sd.dead = a.side.dead ∧ sd.seen = t.i ∧ sd.silent = 0 ∧ sd.peer = t.i ∧ sd.state = (if t.v = a.inc then 2 else 1) ∧
      a.greet y = if t.i = a.peer then { a with side := sd } else ({ a with side := sd } : Prt).begin t.i) := by
  obtain ⟨hn, hv⟩ := (hb.fit _ (List.mem_cons_self ..)).num hk
  have h1 := hb.one _ (List.mem_cons_self ..)
  have h2 : t.i ≤ b.inc := by
    have h3 := (hb.cur _ (List.mem_cons_self ..)).1
    unfold Lx at h3
    have h4 : b.tag.i = b.inc := rfl
    dsimp only at h3
    omega
  dsimp only at hn hv h1
  by_cases hs : t.i < a.side.seen
  · refine .inl ?_
    have e : a.side.receive y.number y.value = a.side := by
      unfold Side.receive
      rw [if_pos (by rw [hn]; omega)]
    unfold Prt.greet
    dsimp only
    rw [e, if_neg]
    rintro ⟨h3, h4⟩
    rcases hb.sp with h | h
    · exact h3 h
    · exact h4 h
  · refine .inr ⟨by omega, { a.side with seen := t.i, silent := 0, peer := t.i, state := if t.v = a.inc then 2 else 1 }, rfl, rfl, rfl, rfl, rfl, rfl, ?_⟩
    have e : a.side.receive y.number y.value = { a.side with seen := t.i, silent := 0, peer := t.i, state := if t.v = a.inc then 2 else 1 } := by
      unfold Side.receive
      have e3 : (if (t.v : Int) = (a.side.mine : Int) then 2 else 1) = if t.v = a.inc then 2 else 1 := by
        rw [hb.mine]
        by_cases hx : t.v = a.inc
        · rw [hx]; simp
        · rw [if_neg hx, if_neg (by omega)]
      rw [if_neg (by rw [hn]; omega), hn, hv, Int.toNat_natCast, e3]
    unfold Prt.greet
    dsimp only
    rw [e]
    dsimp only
    by_cases hx : t.i = a.peer
    · rw [if_pos hx, if_neg (fun h => h.2 hx)]
    · rw [if_neg hx, if_pos ⟨by omega, hx⟩]
/-- a greeting that answers: all that is behind it is of the session -/
theorem Half.answer (hb : Half b a ((t, y) :: wb) wa hB tB) (hi : 1 ≤ a.inc) (hv : t.v = a.inc) : Lx t.i a.inc b.inc b.peer ∧ ∀ p ∈ wb, Lx t.i a.inc p.1.i p.1.s := by
  have hs : t.s = a.inc := by
    rcases hb.vs _ (List.mem_cons_self ..) with h | h
    · dsimp only at h; omega
    · dsimp only at h; omega
  refine ⟨?_, fun p hp => ?_⟩
  · have := (hb.cur _ (List.mem_cons_self ..)).1
    rw [← hs]; exact this
  · have := ((List.pairwise_cons.1 hb.srt).1 p hp).1
    rw [← hs]; exact this
/-- a greeting of the port to which the session belongs -/
theorem both_stay (ha : Half a b wa ((t, y) :: wb) hA tA) (hb : Half b a ((t, y) :: wb) wa hB tB) (sd : Side) (h1 : sd.mine = a.side.mine) (h2 : sd.seen = t.i) (h3 : sd.peer = t.i) (h4 : sd.state = if t.v = a.inc then 2 else 1) (hx : t.i = a.peer) :
    Half { a with side := sd } b wa wb hA tA ∧ Half b { a with side := sd } wb wa hB tB := by
  have hst : sd.state = 2 → t.v = a.inc := fun e => by
    rw [h4] at e
    split at e
    · assumption
    · cases e
  have h5 : t.i ≤ b.inc := by
    have h3 := (hb.cur _ (List.mem_cons_self ..)).1
    unfold Lx at h3
    have h4 : b.tag.i = b.inc := rfl
    dsimp only at h3
    omega
  have hA := ha.dropB
  have hB := hb.dropA
  refine ⟨{ hA with
    lnk := fun x z => have h := hA.lnk x z; ⟨h.kept, h.tq, h.ack, h.sent, h.lim⟩ }, { hB with
    mine := h1.trans hB.mine
    sp := .inr (h3.trans hx)
    st := ?_
    pl := by show a.peer ≤ sd.seen; omega
    sl := by show sd.seen ≤ b.inc; rw [h2]; exact h5
    up := fun e => by
      show Lx sd.peer a.inc b.inc b.peer ∧ ∀ p ∈ wb, Lx sd.peer a.inc p.1.i p.1.s
      rw [h3]; exact hb.answer hB.inc (hst e)
    rc := hB.rc.same rfl rfl rfl rfl rfl
    lnk := fun x z => (hB.lnk x z).sameB rfl rfl rfl }⟩
  show sd.peer = 0 ↔ sd.state = 0
  have h6 := hb.one _ (List.mem_cons_self ..)
  dsimp only at h6
  rw [h3, h4]
  split <;> omega
end
end Go.Proofs.Ytcocnfbhileheaa

/- Two ports and what flies between them: a session begins. No program in sight. -/
namespace Go.Proofs.Ytcocnfbhileheaa

theorem held_all (r : Nat) : ∀ k, k ≤ r → Giv.held ⟨r, 0, 0⟩ k = ⟨r, k, 0⟩ := fun k hk => by
  rw [held_eq, Nat.min_eq_left hk]
/-- what a port that has begun a session keeps as a receiver -/
theorem begin_rec {b : Prt} {hist : Hist} {top p : Nat} (h : Rec b hist top) :
    Rec (b.begin p) [] 0 ∧ ∀ c, ((b.begin p).gv c).received = (b.begin p).bs c ∧ (b.begin p).bs c ≤ ((b.begin p).gv c).limit := by
  have hout : ∀ c, b.rooms.length ≤ c → (b.begin p).gv c = ⟨0, 0, 0⟩ ∧ (b.begin p).bs c = 0 := fun c hc => ⟨getD_out (by simp [Prt.begin]; exact hc), getD_out (by simp [Prt.begin, h.bl]; exact hc)⟩
  have hlen : ∀ c, c < b.rooms.length → (b.buffer.getD c []).length ≤ b.rooms.getD c 0 := fun c hc => by
    have h1 := h.buf c hc; have h2 := h.room c; have h3 := h.got c; have h4 := h.rm c hc
    have h5 := cnt_take_le hist b.rcv c
    unfold Giv.limit at h2
    omega
  have hg : ∀ c, c < b.rooms.length → (b.begin p).gv c = ⟨b.rooms.getD c 0, (b.buffer.getD c []).length, 0⟩ := fun c hc => by
    show ((List.range b.rooms.length).map fun c => Giv.held ⟨b.rooms.getD c 0, 0, 0⟩ (b.buffer.getD c []).length).getD c ⟨0, 0, 0⟩ = _
    rw [List.getD, List.getElem?_map, List.getElem?_range hc]
    exact held_all _ _ (hlen c hc)
  have hb : ∀ c, c < b.rooms.length → (b.begin p).bs c = (b.buffer.getD c []).length := fun c hc => by
    show (b.buffer.map List.length).getD c 0 = _
    rw [List.getD, List.getElem?_map, List.getD, List.getElem?_eq_getElem (by rw [h.bl]; exact hc)]
    rfl
  refine ⟨⟨by simp [Prt.begin], Nat.le_refl _, Nat.zero_le _, Nat.zero_le _, (fun f hf => by cases hf), fun c => ?_, fun c => ?_, h.bl, fun c hc => ?_, fun c hc => ?_⟩, fun c => ?_⟩
  · rcases Nat.lt_or_ge c b.rooms.length with hc | hc
    · rw [hg c hc, hb c hc]
      show (b.buffer.getD c []).length + 0 ≤ b.rooms.getD c 0 + 0
      have := hlen c hc
      omega
    · rw [(hout c hc).1, (hout c hc).2]; exact Nat.le_refl _
  · rcases Nat.lt_or_ge c b.rooms.length with hc | hc
    · rw [hg c hc, hb c hc]; rfl
    · rw [(hout c hc).1, (hout c hc).2]; rfl
  · rw [hg c hc]; rfl
  · rw [hg c hc]; show _ = 0 + (b.buffer.getD c []).length; rw [Nat.zero_add]
  · rcases Nat.lt_or_ge c b.rooms.length with hc | hc
    · rw [hg c hc, hb c hc]
      have := hlen c hc
      exact ⟨rfl, by show _ ≤ b.rooms.getD c 0 + 0; omega⟩
    · rw [(hout c hc).1, (hout c hc).2]; exact ⟨rfl, Nat.le_refl _⟩
section
variable {N : Nat} {a b : Prt} {wa wb : List Way} {t : Tag} {y : Pt} {hA hB : Hist} {tA tB : Nat}
theorem begin_tk (a : Prt) (p c : Nat) : (a.begin p).tk c = ⟨0, 0⟩ := by
  show (List.replicate a.rooms.length (⟨0, 0⟩ : Tak)).getD c ⟨0, 0⟩ = _
  rw [List.getD, List.getElem?_replicate]
  split <;> rfl
/-- a greeting with which a session begins -/
theorem both_begin (ha : Half a b wa ((t, y) :: wb) hA tA) (hb : Half b a ((t, y) :: wb) wa hB tB) (sd : Side) (h1 : sd.mine = a.side.mine) (h2 : sd.seen = t.i) (h3 : sd.peer = t.i) (h4 : sd.state = if t.v = a.inc then 2 else 1) (hs : a.side.seen ≤ t.i) (hx : t.i ≠ a.peer) :
    ∃ hA' tA', Half (({ a with side := sd } : Prt).begin t.i) b wa wb hA' tA' ∧ Half b (({ a with side := sd } : Prt).begin t.i) wb wa [] 0 ∧ ((t.i = b.inc ∧ b.peer = a.inc ∧ hA' = [] ∧ b.rcv = 0) ∨ (¬ (t.i = b.inc ∧ b.peer = a.inc) ∧ hA' = hA ∧ tA' = tA)) := by
  have hst : sd.state = 2 → t.v = a.inc := fun e => by
    rw [h4] at e
    split at e
    · assumption
    · cases e
  have hlt : a.peer < t.i := by have := hb.pl; omega
  have hcu := hb.cur _ (List.mem_cons_self ..)
  have hib : t.i ≤ b.inc := by
    have h3 := hcu.1
    unfold Lx at h3
    have h4 : b.tag.i = b.inc := rfl
    dsimp only at h3
    omega
  have h1i : 1 ≤ t.i := hb.one _ (List.mem_cons_self ..)
  have hne : a.peer ≠ b.inc := by omega
  have hA0 := ha.dropB
  have hB0 := hb.dropA
  have hold : ∀ p ∈ wa, p.1.i = a.inc → p.1.s ≤ a.peer := fun p hp e => by
    have := (ha.cur p hp).1
    unfold Lx at this
    have h4 : a.tag.i = a.inc := rfl
    have h5 : a.tag.s = a.peer := rfl
    omega
  obtain ⟨hrec, hfr⟩ := begin_rec (b := { a with side := sd }) (p := t.i) (hb.rc.same rfl rfl rfl rfl rfl)
  have htag : a.tag.le (({ a with side := sd } : Prt).begin t.i).tag := ⟨.inr ⟨rfl, Nat.le_of_lt hlt⟩, fun _ e => absurd (show a.peer = t.i from e) (by omega)⟩
  have hBB : Half b (({ a with side := sd } : Prt).begin t.i) wb wa [] 0 := { hB0 with
    mine := h1.trans hB0.mine
    sp := .inr h3
    st := by
      show sd.peer = 0 ↔ sd.state = 0
      rw [h3, h4]
      split <;> omega
    pl := by show t.i ≤ sd.seen; omega
    sl := by show sd.seen ≤ b.inc; omega
    up := fun e => by
      show Lx sd.peer a.inc b.inc b.peer ∧ ∀ p ∈ wb, Lx sd.peer a.inc p.1.i p.1.s
      rw [h3]; exact hb.answer hB0.inc (hst e)
    rc := hrec
    over := hB0.over
    fly := fun p hp e1 e2 => by
      obtain ⟨f1, _, f2⟩ := hb.frF p (List.mem_cons_of_mem _ hp) e2 (by show a.peer < p.1.i; have e1' : p.1.i = t.i := e1; omega)
      exact ⟨Nat.zero_le _, by omega, fun e => absurd e f2⟩
    frF := fun p hp e1 e2 => hB0.frF p hp e1 (Nat.lt_trans hlt e2)
    lnk := fun x z => by
      obtain ⟨q1, q2, q3, q4⟩ := hb.frS hne z
      refine ⟨by rw [q3, List.drop_nil], by omega, by rw [q1]; exact Nat.zero_le _, fun c => by rw [q4 c]; rfl, fun c => ?_⟩
      rw [q4 c]
      exact (hfr c).2
    frR := fun _ _ => ⟨rfl, hfr⟩
    frS := fun _ z => hb.frS hne z
    akd := fun p hp e1 e2 e3 _ => by
      have := hold p hp e1
      have e3' : t.i = b.inc := e3
      omega
    old := fun p hp e1 e2 e3 => hb.old p hp e1 e2 (fun e4 => by
      have := hold p hp (e1.trans e4)
      have e5 : p.1.s = b.inc := e2
      omega) }
  have hnew : ∀ u ∈ wb, u.1.i = t.i → u.1.s = a.inc → t.i ≠ b.inc → 0 ≤ u.1.r ∧ u.1.r ≤ 0 + 0 := fun u hu e1 e2 _ => by
    have := (hb.frF u (List.mem_cons_of_mem _ hu) e2 (by rw [e1]; exact hlt)).2.1
    exact ⟨Nat.zero_le _, by omega⟩
  by_cases hl : t.i = b.inc ∧ b.peer = a.inc
  · obtain ⟨hl1, hl2⟩ := hl
    obtain ⟨r0, r1⟩ := ha.frR hl2 hne
    refine ⟨[], 0, { hA0 with
      cur := fun p hp => (hA0.cur p hp).trans htag
      up := fun e => ⟨by
        have := (hA0.up e).1
        unfold Lx at this ⊢
        show b.side.peer < a.inc ∨ b.side.peer = a.inc ∧ b.inc ≤ t.i
        omega, (hA0.up e).2⟩
      rc := ⟨hA0.rc.gl, by omega, Nat.zero_le _, Nat.zero_le _, (fun f hf => by cases hf), fun c => (r1 c).2, fun c => by rw [r0]; exact (r1 c).1, hA0.rc.bl, hA0.rc.rm, hA0.rc.buf⟩
      fly := fun p hp e1 e2 => by have := hold p hp (e1.trans hl2); omega
      lnk := fun _ _ => ⟨rfl, rfl, Nat.zero_le _, fun c => by rw [begin_tk]; rfl, fun c => by rw [begin_tk]; exact (r1 c).2⟩
      frR := fun _ z => absurd hl1 z
      frS := fun z _ => absurd hl2 z
      akd := fun _ _ _ _ _ _ => Nat.zero_le _
      old := hnew }, hBB, .inl ⟨hl1, hl2, rfl, r0⟩⟩
  · refine ⟨hA, tA, { hA0 with
      cur := fun p hp => (hA0.cur p hp).trans htag
      up := fun e => ⟨by
        have := (hA0.up e).1
        unfold Lx at this ⊢
        show b.side.peer < a.inc ∨ b.side.peer = a.inc ∧ b.inc ≤ t.i
        omega, (hA0.up e).2⟩
      lnk := fun x z => absurd ⟨z, x⟩ hl
      frR := fun x _ => hA0.frR x hne
      frS := fun _ _ => ⟨rfl, rfl, rfl, fun c => begin_tk _ _ c⟩
      akd := fun _ _ _ _ _ _ => Nat.zero_le _
      old := hnew }, hBB, .inr ⟨hl, rfl, rfl⟩⟩
end
end Go.Proofs.Ytcocnfbhileheaa

/- Two ports and what is under way between them: a packet is handled, all that arrives is handled. No program in sight. -/
namespace Go.Proofs.Ytcocnfbhileheaa

/-- what a packet changes where no session begins -/
def Step (t : Tag) (a a' : Prt) (hB : Hist) : Prop :=
  (∃ sd tk, a' = { a with side := sd, tak := tk }) ∨
  (a.snd.acked ≤ t.r ∧ t.r ≤ a.snd.acked + a.snd.sent ∧ t.i = a.peer ∧ t.s = a.inc ∧
    a' = { a with snd := a.snd.drop (t.r - a.snd.acked), acked := tally a.acked (a.kept.take (t.r - a.snd.acked)), kept := a.kept.drop (t.r - a.snd.acked) }) ∨
  ∃ (c : Nat) (d : Bytes), hB[a.rcv]? = some (c, d) ∧ c < a.rooms.length ∧ a' = { a with
    rcv := a.rcv + 1
    giv := a.giv.set c { a.gv c with received := (a.gv c).received + 1 }
    buffer := a.buffer.set c (a.buffer.getD c [] ++ [d])
    received := a.received.set c (a.received.getD c 0 + 1) }
section
variable {N : Nat} {a b : Prt} {wa wb : List Way} {t : Tag} {y : Pt} {hA hB : Hist} {tA tB : Nat}
theorem both_handle (ha : Half a b wa ((t, y) :: wb) hA tA) (hb : Half b a ((t, y) :: wb) wa hB tB) (ok : a.Ok N) (okb : b.inc ≤ 1099511627775) :
    ∃ hA' tA' hB' tB', Half (a.handle y) b wa wb hA' tA' ∧ Half b (a.handle y) wb wa hB' tB' ∧
      ((hA' = hA ∧ tA' = tA ∧ hB' = hB ∧ tB' = tB ∧ Step t a (a.handle y) hB) ∨ (a.peer < t.i ∧ hB' = [] ∧ ((t.i = b.inc ∧ b.peer = a.inc ∧ hA' = [] ∧ b.rcv = 0) ∨ (¬ (t.i = b.inc ∧ b.peer = a.inc) ∧ hA' = hA ∧ tA' = tA)) ∧ ∃ sd, a.handle y = ({ a with side := sd } : Prt).begin t.i)) := by
  by_cases k1 : y.kind = 1#8
  · have e : a.handle y = a.greet y := by unfold Prt.handle; rw [if_pos k1]
    rw [e]
    rcases greet_cases hb okb k1 with e | ⟨hs, sd, h1, _, h2, _, h3, h4, e⟩
    · rw [e]
      exact ⟨hA, tA, hB, tB, ha.dropB, hb.dropA, .inl ⟨rfl, rfl, rfl, rfl, .inl ⟨a.side, a.tak, rfl⟩⟩⟩
    · by_cases hx : t.i = a.peer
      · rw [e, if_pos hx]
        obtain ⟨q1, q2⟩ := both_stay ha hb sd h1 h2 h3 h4 hx
        exact ⟨hA, tA, hB, tB, q1, q2, .inl ⟨rfl, rfl, rfl, rfl, .inl ⟨sd, a.tak, rfl⟩⟩⟩
      · rw [e, if_neg hx]
        obtain ⟨hA', tA', q1, q2, q3⟩ := both_begin ha hb sd h1 h2 h3 h4 hs hx
        exact ⟨hA', tA', [], 0, q1, q2, .inr ⟨by have := hb.pl; omega, rfl, q3, sd, rfl⟩⟩
  · by_cases hup : a.side.state = 2 ∧ a.side.peer ≠ 0 ∧ (a.side.peer : Int) = y.value
    · by_cases k2 : y.kind = 2#8
      · have e : a.handle y = a.receive y := by unfold Prt.handle; rw [if_neg k1, if_neg (fun h => h hup), if_pos k2]
        rw [e]
        obtain ⟨q1, q2, q3⟩ := both_receive ha hb k2 hup
        refine ⟨hA, tA, hB, tB, q1, q2, .inl ⟨rfl, rfl, rfl, rfl, ?_⟩⟩
        rcases q3 with e | ⟨c, w2, w3, e⟩
        · exact .inl ⟨a.side, a.tak, e⟩
        · exact .inr (.inr ⟨c, y.pay, w2, w3, e⟩)
      · by_cases k3 : y.kind = 3#8
        · have e : a.handle y = a.acknowledge y := by unfold Prt.handle; rw [if_neg k1, if_neg (fun h => h hup), if_neg k2, if_pos k3]
          rw [e]
          obtain ⟨q1, q2, q3⟩ := both_ack ha hb ok k3 hup
          exact ⟨hA, tA, hB, tB, q1, q2, .inl ⟨rfl, rfl, rfl, rfl, .inr (.inl q3)⟩⟩
        · by_cases k4 : y.kind = 4#8
          · have e : a.handle y = a.raise y := by unfold Prt.handle; rw [if_neg k1, if_neg (fun h => h hup), if_neg k2, if_neg k3, if_pos k4]
            rw [e]
            obtain ⟨q1, q2⟩ := both_raise ha hb ok k4 hup
            refine ⟨hA, tA, hB, tB, q1, q2, .inl ⟨rfl, rfl, rfl, rfl, .inl ?_⟩⟩
            unfold Prt.raise
            split
            · exact ⟨a.side, _, rfl⟩
            · exact ⟨a.side, a.tak, rfl⟩
          · have e : a.handle y = a := by unfold Prt.handle; rw [if_neg k1, if_neg (fun h => h hup), if_neg k2, if_neg k3, if_neg k4]
            rw [e]
            exact ⟨hA, tA, hB, tB, ha.dropB, hb.dropA, .inl ⟨rfl, rfl, rfl, rfl, .inl ⟨a.side, a.tak, rfl⟩⟩⟩
    · have e : a.handle y = a := by unfold Prt.handle; rw [if_neg k1, if_pos hup]
      rw [e]
      exact ⟨hA, tA, hB, tB, ha.dropB, hb.dropA, .inl ⟨rfl, rfl, rfl, rfl, .inl ⟨a.side, a.tak, rfl⟩⟩⟩
end
end Go.Proofs.Ytcocnfbhileheaa

/- Two connected ports, in plain words: what a side is, what its steps are, their bounds. No program in sight. -/
namespace Go.Proofs.Ytcocnfbhileheaa

/-- a side: its port, what it has sent that is under way, what was offered at it and taken from it, for each class -/
structure Nd where
  prt : Prt
  fly : List Pt
  off : List Bytes
  got : List Bytes
structure Pr where
  l : Nd
  r : Nd
def Nd.offer (n : Nd) (c : Nat) (b : BitVec 8) : Nd :=
  if (n.prt.offer c [b]).1 = 0 then { n with prt := (n.prt.offer c [b]).2, off := n.off.set c (n.off.getD c [] ++ [b]) } else n
def Nd.take (n : Nd) (c : Nat) : Nd :=
  match n.prt.peek c with
  | none => n
  | some d => { n with prt := (n.prt.take c).2, got := n.got.set c (n.got.getD c [] ++ d) }
/-- what is left of the packets sent: bit k of lose: packet k is lost; of dbl: it comes twice -/
def sift (lose dbl : Nat) : Nat → List Pt → List Pt
  | _, [] => []
  | k, y :: l => (if lose >>> (k % 16) % 2 = 0 then (if dbl >>> (k % 16) % 2 = 1 then [y, y] else [y]) else []) ++ sift lose dbl (k + 1) l
def Pr.tick (P : Pr) (lose dbl : Nat) : Pr :=
  ⟨{ P.l with prt := (P.l.prt.tick P.r.fly).2, fly := sift lose dbl 0 (P.l.prt.tick P.r.fly).1 },
   { P.r with prt := (P.r.prt.tick P.l.fly).2, fly := sift lose dbl (P.l.prt.tick P.r.fly).1.length (P.r.prt.tick P.l.fly).1 }⟩
def Pr.offer (P : Pr) (s c : Nat) (b : BitVec 8) : Pr := if s = 0 then { P with l := P.l.offer c b } else { P with r := P.r.offer c b }
def Pr.take (P : Pr) (s c : Nat) : Pr := if s = 0 then { P with l := P.l.take c } else { P with r := P.r.take c }
def Pr.act (P : Pr) (e : Nat) : Pr :=
  if e / 4 % 4 ≤ 1 then P.offer (e % 2) (e / 2 % 2) (BitVec.ofNat 8 (e / 4)) else if e / 4 % 4 = 2 then P.take (e % 2) (e / 2 % 2) else P
/-- every frame in a port has one byte -/
structure Prt.One (p : Prt) : Prop where
  w : ∀ l ∈ p.waiting, ∀ d ∈ l, d.length = 1
  b : ∀ l ∈ p.buffer, ∀ d ∈ l, d.length = 1
  k : ∀ f ∈ p.kept, f.2.length = 1
/-- a packet of such a port -/
def Slim (y : Pt) : Prop := y.pay.length ≤ 1 ∧ (y.kind = 2#8 → y.pay.length = 1)
theorem getD_one {l : List (List Bytes)} (h : ∀ x ∈ l, ∀ d ∈ x, d.length = 1) (i : Nat) : ∀ d ∈ l.getD i [], d.length = 1 :=
  getD_all (P := fun x : List Bytes => ∀ d ∈ x, d.length = 1) h (d := []) (fun _ h => by cases h) i
theorem set_one {l : List (List Bytes)} (h : ∀ x ∈ l, ∀ d ∈ x, d.length = 1) {i : Nat} {v : List Bytes} (hv : ∀ d ∈ v, d.length = 1) : ∀ x ∈ l.set i v, ∀ d ∈ x, d.length = 1 :=
  mem_set (P := fun x : List Bytes => ∀ d ∈ x, d.length = 1) h hv
theorem Prt.One.begin {p : Prt} (h : p.One) (q : Nat) : (p.begin q).One := by
  refine ⟨fun l hl d hd => ?_, h.b, fun f hf => by cases hf⟩
  obtain ⟨c, _, rfl⟩ := List.mem_map.1 hl
  rcases List.mem_append.1 hd with hd | hd
  · obtain ⟨f, hf, rfl⟩ := List.mem_map.1 hd
    exact h.k f (List.mem_filter.1 hf).1
  · exact getD_one h.w c d hd
theorem Prt.One.side {p : Prt} (h : p.One) (s : Side) : ({ p with side := s } : Prt).One := ⟨h.w, h.b, h.k⟩
theorem Prt.One.handle {p : Prt} (h : p.One) {y : Pt} (hy : Slim y) : (p.handle y).One := by
  unfold Prt.handle
  split
  · unfold Prt.greet
    dsimp only
    split
    · exact (h.side _).begin _
    · exact h.side _
  · split
    · exact h
    · split
      · rename_i hk
        unfold Prt.receive
        split
        · exact h
        · dsimp only
          split
          · exact ⟨h.w, h.b, h.k⟩
          · refine ⟨h.w, set_one h.b fun d hd => ?_, h.k⟩
            rcases List.mem_append.1 hd with hd | hd
            · exact getD_one h.b _ d hd
            · rw [List.mem_singleton.1 hd]; exact hy.2 hk
      · split
        · exact ⟨h.w, h.b, fun f hf => h.k f (List.mem_of_mem_drop hf)⟩
        · split
          · unfold Prt.raise
            split
            · exact ⟨h.w, h.b, h.k⟩
            · exact h
          · exact h
theorem Prt.One.handles {p : Prt} (h : p.One) : ∀ l : List Pt, (∀ y ∈ l, Slim y) → (l.foldl Prt.handle p).One
  | [], _ => h
  | y :: l, hl => by
    rw [List.foldl_cons]
    exact (h.handle (hl y (List.mem_cons_self ..))).handles l fun z hz => hl z (List.mem_cons_of_mem _ hz)
theorem Prt.One.choose {N : Nat} {p : Prt} (h : p.One) (ok : p.Ok N) : p.choose.One := by
  rcases Prt.choose_eq ok with ⟨r, e⟩ | ⟨c, d, l, r, h1, h2, h3, h4, e⟩
  · rw [e]; exact ⟨h.w, h.b, h.k⟩
  · have hd := getD_one h.w c
    rw [h2] at hd
    rw [e]
    refine ⟨set_one h.w fun x hx => hd x (List.mem_cons_of_mem _ hx), h.b, fun f hf => ?_⟩
    rcases List.mem_append.1 hf with hf | hf
    · exact h.k f hf
    · rw [List.mem_singleton.1 hf]; exact hd d (List.mem_cons_self ..)
theorem slim_nil (k : BitVec 8) (c n v : Int) (h : k ≠ 2#8) : Slim ⟨k, c, n, v, []⟩ := ⟨Nat.zero_le _, fun e => absurd e h⟩
/-- a tick: what is sent -/
theorem Prt.tick_sent {N : Nat} {p : Prt} (ok : p.Ok N) (h : p.One) {l : List Pt} (hl : ∀ y ∈ l, Slim y) : (p.tick l).2.One ∧ (∀ y ∈ (p.tick l).1, Slim y) ∧ (p.tick l).1.length ≤ 3 + p.rooms.length := by
  obtain ⟨a, ha⟩ : ∃ a, a = l.foldl Prt.handle p := ⟨_, rfl⟩
  have ok1 : a.Ok (N + 200 * l.length) := by rw [ha]; exact ok.handles l fun y hy => Nat.le_trans (hl y hy).1 (by decide)
  have h1 : a.One := by rw [ha]; exact h.handles l hl
  have hr : a.rooms.length = p.rooms.length := by
    rw [ha]
    clear ha ok1 h1 ok h hl
    induction l generalizing p with
    | nil => rfl
    | cons y l ih =>
      rw [List.foldl_cons, ih]
      unfold Prt.handle
      split
      · unfold Prt.greet; dsimp only; split <;> rfl
      · split
        · rfl
        · split
          · unfold Prt.receive; split
            · rfl
            · dsimp only; split <;> rfl
          · split
            · rfl
            · split
              · unfold Prt.raise; split <;> rfl
              · rfl
  by_cases hs : a.side.tick.state = 2
  · rw [Prt.tick_up ha hs]
    have ok2 : Prt.Ok (N + 200 * l.length) { a with side := a.side.tick } := ok1.sideTick
    have h2 : Prt.One { a with side := a.side.tick } := h1.side _
    have ok3 := ok2.choose
    have h3 := h2.choose ok2
    have hb : a.base.length = p.rooms.length := by rw [← hr]; exact ok1.sl
    have hsent : ∀ y ∈ a.hail :: a.ackn :: (List.range a.base.length).map a.cred, Slim y := fun y hy => by
      rcases List.mem_cons.1 hy with rfl | hy
      · exact slim_nil _ _ _ _ (by decide)
      · rcases List.mem_cons.1 hy with rfl | hy
        · exact slim_nil _ _ _ _ (by decide)
        · obtain ⟨c, _, rfl⟩ := List.mem_map.1 hy
          exact slim_nil _ _ _ _ (by decide)
    have hlen : (a.hail :: a.ackn :: (List.range a.base.length).map a.cred).length = 2 + p.rooms.length := by simp [hb]; omega
    generalize Prt.choose { a with side := a.side.tick } = q at ok3 h3 ⊢
    generalize a.hail :: a.ackn :: (List.range a.base.length).map a.cred = sent at hsent hlen ⊢
    have h4 : ∀ s, Prt.One { q with snd := s } := fun s => ⟨h3.w, h3.b, h3.k⟩
    rcases Snd.tick_cases q.snd with ⟨e1, t, e2⟩ | ⟨i, hi, e1, e2⟩
    · rcases hq : q.snd.tick with ⟨o, s⟩
      rw [hq] at e1
      dsimp only at e1
      subst e1
      exact ⟨h4 s, hsent, by dsimp only; omega⟩
    · rcases hq : q.snd.tick with ⟨o, s⟩
      rw [hq] at e1
      dsimp only at e1
      subst e1
      refine ⟨h4 s, fun y hy => ?_, by dsimp only; rw [List.length_append, hlen]; simp; omega⟩
      rcases List.mem_append.1 hy with hy | hy
      · exact hsent y hy
      · rw [List.mem_singleton.1 hy]
        have hd : (q.snd.kept.getD i []).length = 1 := by
          have hm : q.snd.kept.getD i [] ∈ q.snd.kept := by
            rw [List.getD, List.getElem?_eq_getElem hi]; exact List.getElem_mem hi
          rw [← ok3.kept] at hm
          obtain ⟨f, hf, e⟩ := List.mem_map.1 hm
          rw [← ok3.kept, ← e]
          exact h3.k f hf
        exact ⟨Nat.le_of_eq hd, fun _ => hd⟩
  · rw [Prt.tick_down ha hs]
    refine ⟨h1.side _, fun y hy => ?_, by simp; omega⟩
    rw [List.mem_singleton.1 hy]
    exact slim_nil _ _ _ _ (by decide)
end Go.Proofs.Ytcocnfbhileheaa

/- Two connected ports, in plain words: the bounds through all steps. No program in sight. -/
namespace Go.Proofs.Ytcocnfbhileheaa

structure Nd.Ok (N : Nat) (n : Nd) : Prop where
  ok : n.prt.Ok N
  min : n.prt.Min
  two : n.prt.rooms.length = 2
  fl : n.fly.length ≤ 10
  f1 : ∀ y ∈ n.fly, Slim y
  one : n.prt.One
  o2 : n.off.length = 2
  g2 : n.got.length = 2
  ol : ∀ l ∈ n.off, l.length ≤ N
  gl : ∀ l ∈ n.got, l.length ≤ N
structure Pr.Ok (N : Nat) (P : Pr) : Prop where
  l : P.l.Ok N
  r : P.r.Ok N
theorem Nd.Ok.mono {N M : Nat} {n : Nd} (h : n.Ok N) (hm : N ≤ M) : n.Ok M :=
  ⟨h.ok.mono hm, h.min, h.two, h.fl, h.f1, h.one, h.o2, h.g2, fun l hl => Nat.le_trans (h.ol l hl) hm, fun l hl => Nat.le_trans (h.gl l hl) hm⟩
theorem Pr.Ok.mono {N M : Nat} {P : Pr} (h : P.Ok N) (hm : N ≤ M) : P.Ok M := ⟨h.l.mono hm, h.r.mono hm⟩
/-- an offer of one byte to a class of two: it is taken, or there is no room -/
theorem offer_cases {N : Nat} {n : Nd} (h : n.Ok N) {c : Nat} (hc : c < 2) (b : BitVec 8) :
    (64 ≤ (n.prt.waiting.getD c []).length ∧ n.offer c b = n) ∨
    ((n.prt.waiting.getD c []).length < 64 ∧ n.offer c b = { n with prt := { n.prt with waiting := n.prt.waiting.set c (n.prt.waiting.getD c [] ++ [[b]]) }, off := n.off.set c (n.off.getD c [] ++ [b]) }) := by
  have hh : n.prt.has (c : Int) := ⟨by omega, by rw [h.two]; omega⟩
  by_cases hw : 64 ≤ (n.prt.waiting.getD c []).length
  · refine .inl ⟨hw, ?_⟩
    have e : (n.prt.offer (c : Int) [b]).1 = 5 := by
      unfold Prt.offer
      rw [if_neg (by simp [hh]), if_pos (by rw [Int.toNat_natCast]; exact hw)]
    unfold Nd.offer
    rw [if_neg (by rw [e]; decide)]
  · refine .inr ⟨by omega, ?_⟩
    have e : n.prt.offer (c : Int) [b] = (0, { n.prt with waiting := n.prt.waiting.set c (n.prt.waiting.getD c [] ++ [[b]]) }) := by
      unfold Prt.offer
      rw [if_neg (by simp [hh]), if_neg (by rw [Int.toNat_natCast]; exact hw), Int.toNat_natCast]
    unfold Nd.offer
    rw [e, if_pos rfl]
theorem Nd.Ok.offer {N : Nat} {n : Nd} (h : n.Ok N) {c : Nat} (hc : c < 2) (b : BitVec 8) : (n.offer c b).Ok (N + 65) := by
  rcases offer_cases h hc b with ⟨_, e⟩ | ⟨hw, e⟩
  · rw [e]; exact h.mono (by omega)
  · have hh : n.prt.has (c : Int) := ⟨by omega, by rw [h.two]; omega⟩
    have h1 := h.ok.offer (c : Int) [b]
    have e1 : (n.prt.offer (c : Int) [b]).2 = { n.prt with waiting := n.prt.waiting.set c (n.prt.waiting.getD c [] ++ [[b]]) } := by
      unfold Prt.offer
      rw [if_neg (by simp [hh]), if_neg (by rw [Int.toNat_natCast]; omega), Int.toNat_natCast]
    rw [e1] at h1
    rw [e]
    refine ⟨h1, h.min, h.two, h.fl, h.f1, ⟨set_one h.one.w fun d hd => ?_, h.one.b, h.one.k⟩, by simp [h.o2], h.g2, mem_set (P := fun l : Bytes => l.length ≤ N + 65) (fun l hl => Nat.le_trans (h.ol l hl) (Nat.le_add_right _ _)) ?_, fun l hl => Nat.le_trans (h.gl l hl) (Nat.le_add_right _ _)⟩
    · rcases List.mem_append.1 hd with hd | hd
      · exact getD_one h.one.w c d hd
      · rw [List.mem_singleton.1 hd]; rfl
    · rw [List.length_append]
      have := getD_all (P := fun l : Bytes => l.length ≤ N) h.ol (d := []) (Nat.zero_le _) c
      show _ + 1 ≤ _
      omega
/-- a take -/
theorem take_cases {N : Nat} {n : Nd} (h : n.Ok N) {c : Nat} (hc : c < 2) :
    (n.prt.buffer.getD c [] = [] ∧ n.prt.peek (c : Int) = none ∧ n.take c = n) ∨
    ∃ (x : BitVec 8) (l : List Bytes), n.prt.buffer.getD c [] = [x] :: l ∧ n.prt.peek (c : Int) = some [x] ∧ (n.prt.take (c : Int)) = (some [x], { n.prt with buffer := n.prt.buffer.set c l, giv := n.prt.giv.set c (n.prt.gv c).free, taken := n.prt.taken.set c (n.prt.taken.getD c 0 + 1) }) ∧
      n.take c = { n with prt := { n.prt with buffer := n.prt.buffer.set c l, giv := n.prt.giv.set c (n.prt.gv c).free, taken := n.prt.taken.set c (n.prt.taken.getD c 0 + 1) }, got := n.got.set c (n.got.getD c [] ++ [x]) } := by
  have hh : n.prt.has (c : Int) := ⟨by omega, by rw [h.two]; omega⟩
  have hp : n.prt.peek (c : Int) = (n.prt.buffer.getD c []).head? := by unfold Prt.peek; rw [if_pos hh, Int.toNat_natCast]
  cases hb : n.prt.buffer.getD c [] with
  | nil =>
    rw [hb] at hp
    refine .inl ⟨rfl, hp, ?_⟩
    unfold Nd.take
    rw [hp]; rfl
  | cons d l =>
    have hd := getD_one h.one.b c d (by rw [hb]; exact List.mem_cons_self ..)
    obtain ⟨x, rfl⟩ := List.length_eq_one_iff.1 hd
    rw [hb] at hp
    have hp : n.prt.peek (c : Int) = some [x] := hp
    have e : n.prt.take (c : Int) = (some [x], { n.prt with buffer := n.prt.buffer.set c l, giv := n.prt.giv.set c (n.prt.gv c).free, taken := n.prt.taken.set c (n.prt.taken.getD c 0 + 1) }) := by
      unfold Prt.take
      rw [hp]
      simp only [Int.toNat_natCast, hb, List.drop_succ_cons, List.drop_zero]
    refine .inr ⟨x, l, rfl, hp, e, ?_⟩
    unfold Nd.take
    rw [hp, e]
theorem Nd.Ok.take {N : Nat} {n : Nd} (h : n.Ok N) {c : Nat} (hc : c < 2) : (n.take c).Ok (N + 1) := by
  rcases take_cases h hc with ⟨_, _, e⟩ | ⟨x, l, hb, hp, e1, e⟩
  · rw [e]; exact h.mono (by omega)
  · have h1 := h.ok.take (c : Int)
    rw [e1] at h1
    rw [e]
    have hd := getD_one h.one.b c
    rw [hb] at hd
    refine ⟨h1, h.min, h.two, h.fl, h.f1, ⟨h.one.w, set_one h.one.b fun d hd' => hd d (List.mem_cons_of_mem _ hd'), h.one.k⟩, h.o2, by simp [h.g2], fun l hl => Nat.le_trans (h.ol l hl) (Nat.le_add_right _ _), mem_set (P := fun l : Bytes => l.length ≤ N + 1) (fun l hl => Nat.le_trans (h.gl l hl) (Nat.le_add_right _ _)) ?_⟩
    rw [List.length_append]
    have := getD_all (P := fun l : Bytes => l.length ≤ N) h.gl (d := []) (Nat.zero_le _) c
    show _ + 1 ≤ _
    omega
theorem sift_len (lose dbl : Nat) : ∀ (l : List Pt) (k : Nat), (sift lose dbl k l).length ≤ 2 * l.length
  | [], _ => Nat.le_refl _
  | y :: l, k => by
    unfold sift
    have := sift_len lose dbl l (k + 1)
    rw [List.length_append, List.length_cons]
    split
    · split
      · show 2 + _ ≤ _; omega
      · show 1 + _ ≤ _; omega
    · show 0 + _ ≤ _; omega
theorem sift_mem (lose dbl : Nat) : ∀ (l : List Pt) (k : Nat), ∀ y ∈ sift lose dbl k l, y ∈ l
  | [], _, y, h => h
  | x :: l, k, y, h => by
    unfold sift at h
    rcases List.mem_append.1 h with h | h
    · split at h
      · split at h
        · rcases List.mem_cons.1 h with rfl | h
          · exact List.mem_cons_self ..
          · rw [List.mem_singleton.1 h]; exact List.mem_cons_self ..
        · rw [List.mem_singleton.1 h]; exact List.mem_cons_self ..
      · cases h
    · exact List.mem_cons_of_mem _ (sift_mem lose dbl l (k + 1) y h)
theorem sift_id (k : Nat) : ∀ l : List Pt, sift 0 0 k l = l := fun l => by
  induction l generalizing k with
  | nil => rfl
  | cons y l ih =>
    unfold sift
    rw [ih, Nat.zero_shiftRight]
    rfl
theorem choose_side (p : Prt) : p.choose.side = p.side ∧ p.choose.inc = p.inc ∧ p.choose.rooms = p.rooms := by
  unfold Prt.choose
  split
  · exact ⟨rfl, rfl, rfl⟩
  · split <;> exact ⟨rfl, rfl, rfl⟩
theorem handle_rooms (p : Prt) (y : Pt) : (p.handle y).rooms = p.rooms ∧ (p.handle y).inc = p.inc := by
  unfold Prt.handle
  split
  · unfold Prt.greet; dsimp only; split <;> exact ⟨rfl, rfl⟩
  · split
    · exact ⟨rfl, rfl⟩
    · split
      · unfold Prt.receive; split
        · exact ⟨rfl, rfl⟩
        · dsimp only; split <;> exact ⟨rfl, rfl⟩
      · split
        · exact ⟨rfl, rfl⟩
        · split
          · unfold Prt.raise; split <;> exact ⟨rfl, rfl⟩
          · exact ⟨rfl, rfl⟩
theorem handles_rooms : ∀ (l : List Pt) (p : Prt), (l.foldl Prt.handle p).rooms = p.rooms ∧ (l.foldl Prt.handle p).inc = p.inc
  | [], _ => ⟨rfl, rfl⟩
  | y :: l, p => by
    rw [List.foldl_cons, (handles_rooms l _).1, (handles_rooms l _).2]
    exact handle_rooms p y
theorem tick_keeps (p : Prt) (l : List Pt) : (p.tick l).2.rooms = p.rooms ∧ (p.tick l).2.inc = p.inc ∧ (p.Min → (p.tick l).2.Min) := by
  obtain ⟨h1, h2⟩ := handles_rooms l p
  have h3 := fun h : p.Min => h.handles l
  obtain ⟨a, ha⟩ : ∃ a, a = l.foldl Prt.handle p := ⟨_, rfl⟩
  by_cases hs : a.side.tick.state = 2
  · rw [Prt.tick_up ha hs]
    rw [← ha] at h1 h2 h3
    obtain ⟨c1, c2, c3⟩ := choose_side { a with side := a.side.tick }
    have c4 : p.Min → (Prt.choose { a with side := a.side.tick }).side.mine = (Prt.choose { a with side := a.side.tick }).inc := fun h => by
      rw [c1, c2]
      show a.side.tick.mine = a.inc
      rw [sideTick_mine]; exact h3 h
    split
    · exact ⟨c3.trans h1, c2.trans h2, c4⟩
    · exact ⟨c3.trans h1, c2.trans h2, c4⟩
  · rw [Prt.tick_down ha hs]
    rw [← ha] at h1 h2 h3
    refine ⟨h1, h2, fun h => ?_⟩
    show a.side.tick.mine = a.inc
    rw [sideTick_mine]; exact h3 h
theorem Nd.Ok.ticked {N : Nat} {n m : Nd} (h : n.Ok N) (h' : m.Ok N) (lose dbl k : Nat) : ({ n with prt := (n.prt.tick m.fly).2, fly := sift lose dbl k (n.prt.tick m.fly).1 } : Nd).Ok (N + 2001) := by
  obtain ⟨t1, t2, t3⟩ := Prt.tick_sent h.ok h.one h'.f1
  obtain ⟨k1, k2, k3⟩ := tick_keeps n.prt m.fly
  have hl := h'.fl
  refine ⟨(h.ok.tick fun y hy => Nat.le_trans (h'.f1 y hy).1 (by decide)).mono (by omega), k3 h.min, by rw [k1]; exact h.two, ?_, fun y hy => t2 y (sift_mem _ _ _ _ y hy), t1, h.o2, h.g2, fun l hl => Nat.le_trans (h.ol l hl) (Nat.le_add_right _ _), fun l hl => Nat.le_trans (h.gl l hl) (Nat.le_add_right _ _)⟩
  have := sift_len lose dbl (n.prt.tick m.fly).1 k
  have h2 := h.two
  show (sift lose dbl k (n.prt.tick m.fly).1).length ≤ 10
  omega
theorem Pr.Ok.tick {N : Nat} {P : Pr} (h : P.Ok N) (lose dbl : Nat) : (P.tick lose dbl).Ok (N + 2001) := ⟨h.l.ticked h.r lose dbl 0, h.r.ticked h.l lose dbl _⟩
theorem Pr.Ok.offer {N : Nat} {P : Pr} (h : P.Ok N) (s : Nat) {c : Nat} (hc : c < 2) (b : BitVec 8) : (P.offer s c b).Ok (N + 65) := by
  unfold Pr.offer
  split
  · exact ⟨h.l.offer hc b, h.r.mono (by omega)⟩
  · exact ⟨h.l.mono (by omega), h.r.offer hc b⟩
theorem Pr.Ok.take {N : Nat} {P : Pr} (h : P.Ok N) (s : Nat) {c : Nat} (hc : c < 2) : (P.take s c).Ok (N + 1) := by
  unfold Pr.take
  split
  · exact ⟨h.l.take hc, h.r.mono (by omega)⟩
  · exact ⟨h.l.mono (by omega), h.r.take hc⟩
theorem Pr.Ok.act {N : Nat} {P : Pr} (h : P.Ok N) (e : Nat) : (P.act e).Ok (N + 65) := by
  unfold Pr.act
  split
  · exact h.offer _ (Nat.mod_lt _ (by decide)) _
  · split
    · exact (h.take _ (Nat.mod_lt _ (by decide))).mono (by omega)
    · exact h.mono (by omega)
/-- the ports as connect makes them -/
def newNd (inc room window : Nat) : Nd := ⟨newPrt inc [1 + room % 4, 1 + room / 4 % 4] (1 + window % 8) (3 + window / 8 % 4) 12, [], [[], []], [[], []]⟩
def newPr (room window : Nat) : Pr := ⟨newNd 10 room window, newNd 20 room window⟩
theorem newNd_ok {inc : Nat} (h1 : 1 ≤ inc) (h2 : inc ≤ 1000) (room window : Nat) : (newNd inc room window).Ok 200 := by
  refine ⟨newPrt_ok (by show 1 ≤ 2; decide) (by show 2 ≤ 4; decide) ?_ h1 (by omega) (by omega) (by omega) (by omega) (by omega) (by decide) (by decide), ?_, rfl, Nat.zero_le _, (fun y hy => by cases hy), ?_, rfl, rfl, ?_, ?_⟩
  · intro x hx
    rcases List.mem_cons.1 hx with rfl | hx
    · omega
    · rw [List.mem_singleton.1 hx]; omega
  · exact rfl
  · have he : ∀ l ∈ (newPrt inc [1 + room % 4, 1 + room / 4 % 4] (1 + window % 8) (3 + window / 8 % 4) 12).waiting, l = [] := fun l hl => by
      obtain ⟨c, _, rfl⟩ := List.mem_map.1 hl
      show [] ++ ([[], []] : List (List Bytes)).getD c [] = []
      match c with
      | 0 => rfl
      | 1 => rfl
      | c + 2 => rfl
    refine ⟨fun l hl d hd => ?_, fun l hl d hd => ?_, fun f hf => by cases hf⟩
    · rw [he l hl] at hd; cases hd
    · have hl' : l ∈ ([[], []] : List (List Bytes)) := hl
      rcases List.mem_cons.1 hl' with rfl | hl'
      · cases hd
      · rw [List.mem_singleton.1 hl'] at hd; cases hd
  · intro l hl
    rcases List.mem_cons.1 hl with rfl | hl
    · exact Nat.zero_le _
    · rw [List.mem_singleton.1 hl]; exact Nat.zero_le _
  · intro l hl
    rcases List.mem_cons.1 hl with rfl | hl
    · exact Nat.zero_le _
    · rw [List.mem_singleton.1 hl]; exact Nat.zero_le _
theorem newPr_ok (room window : Nat) : (newPr room window).Ok 200 := ⟨newNd_ok (by decide) (by decide) _ _, newNd_ok (by decide) (by decide) _ _⟩
end Go.Proofs.Ytcocnfbhileheaa

/- What a tick of a port with two classes sends (plain). -/
namespace Go.Proofs.Ytcocnfbhileheaa

/-- what is sent by a port that is up -/
def sentUp (inc v : Int) (r l0 l1 : Int) (t : List Pt) : List Pt := ⟨1#8, 0, inc, v, []⟩ :: ⟨3#8, 0, r, inc, []⟩ :: ⟨4#8, 0, l0, inc, []⟩ :: ⟨4#8, 1, l1, inc, []⟩ :: t
theorem tick_form {N : Nat} {p : Prt} (ok : p.Ok N) (h2 : p.rooms.length = 2) {l : List Pt} (hl : ∀ y ∈ l, y.pay.length ≤ 1000) :
    (∃ v, (p.tick l).2.side.state ≠ 2 ∧ (p.tick l).1 = [⟨1#8, 0, p.inc, v, []⟩]) ∨
    (∃ v r l0 l1 t, (p.tick l).2.side.state = 2 ∧ (p.tick l).1 = sentUp p.inc v r l0 l1 t ∧ (t = [] ∨ ∃ c n d, t = [⟨2#8, c, n, p.inc, d⟩])) := by
  obtain ⟨a, ha⟩ : ∃ a, a = l.foldl Prt.handle p := ⟨_, rfl⟩
  obtain ⟨h3, h4⟩ := handles_rooms l p
  have ok1 : a.Ok (N + 200 * l.length) := by rw [ha]; exact ok.handles l hl
  rw [← ha] at h3 h4
  by_cases hs : a.side.tick.state = 2
  · rw [Prt.tick_up ha hs]
    have hb : a.base.length = 2 := by rw [ok1.sl, h3, h2]
    obtain ⟨c1, c2, c3⟩ := choose_side { a with side := a.side.tick }
    have c5 : (Prt.choose { a with side := a.side.tick }).side.state = 2 := (congrArg Side.state c1).trans hs
    have c6 : (Prt.choose { a with side := a.side.tick }).inc = p.inc := c2.trans h4
    clear c1 c2 c3
    generalize Prt.choose { a with side := a.side.tick } = q at c5 c6 ⊢
    have e : a.hail :: a.ackn :: (List.range a.base.length).map a.cred = sentUp p.inc a.side.tick.peer (a.rcv % 256 : Nat) (((a.giv.getD 0 ⟨0, 0, 0⟩).limit : Int) - ((a.base.getD 0 0 : Nat) : Int)) (((a.giv.getD 1 ⟨0, 0, 0⟩).limit : Int) - ((a.base.getD 1 0 : Nat) : Int)) [] := by
      rw [hb, ← h4]; rfl
    rw [e, c6]
    split
    · exact .inr ⟨_, _, _, _, _, c5, rfl, .inr ⟨_, _, _, rfl⟩⟩
    · exact .inr ⟨_, _, _, _, [], c5, rfl, .inl rfl⟩
  · rw [Prt.tick_down ha hs, ← h4]
    exact .inl ⟨_, hs, rfl⟩
theorem act_inc (P : Pr) (e : Nat) : (P.act e).l.prt.inc = P.l.prt.inc ∧ (P.act e).r.prt.inc = P.r.prt.inc := by
  have ho : ∀ (n : Nd) (c : Nat) (b : BitVec 8), (n.offer c b).prt.inc = n.prt.inc := fun n c b => by
    unfold Nd.offer
    split
    · unfold Prt.offer
      split
      · rfl
      · split <;> rfl
    · rfl
  have ht : ∀ (n : Nd) (c : Nat), (n.take c).prt.inc = n.prt.inc := fun n c => by
    unfold Nd.take
    split
    · rfl
    · unfold Prt.take
      split <;> rfl
  unfold Pr.act
  split
  · unfold Pr.offer
    split
    · exact ⟨ho _ _ _, rfl⟩
    · exact ⟨rfl, ho _ _ _⟩
  · split
    · unfold Pr.take
      split
      · exact ⟨ht _ _, rfl⟩
      · exact ⟨rfl, ht _ _⟩
    · exact ⟨rfl, rfl⟩
/-- what is under way from a side after a tick without losses -/
def Nd.Form (n : Nd) (inc : Int) : Prop := (∃ v, n.prt.side.state ≠ 2 ∧ n.fly = [⟨1#8, 0, inc, v, []⟩]) ∨
    (∃ v r l0 l1, n.prt.side.state = 2 ∧ n.fly = sentUp inc v r l0 l1 []) ∨
    (∃ v r l0 l1 c m d, n.prt.side.state = 2 ∧ n.fly = sentUp inc v r l0 l1 [⟨2#8, c, m, inc, d⟩])
theorem form_of {p : Prt} {l : List Pt} {n : Nd} (h : (∃ v, (p.tick l).2.side.state ≠ 2 ∧ (p.tick l).1 = [⟨1#8, 0, p.inc, v, []⟩]) ∨
    (∃ v r l0 l1 t, (p.tick l).2.side.state = 2 ∧ (p.tick l).1 = sentUp p.inc v r l0 l1 t ∧ (t = [] ∨ ∃ c n d, t = [⟨2#8, c, n, p.inc, d⟩]))) (h1 : n.prt = (p.tick l).2) (h2 : n.fly = (p.tick l).1) : n.Form p.inc := by
  rcases h with ⟨v, a, b⟩ | ⟨v, r, l0, l1, t, a, b, rfl | ⟨c, m, d, rfl⟩⟩
  · exact .inl ⟨v, by rw [h1]; exact a, by rw [h2]; exact b⟩
  · exact .inr (.inl ⟨v, r, l0, l1, by rw [h1]; exact a, by rw [h2]; exact b⟩)
  · exact .inr (.inr ⟨v, r, l0, l1, c, m, d, by rw [h1]; exact a, by rw [h2]; exact b⟩)
theorem tick00 {N : Nat} {P : Pr} (h : P.Ok N) : (P.tick 0 0).l.Form P.l.prt.inc ∧ (P.tick 0 0).r.Form P.r.prt.inc ∧ (P.tick 0 0).l.prt.inc = P.l.prt.inc ∧ (P.tick 0 0).r.prt.inc = P.r.prt.inc := by
  refine ⟨form_of (tick_form h.l.ok h.l.two fun y hy => Nat.le_trans (h.r.f1 y hy).1 (by decide)) rfl (sift_id _ _), form_of (tick_form h.r.ok h.r.two fun y hy => Nat.le_trans (h.l.f1 y hy).1 (by decide)) rfl (sift_id _ _), (tick_keeps _ _).2.1, (tick_keeps _ _).2.1⟩
end Go.Proofs.Ytcocnfbhileheaa
