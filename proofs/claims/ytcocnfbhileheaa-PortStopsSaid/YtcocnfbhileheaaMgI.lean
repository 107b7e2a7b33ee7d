/- Several texts in one: Two ports and what is under way between them: what is offered at one comes to the other, in order; one class, sessions and restarts included. No program in sight. Two ports and what is under way between them: what a tick sends; a frame offered, taken; a restart. No program in sight. Two ports and what is under way between them: what is offered at one comes to the other, in order; all classes, through all steps, restarts included. No program in sight. Two connected ports, in plain words: what is taken is a beginning of what was offered, and nothing overflows. No program in sight. -/
import Derived.Test.YtcocnfbhileheaaMgG
import Derived.Test.YtcocnfbhileheaaPotD
/- Two ports and what is under way between them: what is offered at one comes to the other, in order; one class, sessions and restarts included. No program in sight. -/
namespace Go.Proofs.Ytcocnfbhileheaa

/-- the frames of a class -/
def frm (c : Nat) (h : Hist) : List Bytes := (h.filter fun f => f.1 == c).map (·.2)
theorem frm_append (c : Nat) (h k : Hist) : frm c (h ++ k) = frm c h ++ frm c k := by unfold frm; rw [List.filter_append, List.map_append]
theorem frm_nil (c : Nat) : frm c [] = [] := rfl
theorem frm_one (c k : Nat) (d : Bytes) : frm c [(k, d)] = if k = c then [d] else [] := by
  unfold frm
  by_cases h : k = c
  · subst h; simp
  · simp [h]
theorem frm_take_drop (c : Nat) (h : Hist) (n : Nat) : frm c (h.take n) ++ frm c (h.drop n) = frm c h := by rw [← frm_append, List.take_append_drop]
theorem frm_take_add (c : Nat) (h : Hist) (n k : Nat) : frm c (h.take (n + k)) = frm c (h.take n) ++ frm c ((h.drop n).take k) := by
  rw [List.take_add, frm_append]
theorem frm_none {c n : Nat} {h : Hist} (hk : ∀ f ∈ h, f.1 < n) (hc : n ≤ c) : frm c h = [] := by
  unfold frm
  rw [List.filter_eq_nil_iff.2 fun f hf => by have := hk f hf; simp; omega]
  rfl
/-- two ports are in one session -/
def Lkd (a b : Prt) : Prop := b.peer = a.inc ∧ a.peer = b.inc
/-- one class of one direction: all: what was offered at a in all its lives; got: what was taken at b in this life; old: how much was offered up to the last restart of one of the two -/
def Cls (a b : Prt) (wb : List Way) (hist : Hist) (c : Nat) (all got : List Bytes) (old : Nat) : Prop :=
  ∃ E P, got ++ b.buffer.getD c [] = E ++ frm c (hist.take b.rcv) ∧ all = P ++ (frm c a.kept ++ a.waiting.getD c []) ∧
    (Lkd a b → ∃ P0, P = P0 ++ frm c (hist.take a.snd.acked) ∧ List.Sublist E P0 ∧ P0.length ≤ old) ∧
    (¬ Lkd a b → List.Sublist (E ++ frm c hist) P ∧ P.length ≤ old ∧ ∀ u ∈ wb, u.1.i = a.peer → u.1.s = a.inc → P.length + (frm c (a.kept.take (u.1.r - a.snd.acked))).length ≤ old)
section
variable {a a' b b' : Prt} {wb wb' : List Way} {hist : Hist} {c : Nat} {all got : List Bytes} {old : Nat}
/-- nothing of it has changed -/
theorem Cls.same (h : Cls a b wb hist c all got old) (hw : ∀ p ∈ wb', p ∈ wb) (a1 : a'.inc = a.inc) (a2 : a'.peer = a.peer) (a3 : a'.kept = a.kept) (a4 : a'.waiting = a.waiting) (a5 : a'.snd.acked = a.snd.acked)
    (b1 : b'.inc = b.inc) (b2 : b'.peer = b.peer) (b3 : b'.buffer = b.buffer) (b4 : b'.rcv = b.rcv) : Cls a' b' wb' hist c all got old := by
  obtain ⟨E, P, h1, h2, h3, h4⟩ := h
  have hl : Lkd a' b' ↔ Lkd a b := by unfold Lkd; rw [a1, a2, b1, b2]
  refine ⟨E, P, by rw [b3, b4]; exact h1, by rw [a3, a4]; exact h2, fun x => by rw [a5]; exact h3 (hl.1 x), fun x => ?_⟩
  obtain ⟨q1, q2, q3⟩ := h4 fun y => x (hl.2 y)
  exact ⟨q1, q2, fun u hu e1 e2 => by rw [a3, a5]; exact q3 u (hw u hu) (e1.trans a2) (e2.trans a1)⟩
/-- a frame is offered -/
theorem Cls.offer (h : Cls a b wb hist c all got old) (d : Bytes) {k : Nat} (hk : k < a.waiting.length) :
    Cls { a with waiting := a.waiting.set k (a.waiting.getD k [] ++ [d]) } b wb hist c (if k = c then all ++ [d] else all) got old := by
  obtain ⟨E, P, h1, h2, h3, h4⟩ := h
  refine ⟨E, P, h1, ?_, h3, h4⟩
  dsimp only
  rw [getD_set _ _ _ _ _ hk]
  split
  · rename_i e; subst e
    rw [h2]; simp only [List.append_assoc]
  · exact h2
/-- a frame is taken -/
theorem Cls.take (h : Cls a b wb hist c all got old) {d : Bytes} {l : List Bytes} {k : Nat} (hk : k < b.buffer.length) (hd : b.buffer.getD k [] = d :: l) (g : List Giv) (t : List Nat) :
    Cls a { b with buffer := b.buffer.set k l, giv := g, taken := t } wb hist c all (if k = c then got ++ [d] else got) old := by
  obtain ⟨E, P, h1, h2, h3, h4⟩ := h
  refine ⟨E, P, ?_, h2, h3, h4⟩
  dsimp only
  rw [getD_set _ _ _ _ _ hk]
  split
  · rename_i e; subst e
    rw [← h1, hd]; simp only [List.append_assoc, List.singleton_append]
  · exact h1
/-- a frame comes -/
theorem Cls.receive (h : Cls a b wb hist c all got old) {d : Bytes} {k : Nat} (hr : hist[b.rcv]? = some (k, d)) (hk : k < b.buffer.length) (g : List Giv) (r : List Nat) (hw : ∀ p ∈ wb', p ∈ wb) :
    Cls a { b with rcv := b.rcv + 1, giv := g, buffer := b.buffer.set k (b.buffer.getD k [] ++ [d]), received := r } wb' hist c all got old := by
  obtain ⟨E, P, h1, h2, h3, h4⟩ := h
  refine ⟨E, P, ?_, h2, h3, fun x => ⟨(h4 x).1, (h4 x).2.1, fun u hu => (h4 x).2.2 u (hw u hu)⟩⟩
  dsimp only
  rw [getD_set _ _ _ _ _ hk, List.take_add_one, hr, frm_append]
  show got ++ _ = E ++ (_ ++ frm c [(k, d)])
  rw [frm_one]
  split
  · rename_i e; subst e
    rw [← List.append_assoc, h1, List.append_assoc]
  · rw [h1, List.append_nil]
/-- an acknowledgment comes -/
theorem Cls.acknowledge {t : Tag} {y : Pt} (h : Cls a b ((t, y) :: wb) hist c all got old) (_ : wb.Pairwise fun p q => p.1.le q.1) (hle : ∀ p ∈ wb, t.le p.1) (hk : Lkd a b → a.kept = hist.drop a.snd.acked)
    (h1 : a.snd.acked ≤ t.r) (hi : t.i = a.peer) (ht : t.s = a.inc) (l : List Nat) {s : Snd} (hsn : s.acked = t.r) :
    Cls { a with snd := s, acked := l, kept := a.kept.drop (t.r - a.snd.acked) } b wb hist c all got old := by
  obtain ⟨E, P, g1, g2, g3, g4⟩ := h
  refine ⟨E, P ++ frm c (a.kept.take (t.r - a.snd.acked)), g1, ?_, fun x => ?_, fun x => ?_⟩
  · dsimp only
    rw [g2, ← frm_take_drop c a.kept (t.r - a.snd.acked)]
    simp only [List.append_assoc]
  · obtain ⟨P0, q1, q2, q3⟩ := g3 x
    refine ⟨P0, ?_, q2, q3⟩
    dsimp only
    rw [hsn, q1, List.append_assoc, hk x, ← frm_take_add, Nat.add_sub_cancel' h1]
  · obtain ⟨q1, q2, q3⟩ := g4 x
    have q4 := q3 _ (List.mem_cons_self ..) hi ht
    refine ⟨q1.trans (List.sublist_append_left ..), by rw [List.length_append]; exact q4, fun u hu e1 e2 => ?_⟩
    have q5 := q3 u (List.mem_cons_of_mem _ hu) e1 e2
    have q6 := ((hle u hu).2 (hi.trans e1.symm) (ht.trans e2.symm)).2.1
    dsimp only
    rw [hsn, List.length_append, Nat.add_assoc, ← List.length_append, ← frm_take_add, show t.r - a.snd.acked + (u.1.r - t.r) = u.1.r - a.snd.acked by omega]
    exact q5
/-- a session begins at the receiver -/
theorem Cls.beginB (h : Cls a b wb hist c all got old) {sd : Side} {i : Nat} (_ : b.peer < i) (hb : b.peer ≠ a.inc) (_ : i = a.inc → a.peer = b.inc → a.snd.acked = 0 ∧ a.kept = []) (hw : ∀ p ∈ wb', p ∈ wb) :
    Cls a (({ b with side := sd } : Prt).begin i) wb' [] c all got old := by
  obtain ⟨E, P, g1, g2, _, g4⟩ := h
  obtain ⟨q1, q2, q3⟩ := g4 fun x => hb x.1
  have q4 : List.Sublist (E ++ frm c (hist.take b.rcv)) P := by
    refine List.Sublist.trans ?_ q1
    rw [← frm_take_drop c hist b.rcv, ← List.append_assoc]
    exact List.sublist_append_left ..
  refine ⟨E ++ frm c (hist.take b.rcv), P, ?_, g2, fun x => ⟨P, ?_, q4, q2⟩, fun x => ⟨?_, q2, fun u hu => q3 u (hw u hu)⟩⟩
  · show got ++ b.buffer.getD c [] = _ ++ frm c ([].take 0)
    rw [g1]; simp [frm]
  · simp [frm]
  · rw [frm_nil, List.append_nil]; exact q4
theorem begin_waiting (ha : ∀ f ∈ a.kept, f.1 < a.waiting.length) (i : Nat) : (a.begin i).waiting.getD c [] = frm c a.kept ++ a.waiting.getD c [] := by
  show ((List.range a.waiting.length).map fun c => ((a.kept.filter fun f => f.1 == c).map (·.2)) ++ a.waiting.getD c []).getD c [] = _
  rcases Nat.lt_or_ge c a.waiting.length with h | h
  · rw [List.getD, List.getElem?_map, List.getElem?_range h]; rfl
  · rw [getD_out (by simpa using h), getD_out h, frm_none ha h]; rfl
/-- a session begins at the sender -/
theorem Cls.beginA {hist' : Hist} (h : Cls a b wb hist c all got old) {sd : Side} {i : Nat} (hk : ∀ f ∈ a.kept, f.1 < a.waiting.length) (hn : a.peer ≠ b.inc)
    (hl : (i = b.inc ∧ b.peer = a.inc ∧ hist' = [] ∧ b.rcv = 0) ∨ (¬ (i = b.inc ∧ b.peer = a.inc) ∧ hist' = hist)) :
    Cls (({ a with side := sd } : Prt).begin i) b wb' hist' c all got old := by
  obtain ⟨E, P, g1, g2, _, g4⟩ := h
  obtain ⟨q1, q2, q3⟩ := g4 fun x => hn x.2
  have hw : all = P ++ (frm c (({ a with side := sd } : Prt).begin i).kept ++ (({ a with side := sd } : Prt).begin i).waiting.getD c []) := by
    rw [begin_waiting (a := { a with side := sd }) hk i, g2]; rfl
  rcases hl with ⟨l1, l2, rfl, l3⟩ | ⟨l1, rfl⟩
  · refine ⟨E, P, ?_, hw, fun _ => ⟨P, by simp [frm], (List.sublist_append_left ..).trans q1, q2⟩, fun x => absurd ⟨l2, l1⟩ x⟩
    rw [g1, l3]; simp [frm]
  · exact ⟨E, P, g1, hw, fun x => absurd ⟨x.2, x.1⟩ l1, fun _ => ⟨q1, q2, fun u _ _ _ => by
      show P.length + (frm c (([] : Hist).take _)).length ≤ old
      rw [List.take_nil, frm_nil]; exact q2⟩⟩
/-- a frame is chosen -/
theorem Cls.choose (h : Cls a b wb hist c all got old) {k : Nat} {d : Bytes} {l : List Bytes} (hk : k < a.waiting.length) (hd : a.waiting.getD k [] = d :: l) (r : Arb) (s : Snd) (hs : s.acked = a.snd.acked) (tk : List Tak) {hist' : Hist}
    (hh : (Lkd a b → hist' = hist ++ [(k, d)] ∧ b.rcv ≤ hist.length ∧ a.snd.acked ≤ hist.length) ∧ (¬ Lkd a b → hist' = hist ∧ ∀ u ∈ wb, u.1.i = a.peer → u.1.s = a.inc → u.1.r - a.snd.acked ≤ a.kept.length)) :
    Cls { a with arb := r, waiting := a.waiting.set k l, tak := tk, snd := s, kept := a.kept ++ [(k, d)] } b wb hist' c all got old := by
  obtain ⟨E, P, g1, g2, g3, g4⟩ := h
  have hw : all = P ++ (frm c (a.kept ++ [(k, d)]) ++ (a.waiting.set k l).getD c []) := by
    rw [g2, frm_append, frm_one, getD_set _ _ _ _ _ hk]
    split
    · rename_i e; subst e
      rw [hd]; simp
    · simp
  by_cases hl : Lkd a b
  · obtain ⟨rfl, m1, m2⟩ := hh.1 hl
    refine ⟨E, P, by rw [List.take_append_of_le_length m1]; exact g1, hw, fun x => ?_, fun x => absurd hl x⟩
    dsimp only
    rw [hs, List.take_append_of_le_length m2]
    exact g3 hl
  · obtain ⟨rfl, m1⟩ := hh.2 hl
    refine ⟨E, P, g1, hw, fun x => absurd x hl, fun _ => ?_⟩
    obtain ⟨q1, q2, q3⟩ := g4 hl
    refine ⟨q1, q2, fun u hu e1 e2 => ?_⟩
    dsimp only
    rw [hs, List.take_append_of_le_length (m1 u hu e1 e2)]
    exact q3 u hu e1 e2
end
end Go.Proofs.Ytcocnfbhileheaa

/- Two ports and what is under way between them: what a tick sends; a frame offered, taken; a restart. No program in sight. -/
namespace Go.Proofs.Ytcocnfbhileheaa

theorem kk12 : ¬ (1#8 : BitVec 8) = 2#8 := by decide
theorem kk13 : ¬ (1#8 : BitVec 8) = 3#8 := by decide
theorem kk14 : ¬ (1#8 : BitVec 8) = 4#8 := by decide
theorem kk21 : ¬ (2#8 : BitVec 8) = 1#8 := by decide
theorem kk23 : ¬ (2#8 : BitVec 8) = 3#8 := by decide
theorem kk24 : ¬ (2#8 : BitVec 8) = 4#8 := by decide
theorem kk31 : ¬ (3#8 : BitVec 8) = 1#8 := by decide
theorem kk32 : ¬ (3#8 : BitVec 8) = 2#8 := by decide
theorem kk34 : ¬ (3#8 : BitVec 8) = 4#8 := by decide
theorem kk41 : ¬ (4#8 : BitVec 8) = 1#8 := by decide
theorem kk42 : ¬ (4#8 : BitVec 8) = 2#8 := by decide
theorem kk43 : ¬ (4#8 : BitVec 8) = 3#8 := by decide

theorem sideTick_or (s : Side) : (s.tick.peer = s.peer ∧ s.tick.state = s.state ∨ s.tick.peer = 0 ∧ s.tick.state = 0) ∧ s.tick.mine = s.mine ∧ s.tick.seen = s.seen := by
  unfold Side.tick
  split
  · exact ⟨.inl ⟨rfl, rfl⟩, rfl, rfl⟩
  · split
    · exact ⟨.inr ⟨rfl, rfl⟩, rfl, rfl⟩
    · exact ⟨.inl ⟨rfl, rfl⟩, rfl, rfl⟩
theorem Carries.more {h k : Hist} {t : Nat} {y : Pt} (hc : Carries h t y) : Carries (h ++ k) t y := by
  obtain ⟨m, c, h1, h2, h3, h4, h5⟩ := hc
  exact ⟨m, c, h1, h2, h3, by rw [List.getElem?_append_left (List.getElem?_eq_some_iff.1 h4).1]; exact h4, h5⟩
section
variable {N : Nat} {a b : Prt} {wa wb : List Way} {hA hB : Hist} {tA tB : Nat}
/-- a port that is up towards a living session is in it -/
theorem up_linked (ha : Half a b wa wb hA tA) (hb : Half b a wb wa hB tB) (hup : a.side.state = 2) (h : a.peer = b.inc) : b.peer = a.inc := by
  obtain ⟨u1, _⟩ := hb.up hup
  have h0 : a.side.peer ≠ 0 := fun e => by have := hb.st.1 e; omega
  have hp : a.side.peer = a.peer := hb.sp.resolve_left h0
  have h1 := ha.pl; have h2 := ha.sl
  unfold Lx at u1
  omega
theorem Half.sideA (ha : Half a b wa wb hA tA) (sd : Side) : Half { a with side := sd } b wa wb hA tA :=
  { ha with lnk := fun x z => have h := ha.lnk x z; ⟨h.kept, h.tq, h.ack, h.sent, h.lim⟩ }
theorem Half.sideTick (hb : Half b a wb wa hB tB) : Half b { a with side := a.side.tick } wb wa hB tB := by
  obtain ⟨h1, h2, h3⟩ := sideTick_or a.side
  refine { hb with
    mine := h2.trans hb.mine
    sp := ?_
    st := ?_
    pl := by show a.peer ≤ a.side.tick.seen; rw [h3]; exact hb.pl
    sl := by show a.side.tick.seen ≤ b.inc; rw [h3]; exact hb.sl
    up := fun e => ?_
    rc := hb.rc.same rfl rfl rfl rfl rfl
    lnk := fun x z => (hb.lnk x z).sameB rfl rfl rfl }
  · show a.side.tick.peer = 0 ∨ a.side.tick.peer = a.peer
    rcases h1 with ⟨e, _⟩ | ⟨e, _⟩
    · rw [e]; exact hb.sp
    · exact .inl e
  · show a.side.tick.peer = 0 ↔ a.side.tick.state = 0
    rcases h1 with ⟨e, e'⟩ | ⟨e, e'⟩
    · rw [e, e']; exact hb.st
    · rw [e, e']
  · show Lx a.side.tick.peer a.inc b.inc b.peer ∧ ∀ p ∈ wb, Lx a.side.tick.peer a.inc p.1.i p.1.s
    have e' : a.side.tick.state = 2 := e
    rcases h1 with ⟨e1, e2⟩ | ⟨e1, e2⟩
    · rw [e1]; exact hb.up (by rw [← e2]; exact e')
    · omega
/-- packets are sent -/
theorem Half.sendA (h : Half a b wa wb hA tA) (hb : Half b a wb wa hB tB) {new : List Pt} (hf : ∀ y ∈ new, Fits a.tag y)
    (hd : a.inc = b.peer → a.peer = b.inc → ∀ y ∈ new, y.kind = 2#8 → Carries hA (a.snd.acked + a.snd.sent) y)
    (hn : a.side.state ≠ 2 → ∀ y ∈ new, y.kind ≠ 2#8) : Half a b (wa ++ new.map fun y => (a.tag, y)) wb hA tA := by
  have hnew : ∀ p ∈ new.map (fun y => (a.tag, y)), p.1 = a.tag ∧ p.2 ∈ new := fun p hp => by
    obtain ⟨y, hy, rfl⟩ := List.mem_map.1 hp
    exact ⟨rfl, hy⟩
  have h1 := hb.pl; have h2 := hb.sl; have h3 := hb.sp; have h4 := hb.inc
  exact { h with
    srt := List.pairwise_append.2 ⟨h.srt, List.pairwise_map.2 (List.pairwise_of_forall (fun _ _ => Tag.le.refl _)), fun p hp q hq => by rw [(hnew q hq).1]; exact h.cur p hp⟩
    cur := fun p hp => by
      rcases List.mem_append.1 hp with hp | hp
      · exact h.cur p hp
      · rw [(hnew p hp).1]; exact Tag.le.refl _
    fit := fun p hp => by
      rcases List.mem_append.1 hp with hp | hp
      · exact h.fit p hp
      · rw [(hnew p hp).1]; exact hf _ (hnew p hp).2
    one := fun p hp => by
      rcases List.mem_append.1 hp with hp | hp
      · exact h.one p hp
      · rw [(hnew p hp).1]; exact h4
    vs := fun p hp => by
      rcases List.mem_append.1 hp with hp | hp
      · exact h.vs p hp
      · rw [(hnew p hp).1]; exact h3
    si := fun p hp => by
      rcases List.mem_append.1 hp with hp | hp
      · exact h.si p hp
      · rw [(hnew p hp).1]; exact Nat.le_trans h1 h2
    up := fun e => ⟨(h.up e).1, fun p hp => by
      rcases List.mem_append.1 hp with hp | hp
      · exact (h.up e).2 p hp
      · rw [(hnew p hp).1]; exact (h.up e).1⟩
    fly := fun p hp e1 e2 => by
      rcases List.mem_append.1 hp with hp | hp
      · exact h.fly p hp e1 e2
      · obtain ⟨q1, q2⟩ := hnew p hp
        rw [q1] at e1 e2 ⊢
        have hl := h.lnk e1.symm e2
        have e3 : a.tag.top = tA := hl.tq.symm
        exact ⟨by rw [e3]; exact h.rc.rt, Nat.le_of_eq e3, hd e1 e2 _ q2⟩
    frF := fun p hp e1 e2 => by
      rcases List.mem_append.1 hp with hp | hp
      · exact h.frF p hp e1 e2
      · obtain ⟨q1, q2⟩ := hnew p hp
        rw [q1] at e1 e2 ⊢
        have e2' : b.peer < a.inc := e2
        have e1' : a.peer = b.inc := e1
        obtain ⟨f1, f2, _⟩ := h.frS (Nat.ne_of_lt e2') e1'
        obtain ⟨f3, _⟩ := hb.frR e1' (Nat.ne_of_lt e2')
        refine ⟨by show a.snd.acked + a.snd.sent = 0; omega, f3, hn (fun hup => ?_) _ q2⟩
        have := up_linked h hb hup e1'
        omega }
theorem Half.sendB (h : Half b a wb wa hB tB) (new : List Pt) : Half b a wb (wa ++ new.map fun y => (a.tag, y)) hB tB := by
  have hnew : ∀ p ∈ new.map (fun y => (a.tag, y)), p.1 = a.tag := fun p hp => by
    obtain ⟨y, hy, rfl⟩ := List.mem_map.1 hp
    rfl
  exact { h with
    akd := fun u hu e1 e2 e3 e4 => by
      rcases List.mem_append.1 hu with hu | hu
      · exact h.akd u hu e1 e2 e3 e4
      · rw [hnew u hu]; exact (h.lnk e3 e4).ack
    old := fun u hu e1 e2 e3 => by
      rcases List.mem_append.1 hu with hu | hu
      · exact h.old u hu e1 e2 e3
      · rw [hnew u hu] at e1; exact absurd e1.symm e3 }
/-- a frame is chosen -/
theorem both_choose (ha : Half a b wa wb hA tA) (hb : Half b a wb wa hB tB) (ok : a.Ok N) (hup : a.side.state = 2) :
    ∃ hA', Half a.choose b wa wb hA' tA ∧ Half b a.choose wb wa hB tB ∧ (((∃ r, a.choose = { a with arb := r }) ∧ hA' = hA) ∨
      ∃ (c : Nat) (d : Bytes) (l : List Bytes) (r : Arb), c < a.rooms.length ∧ a.waiting.getD c [] = d :: l ∧ (Lkd a b → hA' = hA ++ [(c, d)]) ∧ (¬ Lkd a b → hA' = hA ∧ a.peer ≠ b.inc) ∧
      a.choose = { a with arb := r, waiting := a.waiting.set c l, tak := a.tak.set c { a.tk c with sent := (a.tk c).sent + 1 }, snd := { a.snd with kept := a.snd.kept ++ [d] }, kept := a.kept ++ [(c, d)] }) := by
  have hlk := up_linked ha hb hup
  by_cases hl : Lkd a b
  · obtain ⟨k, r1, r2, r3⟩ := ha.rc.choose (ha.lnk hl.1 hl.2) ok
    have hcase : (∃ r, a.choose = { a with arb := r } ∧ k = []) ∨ ∃ (c : Nat) (d : Bytes) (l : List Bytes) (r : Arb), k = [(c, d)] ∧ c < a.rooms.length ∧ a.waiting.getD c [] = d :: l ∧
      a.choose = { a with arb := r, waiting := a.waiting.set c l, tak := a.tak.set c { a.tk c with sent := (a.tk c).sent + 1 }, snd := { a.snd with kept := a.snd.kept ++ [d] }, kept := a.kept ++ [(c, d)] } := by
      rcases r3 with ⟨e1, r, e2⟩ | h
      · exact .inl ⟨r, e2, e1⟩
      · exact .inr h
    have hF : a.choose.inc = a.inc ∧ a.choose.peer = a.peer ∧ a.choose.tag = a.tag ∧ a.choose.snd.acked = a.snd.acked ∧ Half b a.choose wb wa hB tB := by
      rcases hcase with ⟨r, e, _⟩ | ⟨c, d, l, r, _, _, _, e⟩
      · rw [e]; exact ⟨rfl, rfl, rfl, rfl, hb.ofB rfl rfl rfl rfl rfl rfl rfl rfl rfl⟩
      · rw [e]; exact ⟨rfl, rfl, rfl, rfl, hb.ofB rfl rfl rfl rfl rfl rfl rfl rfl rfl⟩
    obtain ⟨f1, f2, f3, f4, f5⟩ := hF
    refine ⟨hA ++ k, { ha with
      cur := by rw [f3]; exact ha.cur
      sl := by rw [f1]; exact ha.sl
      up := by rw [f1, f2]; exact ha.up
      rc := r1
      fly := fun p hp e1 e2 => by
        obtain ⟨q1, q2, q3⟩ := ha.fly p hp e1 e2
        exact ⟨q1, q2, fun e => (q3 e).more⟩
      lnk := fun _ _ => r2
      frR := by rw [f1, f2]; exact ha.frR
      frS := by rw [f1]; exact fun x _ => absurd hl.1 x
      akd := by rw [f1, f2, f4]; exact ha.akd
      old := by rw [f2]; exact fun _ _ _ _ x => absurd hl.2 x }, f5, ?_⟩
    rcases hcase with ⟨r, e, rfl⟩ | ⟨c, d, l, r, rfl, h1, h2, e⟩
    · exact .inl ⟨⟨r, e⟩, List.append_nil _⟩
    · exact .inr ⟨c, d, l, r, h1, h2, fun _ => rfl, fun x => absurd hl x, e⟩
  · have hne : a.peer ≠ b.inc := fun e => hl ⟨hlk e, e⟩
    rcases Prt.choose_eq ok with ⟨r, e⟩ | ⟨c, d, l, r, h1, h2, h3, h4, e⟩
    · refine ⟨hA, ?_, ?_, .inl ⟨⟨r, e⟩, rfl⟩⟩
      · rw [e]; exact ha.ofA rfl rfl (Tag.le.refl _) (.inl rfl) (fun x z => absurd ⟨x, z⟩ hl) (fun _ z => absurd z hne) ha.old
      · rw [e]; exact hb.ofB rfl rfl rfl rfl rfl rfl rfl rfl rfl
    · refine ⟨hA, ?_, ?_, .inr ⟨c, d, l, r, h1, h2, fun x => absurd x hl, fun _ => ⟨rfl, hne⟩, e⟩⟩
      · rw [e]; exact ha.ofA rfl rfl (Tag.le.refl _) (.inl rfl) (fun x z => absurd ⟨x, z⟩ hl) (fun _ z => absurd z hne) ha.old
      · rw [e]; exact hb.ofB rfl rfl rfl rfl rfl rfl rfl rfl rfl
theorem tick_snd (s : Snd) : s.tick.2.acked = s.acked ∧ s.sent ≤ s.tick.2.sent ∧ s.tick.2.kept = s.kept := by
  rcases Snd.tick_cases s with ⟨_, t, e⟩ | ⟨i, _, _, e⟩
  · rw [e]; exact ⟨rfl, Nat.le_refl _, rfl⟩
  · rw [e]; exact ⟨rfl, Nat.le_max_left _ _, rfl⟩
/-- the sender's tick -/
theorem both_sndTick (ha : Half a b wa wb hA tA) (hb : Half b a wb wa hB tB) (ok : a.Ok N) (hup : a.side.state = 2) :
    ∃ tA', Half { a with snd := a.snd.tick.2 } b wa wb hA tA' ∧ Half b { a with snd := a.snd.tick.2 } wb wa hB tB ∧
      (a.inc = b.peer → a.peer = b.inc → ∀ (n : Nat) (d : Bytes), a.snd.tick.1 = some (n, d) → Carries hA (a.snd.tick.2.acked + a.snd.tick.2.sent) ⟨2#8, (Prt.classOf { a with snd := a.snd.tick.2 } n : Nat), n, a.inc, d⟩) := by
  obtain ⟨s1, s2, s3⟩ := tick_snd a.snd
  have htag : a.tag.le ({ a with snd := a.snd.tick.2 } : Prt).tag := ⟨.inr ⟨rfl, Nat.le_refl _⟩, fun _ _ => ⟨by show a.snd.acked + a.snd.sent ≤ a.snd.tick.2.acked + a.snd.tick.2.sent; omega, Nat.le_refl _, fun _ => Int.le_refl _⟩⟩
  have hB' : Half b { a with snd := a.snd.tick.2 } wb wa hB tB := hb.ofB rfl rfl rfl rfl rfl rfl rfl rfl rfl
  by_cases hl : Lkd a b
  · obtain ⟨top', q1, q2, q3, q4⟩ := ha.rc.sndTick (ha.lnk hl.1 hl.2) ok
    refine ⟨top', { ha with
      cur := fun p hp => (ha.cur p hp).trans htag
      rc := q2
      fly := fun p hp e1 e2 => by
        obtain ⟨g1, g2, g3⟩ := ha.fly p hp e1 e2
        exact ⟨g1, Nat.le_trans g2 q1, g3⟩
      lnk := fun _ _ => q3
      frS := fun x _ => absurd hl.1 x
      akd := fun u hu e1 e2 e3 e4 => by
        show a.snd.tick.2.acked ≤ _
        rw [s1]; exact ha.akd u hu e1 e2 e3 e4
      old := fun _ _ _ _ x => absurd hl.2 x }, hB', fun _ _ n d e => ?_⟩
    have := q4 n d e
    rw [q3.tq] at this
    exact this
  · have hne : a.peer ≠ b.inc := fun e => hl ⟨up_linked ha hb hup e, e⟩
    refine ⟨tA, ha.ofA rfl rfl htag (.inl s1) (fun x z => absurd ⟨x, z⟩ hl) (fun _ z => absurd z hne) (fun u hu e1 e2 e3 => ?_), hB', fun _ z => absurd z hne⟩
    show a.snd.tick.2.acked ≤ _ ∧ _ ≤ a.snd.tick.2.acked + a.snd.tick.2.sent
    have := ha.old u hu e1 e2 e3
    omega
/-- what a tick without arrivals does to a port -/
def Emits (a a' b : Prt) (hA hA' : Hist) : Prop :=
  ∃ sd ar sn, sn.acked = a.snd.acked ∧ ((a' = { a with side := sd, arb := ar, snd := sn } ∧ hA' = hA) ∨
    ∃ (c : Nat) (d : Bytes) (l : List Bytes) (tk : List Tak), c < a.rooms.length ∧ a.waiting.getD c [] = d :: l ∧ (Lkd a b → hA' = hA ++ [(c, d)]) ∧ (¬ Lkd a b → hA' = hA ∧ a.peer ≠ b.inc) ∧
      a' = { a with side := sd, arb := ar, snd := sn, waiting := a.waiting.set c l, tak := tk, kept := a.kept ++ [(c, d)] })
theorem fits_hail (a a' : Prt) (h1 : a'.inc = a.inc) (h2 : a'.side.peer = a.side.tick.peer) : Fits a'.tag a.hail := by
  refine ⟨fun _ => ⟨by show (a.inc : Int) = a'.inc; rw [h1], by show (a.side.tick.peer : Int) = a'.side.peer; rw [h2]⟩, fun h => absurd rfl h, fun h => absurd h kk13, fun h => absurd h kk14⟩
theorem both_emit (ha : Half a b wa wb hA tA) (hb : Half b a wb wa hB tB) (ok : a.Ok N) :
    ∃ hA' tA', Half (a.tick []).2 b (wa ++ (a.tick []).1.map fun y => ((a.tick []).2.tag, y)) wb hA' tA' ∧
      Half b (a.tick []).2 wb (wa ++ (a.tick []).1.map fun y => ((a.tick []).2.tag, y)) hB tB ∧ Emits a (a.tick []).2 b hA hA' := by
  have ha1 := ha.sideA a.side.tick
  have hb1 := hb.sideTick
  by_cases hs : a.side.tick.state = 2
  · have ok1 := ok.sideTick
    obtain ⟨hA', ha2, hb2, hc⟩ := both_choose ha1 hb1 ok1 hs
    have ok2 := ok1.choose
    have hF : (Prt.choose { a with side := a.side.tick }).inc = a.inc ∧ (Prt.choose { a with side := a.side.tick }).side = a.side.tick ∧ (Prt.choose { a with side := a.side.tick }).rcv = a.rcv ∧ (Prt.choose { a with side := a.side.tick }).giv = a.giv ∧ (Prt.choose { a with side := a.side.tick }).base = a.base := by
      rcases hc with ⟨⟨r, e⟩, _⟩ | ⟨c, d, l, r, _, _, _, _, e⟩
      · rw [e]; exact ⟨rfl, rfl, rfl, rfl, rfl⟩
      · rw [e]; exact ⟨rfl, rfl, rfl, rfl, rfl⟩
    have hE : ∀ s : Snd, s.acked = (Prt.choose { a with side := a.side.tick }).snd.acked → Emits a { Prt.choose { a with side := a.side.tick } with snd := s } b hA hA' := fun s hs' => by
      rcases hc with ⟨⟨r, e⟩, e2⟩ | ⟨c, d, l, r, h1, h2, h3, h4, e⟩
      · rw [e] at hs' ⊢; exact ⟨_, r, s, hs', .inl ⟨rfl, e2⟩⟩
      · rw [e] at hs' ⊢; exact ⟨_, r, s, hs', .inr ⟨c, d, l, _, h1, h2, h3, h4, rfl⟩⟩
    rw [Prt.tick_up (a := a) (l := []) (a1 := a) rfl hs]
    obtain ⟨c1, c2, c3, c4, c5⟩ := hF
    clear hc
    generalize Prt.choose { a with side := a.side.tick } = q at ha2 hb2 ok2 c1 c2 c3 c4 c5 hE ⊢
    have hq : q.side.state = 2 := by rw [c2]; exact hs
    obtain ⟨tA', ha3, hb3, hcar⟩ := both_sndTick ha2 hb2 ok2 hq
    have hac := (tick_snd q.snd).1
    rcases hq' : q.snd.tick with ⟨o, s⟩
    rw [hq'] at ha3 hb3 hcar hac
    dsimp only at ha3 hb3 hcar hac
    have hfit : ∀ y ∈ a.hail :: a.ackn :: (List.range a.base.length).map a.cred, Fits ({ q with snd := s } : Prt).tag y ∧ y.kind ≠ 2#8 := fun y hy => by
      rcases List.mem_cons.1 hy with rfl | hy
      · exact ⟨fits_hail a _ c1 (congrArg Side.peer c2), kk12⟩
      · rcases List.mem_cons.1 hy with rfl | hy
        · refine ⟨⟨fun h => absurd h kk31, fun _ => ?_, fun _ => ?_, fun h => absurd h kk34⟩, kk32⟩
          · show (a.inc : Int) = q.inc; rw [c1]
          · show ((a.rcv % 256 : Nat) : Int) = ((q.rcv % 256 : Nat) : Int); rw [c3]
        · obtain ⟨c, _, rfl⟩ := List.mem_map.1 hy
          refine ⟨⟨fun h => absurd h kk41, fun _ => ?_, fun h => absurd h kk43, fun _ k hk => ?_⟩, kk42⟩
          · show (a.inc : Int) = q.inc; rw [c1]
          · have hk' : (c : Int) = (k : Int) := hk
            obtain rfl : c = k := by exact_mod_cast hk'
            show ((a.giv.getD c ⟨0, 0, 0⟩).limit : Int) - ((a.base.getD c 0 : Nat) : Int) ≤ ((q.giv.getD c ⟨0, 0, 0⟩).limit : Int) - ((q.base.getD c 0 : Nat) : Int)
            rw [c4, c5]; exact Int.le_refl _
    cases o with
    | none =>
      exact ⟨hA', tA', ha3.sendA hb3 (fun y hy => (hfit y hy).1) (fun _ _ y hy e => absurd e (hfit y hy).2) (fun h => absurd hq h), hb3.sendB _, hE s hac⟩
    | some nd =>
      obtain ⟨n, d⟩ := nd
      refine ⟨hA', tA', ha3.sendA hb3 (fun y hy => ?_) (fun e1 e2 y hy e => ?_) (fun h => absurd hq h), hb3.sendB _, hE s hac⟩
      · rcases List.mem_append.1 hy with hy | hy
        · exact (hfit y hy).1
        · rw [List.mem_singleton.1 hy]
          exact ⟨fun h => absurd h kk21, fun _ => rfl, fun h => absurd h kk23, fun h => absurd h kk24⟩
      · rcases List.mem_append.1 hy with hy | hy
        · exact absurd e (hfit y hy).2
        · rw [List.mem_singleton.1 hy]
          exact hcar e1 e2 n d rfl
  · rw [Prt.tick_down (a := a) (l := []) (a1 := a) rfl hs]
    refine ⟨hA, tA, ha1.sendA hb1 (fun y hy => ?_) (fun _ _ y hy e => ?_) (fun _ y hy => ?_), hb1.sendB _, a.side.tick, a.arb, a.snd, rfl, .inl ⟨rfl, rfl⟩⟩
    · rw [List.mem_singleton.1 hy]; exact fits_hail a _ rfl rfl
    · rw [List.mem_singleton.1 hy] at e; exact absurd e kk12
    · rw [List.mem_singleton.1 hy]; exact kk12
end
end Go.Proofs.Ytcocnfbhileheaa

/- Two ports and what is under way between them: what is offered at one comes to the other, in order; all classes, through all steps, restarts included. No program in sight. -/
namespace Go.Proofs.Ytcocnfbhileheaa

/-- one direction: oa: what was offered at a in all its lives, for each class; gb: what was taken at b in this life; da: how much was offered up to the last restart -/
structure Dir (a b : Prt) (wa wb : List Way) (hist : Hist) (top : Nat) (oa gb : Nat → List Bytes) (da : Nat → Nat) : Prop where
  half : Half a b wa wb hist top
  cls : ∀ c, Cls a b wb hist c (oa c) (gb c) (da c)
/-- both directions -/
def Both (a b : Prt) (wa wb : List Way) (oa ga ob gb : Nat → List Bytes) (da db : Nat → Nat) : Prop :=
  ∃ hA tA hB tB, Dir a b wa wb hA tA oa gb da ∧ Dir b a wb wa hB tB ob ga db
theorem Both.swap {a b : Prt} {wa wb : List Way} {oa ga ob gb : Nat → List Bytes} {da db : Nat → Nat} (h : Both a b wa wb oa ga ob gb da db) : Both b a wb wa ob gb oa ga db da := by
  obtain ⟨hA, tA, hB, tB, h1, h2⟩ := h
  exact ⟨hB, tB, hA, tA, h2, h1⟩
section
variable {N : Nat} {a b : Prt} {wa wb wa' wb' : List Way} {oa ga ob gb : Nat → List Bytes} {da db : Nat → Nat}
theorem Both.handle {t : Tag} {y : Pt} (h : Both a b wa ((t, y) :: wb) oa ga ob gb da db) (ok : a.Ok N) (okb : b.inc ≤ 1099511627775) : Both (a.handle y) b wa wb oa ga ob gb da db := by
  obtain ⟨hA, tA, hB, tB, ⟨h1, c1⟩, h2, c2⟩ := h
  have hsub : ∀ p ∈ wb, p ∈ (t, y) :: wb := fun p hp => List.mem_cons_of_mem _ hp
  obtain ⟨hA', tA', hB', tB', q1, q2, q3⟩ := both_handle h1 h2 ok okb
  rcases q3 with ⟨rfl, rfl, rfl, rfl, hs⟩ | ⟨hlt, rfl, hA3, sd, e⟩
  · rcases hs with ⟨sd, tk, e⟩ | ⟨g1, g2, g3, g4, e⟩ | ⟨c, d, g1, g2, e⟩
    · rw [e] at q1 q2 ⊢
      exact ⟨_, _, _, _, ⟨q1, fun c => (c1 c).same hsub rfl rfl rfl rfl rfl rfl rfl rfl rfl⟩, q2, fun c => (c2 c).same (fun _ hp => hp) rfl rfl rfl rfl rfl rfl rfl rfl rfl⟩
    · rw [e] at q1 q2 ⊢
      have hak := (drop_acked a.snd (t.r - a.snd.acked) (by omega)).1
      refine ⟨_, _, _, _, ⟨q1, fun c => (c1 c).acknowledge (List.pairwise_cons.1 h2.srt).2 (fun p hp => (List.pairwise_cons.1 h2.srt).1 p hp) (fun hl => (h1.lnk hl.1 hl.2).kept) g1 g3 g4 _ (by rw [hak]; omega)⟩, q2, fun c => (c2 c).same (fun _ hp => hp) rfl rfl rfl rfl rfl rfl rfl rfl rfl⟩
    · rw [e] at q1 q2 ⊢
      exact ⟨_, _, _, _, ⟨q1, fun c => (c1 c).same hsub rfl rfl rfl rfl rfl rfl rfl rfl rfl⟩, q2, fun k => (c2 k).receive g1 (by rw [h2.rc.bl]; exact g2) _ _ fun _ hp => hp⟩
  · have hcu := (h2.cur _ (List.mem_cons_self ..)).1
    have hib : t.i ≤ b.inc := by
      unfold Lx at hcu
      have h4 : b.tag.i = b.inc := rfl
      dsimp only at hcu
      omega
    have hne : a.peer ≠ b.inc := by omega
    rw [e] at q1 q2 ⊢
    refine ⟨_, _, _, _, ⟨q1, fun c => (c1 c).beginA (by rw [ok.wl]; exact ok.kcl) hne ?_⟩, q2, fun c => (c2 c).beginB hlt hne (fun _ e2 => ?_) fun _ hp => hp⟩
    · rcases hA3 with ⟨x1, x2, x3, x4⟩ | ⟨x1, x2, _⟩
      · exact .inl ⟨x1, x2, x3, x4⟩
      · exact .inr ⟨x1, x2⟩
    · obtain ⟨f1, _, f3, _⟩ := h2.frS hne e2
      exact ⟨f1, f3⟩
theorem Both.handles : ∀ {N : Nat} {a : Prt} {wb : List Way} (l : List Way), (∀ x ∈ l, x.2.pay.length ≤ 1000) → Both a b wa (l ++ wb) oa ga ob gb da db → a.Ok N → b.inc ≤ 1099511627775 → Both ((l.map (·.2)).foldl Prt.handle a) b wa wb oa ga ob gb da db
  | _, _, _, [], _, h, _, _ => h
  | _, _, _, (t, y) :: l, hl, h, ok, okb => by
    rw [List.map_cons, List.foldl_cons]
    exact Both.handles l (fun x hx => hl x (List.mem_cons_of_mem _ hx)) (Both.handle h ok okb) (ok.handle y (hl _ (List.mem_cons_self ..))) okb
theorem Both.ways (h : Both a b wa wb oa ga ob gb da db) (h1 : ∀ p ∈ wa', p ∈ wa) (h2 : wa'.Pairwise fun p q => p.1.le q.1) (h3 : ∀ p ∈ wb', p ∈ wb) (h4 : wb'.Pairwise fun p q => p.1.le q.1) : Both a b wa' wb' oa ga ob gb da db := by
  obtain ⟨hA, tA, hB, tB, ⟨d1, c1⟩, d2, c2⟩ := h
  exact ⟨hA, tA, hB, tB, ⟨d1.ways h1 h2 h3, fun c => (c1 c).same h3 rfl rfl rfl rfl rfl rfl rfl rfl rfl⟩, d2.ways h3 h4 h1, fun c => (c2 c).same h1 rfl rfl rfl rfl rfl rfl rfl rfl rfl⟩
theorem Cls.more {hist : Hist} {c : Nat} {all got : List Bytes} {old : Nat} (h : Cls b a wa hist c all got old) (new : List Pt) : Cls b a (wa ++ new.map fun y => (a.tag, y)) hist c all got old := by
  obtain ⟨E, P, g1, g2, g3, g4⟩ := h
  refine ⟨E, P, g1, g2, g3, fun x => ⟨(g4 x).1, (g4 x).2.1, fun u hu e1 e2 => ?_⟩⟩
  rcases List.mem_append.1 hu with hu | hu
  · exact (g4 x).2.2 u hu e1 e2
  · obtain ⟨y, _, rfl⟩ := List.mem_map.1 hu
    exact absurd (show Lkd b a from ⟨e2, e1.symm⟩) x
theorem Both.emit (h : Both a b wa wb oa ga ob gb da db) (ok : a.Ok N) : Both (a.tick []).2 b (wa ++ (a.tick []).1.map fun y => ((a.tick []).2.tag, y)) wb oa ga ob gb da db := by
  obtain ⟨hA, tA, hB, tB, ⟨d1, c1⟩, d2, c2⟩ := h
  obtain ⟨hA', tA', q1, q2, sd, ar, sn, e1, q3⟩ := both_emit d1 d2 ok
  refine ⟨hA', tA', hB, tB, ⟨q1, fun c => ?_⟩, q2, fun c => ?_⟩
  · rcases q3 with ⟨e, rfl⟩ | ⟨k, d, l, tk, k1, k2, k3, k4, e⟩
    · rw [e]; exact (c1 c).same (fun _ hp => hp) rfl rfl rfl rfl e1 rfl rfl rfl rfl
    · rw [e]
      refine Cls.choose (a := { a with side := sd }) ((c1 c).same (fun _ hp => hp) rfl rfl rfl rfl rfl rfl rfl rfl rfl) (by show k < a.waiting.length; rw [ok.wl]; exact k1) k2 ar sn e1 tk ⟨fun hl => ⟨k3 hl, ?_, ?_⟩, fun hl => ⟨(k4 hl).1, fun u hu x1 x2 => ?_⟩⟩
      · exact Nat.le_trans d1.rc.rt d1.rc.tl
      · exact Nat.le_trans (d1.lnk hl.1 hl.2).ack (Nat.le_trans d1.rc.rt d1.rc.tl)
      · have h1 := d1.old u hu x1 x2 (k4 hl).2
        have h2 := ok.snd.sent
        have h3 : a.kept.length = a.snd.kept.length := by rw [← ok.kept, List.length_map]
        show u.1.r - a.snd.acked ≤ a.kept.length
        omega
  · refine Cls.more ?_ _
    rcases q3 with ⟨e, _⟩ | ⟨k, d, l, tk, _, _, _, _, e⟩
    · rw [e]; exact (c2 c).same (fun _ hp => hp) rfl rfl rfl rfl rfl rfl rfl rfl rfl
    · rw [e]; exact (c2 c).same (fun _ hp => hp) rfl rfl rfl rfl rfl rfl rfl rfl rfl
theorem tick_emit (a : Prt) (l : List Pt) : a.tick l = (l.foldl Prt.handle a).tick [] := rfl
/-- a tick: the packets of l arrive, the eldest first -/
theorem Both.tick {l : List Way} (h : Both a b wa (l ++ wb) oa ga ob gb da db) (ok : a.Ok N) (okb : b.inc ≤ 1099511627775) (hl : ∀ x ∈ l, x.2.pay.length ≤ 1000) :
    Both (a.tick (l.map (·.2))).2 b (wa ++ (a.tick (l.map (·.2))).1.map fun y => ((a.tick (l.map (·.2))).2.tag, y)) wb oa ga ob gb da db := by
  rw [tick_emit]
  exact (Both.handles l hl h ok okb).emit (ok.handles (l.map (·.2)) fun x hx => by obtain ⟨p, hp, rfl⟩ := List.mem_map.1 hx; exact hl p hp)
/-- f is changed at c -/
def upd {α : Type} (f : Nat → α) (c : Nat) (v : α) : Nat → α := fun k => if k = c then v else f k
theorem Both.offer (h : Both a b wa wb oa ga ob gb da db) {c : Nat} (hc : c < a.waiting.length) (d : Bytes) : Both { a with waiting := a.waiting.set c (a.waiting.getD c [] ++ [d]) } b wa wb (upd oa c (oa c ++ [d])) ga ob gb da db := by
  obtain ⟨hA, tA, hB, tB, ⟨d1, c1⟩, d2, c2⟩ := h
  refine ⟨hA, tA, hB, tB, ⟨d1.ofA rfl rfl (Tag.le.refl _) (.inl rfl) (fun _ _ h => ⟨h.kept, h.tq, h.ack, h.sent, h.lim⟩) d1.frS d1.old, fun k => ?_⟩, d2.ofB rfl rfl rfl rfl rfl rfl rfl rfl rfl, fun k => (c2 k).same (fun _ hp => hp) rfl rfl rfl rfl rfl rfl rfl rfl rfl⟩
  have := (c1 k).offer d hc
  unfold upd
  by_cases e : k = c
  · subst e; rw [if_pos rfl] at this ⊢; exact this
  · rw [if_neg fun h => e h.symm] at this
    rw [if_neg e]; exact this
theorem take_tag (a : Prt) (c : Int) (h : (a.take c).2.giv.length = a.giv.length ∧ ∀ k, (a.gv k).limit ≤ ((a.take c).2.gv k).limit) (e1 : (a.take c).2.inc = a.inc) (e2 : (a.take c).2.peer = a.peer) (e3 : (a.take c).2.snd = a.snd) (e4 : (a.take c).2.rcv = a.rcv) (e5 : (a.take c).2.base = a.base) : a.tag.le (a.take c).2.tag := by
  refine ⟨.inr ⟨e1.symm, by show a.peer ≤ _; rw [show (a.take c).2.tag.s = (a.take c).2.peer from rfl, e2]; exact Nat.le_refl _⟩, fun _ _ => ⟨?_, ?_, fun k => ?_⟩⟩
  · show a.snd.acked + a.snd.sent ≤ (a.take c).2.snd.acked + (a.take c).2.snd.sent
    rw [e3]; exact Nat.le_refl _
  · show a.rcv ≤ (a.take c).2.rcv
    rw [e4]; exact Nat.le_refl _
  · show ((a.gv k).limit : Int) - ((a.bs k : Nat) : Int) ≤ (((a.take c).2.gv k).limit : Int) - (((a.take c).2.bs k : Nat) : Int)
    have := h.2 k
    rw [show (a.take c).2.bs k = a.bs k by unfold Prt.bs; rw [e5]]
    omega
/-- a frame is taken at a -/
theorem Both.take (h : Both a b wa wb oa ga ob gb da db) {c : Nat} {d : Bytes} {l : List Bytes} (hc : c < a.rooms.length) (hd : a.buffer.getD c [] = d :: l) :
    Both { a with buffer := a.buffer.set c l, giv := a.giv.set c (a.gv c).free, taken := a.taken.set c (a.taken.getD c 0 + 1) } b wa wb oa (upd ga c (ga c ++ [d])) ob gb da db := by
  obtain ⟨hA, tA, hB, tB, ⟨d1, c1⟩, d2, c2⟩ := h
  have hh : a.has (c : Int) := ⟨by omega, by omega⟩
  have hp : a.peek (c : Int) = some d := by unfold Prt.peek; rw [if_pos hh, Int.toNat_natCast, hd]; rfl
  have e : (a.take (c : Int)).2 = { a with buffer := a.buffer.set c l, giv := a.giv.set c (a.gv c).free, taken := a.taken.set c (a.taken.getD c 0 + 1) } := by
    unfold Prt.take
    rw [hp]
    simp only [Int.toNat_natCast, hd, List.drop_succ_cons, List.drop_zero]
  have hcg : c < a.giv.length := by rw [d2.rc.gl]; exact hc
  have hf : (a.gv c).free.received = (a.gv c).received ∧ (a.gv c).limit ≤ (a.gv c).free.limit := by
    unfold Giv.free Giv.limit
    split
    · exact ⟨rfl, Nat.le_refl _⟩
    · exact ⟨rfl, by dsimp only; omega⟩
  have hset : ∀ k, (a.gv k).received = ((a.giv.set c (a.gv c).free).getD k ⟨0, 0, 0⟩).received ∧ (a.gv k).limit ≤ ((a.giv.set c (a.gv c).free).getD k ⟨0, 0, 0⟩).limit := fun k => by
    rw [getD_set _ _ _ _ _ hcg]
    split
    · rename_i e; subst e; exact ⟨hf.1.symm, hf.2⟩
    · exact ⟨rfl, Nat.le_refl _⟩
  have htag : a.tag.le (a.take (c : Int)).2.tag := take_tag a c (by rw [e]; exact ⟨by simp, fun k => (hset k).2⟩) (by rw [e]) (by rw [e]) (by rw [e]) (by rw [e]) (by rw [e])
  have hr := d2.rc.take (c : Int)
  have hl := fun x z => (d2.lnk x z).take d2.rc (c : Int)
  rw [e] at htag hr hl
  refine ⟨hA, tA, hB, tB, ⟨d1.ofA rfl rfl htag (.inl rfl) (fun _ _ h => ⟨h.kept, h.tq, h.ack, h.sent, h.lim⟩) d1.frS d1.old, fun k => (c1 k).same (fun _ hp => hp) rfl rfl rfl rfl rfl rfl rfl rfl rfl⟩, { d2 with rc := hr, lnk := hl, frR := fun x z => ?_ }, fun k => ?_⟩
  · obtain ⟨f1, f2⟩ := d2.frR x z
    refine ⟨f1, fun k => ?_⟩
    show ((a.giv.set c (a.gv c).free).getD k ⟨0, 0, 0⟩).received = a.bs k ∧ a.bs k ≤ ((a.giv.set c (a.gv c).free).getD k ⟨0, 0, 0⟩).limit
    exact ⟨(hset k).1.symm.trans (f2 k).1, Nat.le_trans (f2 k).2 (hset k).2⟩
  · have := (c2 k).take (by rw [d2.rc.bl]; exact hc) hd (a.giv.set c (a.gv c).free) (a.taken.set c (a.taken.getD c 0 + 1))
    unfold upd
    by_cases e : k = c
    · subst e; rw [if_pos rfl] at this ⊢; exact this
    · rw [if_neg fun h => e h.symm] at this
      rw [if_neg e]; exact this
theorem new_gv (i : Nat) (rooms : List Nat) (wi ti de k : Nat) : (newPrt i rooms wi ti de).gv k = ⟨rooms.getD k 0, 0, 0⟩ := by
  show ((List.range rooms.length).map fun c => Giv.held ⟨rooms.getD c 0, 0, 0⟩ ((List.replicate rooms.length ([] : List Bytes)).getD c []).length).getD k ⟨0, 0, 0⟩ = _
  have e : ∀ c, (List.replicate rooms.length ([] : List Bytes)).getD c [] = [] := fun c => by
    rw [List.getD, List.getElem?_replicate]
    split <;> rfl
  rcases Nat.lt_or_ge k rooms.length with h | h
  · rw [List.getD, List.getElem?_map, List.getElem?_range h]
    show Giv.held ⟨rooms.getD k 0, 0, 0⟩ ((List.replicate rooms.length ([] : List Bytes)).getD k []).length = _
    rw [e]; rfl
  · rw [getD_out (by simpa using h), getD_out h]
theorem new_bs (i : Nat) (rooms : List Nat) (wi ti de k : Nat) : (newPrt i rooms wi ti de).bs k = 0 := by
  show ((List.replicate rooms.length ([] : List Bytes)).map List.length).getD k 0 = 0
  rw [List.map_replicate, List.getD, List.getElem?_replicate]
  split <;> rfl
theorem new_buf (i : Nat) (rooms : List Nat) (wi ti de k : Nat) : (newPrt i rooms wi ti de).buffer.getD k [] = [] := by
  show (List.replicate rooms.length ([] : List Bytes)).getD k [] = []
  rw [List.getD, List.getElem?_replicate]
  split <;> rfl
theorem new_wait (i : Nat) (rooms : List Nat) (wi ti de k : Nat) : (newPrt i rooms wi ti de).waiting.getD k [] = [] := by
  show ((List.range (List.replicate rooms.length ([] : List Bytes)).length).map fun c => ([] : List Bytes) ++ (List.replicate rooms.length ([] : List Bytes)).getD c []).getD k [] = []
  rcases Nat.lt_or_ge k (List.replicate rooms.length ([] : List Bytes)).length with h | h
  · rw [List.getD, List.getElem?_map, List.getElem?_range h]
    show [] ++ (List.replicate rooms.length ([] : List Bytes)).getD k [] = []
    rw [List.getD, List.getElem?_replicate]
    split <;> rfl
  · rw [getD_out (by simpa using h)]
theorem new_rec (i : Nat) (rooms : List Nat) (wi ti de : Nat) : Rec (newPrt i rooms wi ti de) [] 0 := by
  refine ⟨by simp [newPrt, Prt.begin], Nat.le_refl _, Nat.zero_le _, Nat.zero_le _, (fun f hf => by cases hf), fun c => ?_, fun c => ?_, by simp [newPrt, Prt.begin], fun c hc => ?_, fun c hc => ?_⟩
  · rw [new_bs]; exact Nat.zero_le _
  · rw [new_gv, new_bs]; rfl
  · rw [new_gv]; rfl
  · rw [new_gv, new_buf]; rfl
/-- two new ports -/
theorem both_new {i j : Nat} (hi : 1 ≤ i) (hj : 1 ≤ j) (ra rb : List Nat) (wia tia dea wib tib deb : Nat) :
    Both (newPrt i ra wia tia dea) (newPrt j rb wib tib deb) [] [] (fun _ => []) (fun _ => []) (fun _ => []) (fun _ => []) (fun _ => 0) (fun _ => 0) := by
  have key : ∀ (i j : Nat) (ra rb : List Nat) (wia tia dea wib tib deb : Nat), 1 ≤ i → 1 ≤ j → Dir (newPrt i ra wia tia dea) (newPrt j rb wib tib deb) [] [] [] 0 (fun _ => []) (fun _ => []) (fun _ => 0) := fun i j ra rb wia tia dea wib tib deb hi hj =>
    ⟨{ srt := .nil, cur := fun _ h => (by cases h), fit := fun _ h => (by cases h), one := fun _ h => (by cases h), vs := fun _ h => (by cases h), si := fun _ h => (by cases h)
       mine := rfl, inc := hj, sp := .inl rfl, st := Iff.rfl, pl := Nat.zero_le _, sl := Nat.zero_le _, up := fun h => (by cases h), rc := new_rec _ _ _ _ _, over := rfl
       fly := fun _ h => (by cases h), frF := fun _ h => (by cases h)
       lnk := fun h _ => absurd (show (0 : Nat) = i from h) (by omega)
       frR := fun h _ => absurd (show (0 : Nat) = i from h) (by omega)
       frS := fun _ h => absurd (show (0 : Nat) = j from h) (by omega)
       akd := fun _ h => (by cases h), old := fun _ h => (by cases h) }, fun c => ⟨[], [], by rw [new_buf]; rfl, by rw [new_wait]; rfl, fun h => absurd (show (0 : Nat) = i from h.1) (by omega), fun _ => ⟨.slnil, Nat.le_refl _, fun _ h => (by cases h)⟩⟩⟩
  exact ⟨[], 0, [], 0, key _ _ _ _ _ _ _ _ _ _ hi hj, key _ _ _ _ _ _ _ _ _ _ hj hi⟩
/-- a begins a new life -/
theorem Both.restart (h : Both a b wa wb oa ga ob gb da db) {i : Nat} (hi : a.inc < i) (rooms : List Nat) (wi ti de : Nat) :
    Both (newPrt i rooms wi ti de) b wa wb oa (fun _ => []) ob gb (fun c => (oa c).length) (fun c => (ob c).length) := by
  obtain ⟨hA, tA, hB, tB, ⟨d1, c1⟩, d2, c2⟩ := h
  have h1 := d1.pl; have h2 := d1.sl; have h3 := d2.pl; have h4 := d2.sl; have h5 := d1.inc; have h6 := d2.inc
  have hbp : b.peer ≠ i := by omega
  have hz : ∀ {P : Prop}, (0 : Nat) = b.inc → P := fun h => absurd h (by omega)
  have hzw : ∀ u ∈ wb, u.1.i ≠ 0 := fun u hu => by have := d2.one u hu; omega
  have hcur : a.tag.le (newPrt i rooms wi ti de).tag := ⟨.inl hi, fun e => absurd (show a.inc = i from e) (by omega)⟩
  refine ⟨hA, tA, [], 0, ⟨{ d1 with
    cur := fun p hp => (d1.cur p hp).trans hcur
    sl := by show b.side.seen ≤ i; omega
    up := fun e => ⟨.inl (by
      show b.side.peer < i
      have := d1.sp
      omega), (d1.up e).2⟩
    lnk := fun x _ => absurd x hbp
    frR := fun x _ => absurd x hbp
    frS := fun _ z => hz z
    akd := fun _ _ _ _ x => absurd x hbp
    old := fun u hu e => absurd e (hzw u hu) }, fun c => ?_⟩, ⟨{
    srt := d2.srt
    cur := d2.cur
    fit := d2.fit
    one := d2.one
    vs := d2.vs
    si := fun p hp => Nat.le_trans (d2.si p hp) (Nat.le_of_lt hi)
    mine := rfl
    inc := Nat.le_trans h6 (Nat.le_of_lt hi)
    sp := .inl rfl
    st := Iff.rfl
    pl := Nat.zero_le _
    sl := Nat.zero_le _
    up := fun h => (by cases h)
    rc := new_rec _ _ _ _ _
    over := rfl
    fly := fun p hp e => absurd e (hzw p hp)
    frF := fun p hp e => absurd (show p.1.s = i from e) (by have := d2.si p hp; omega)
    lnk := fun x _ => hz x
    frR := fun x _ => hz x
    frS := fun _ z => absurd (show b.peer = i from z) hbp
    akd := fun _ _ _ _ x => hz x
    old := fun u hu e1 e2 _ => ?_ }, fun c => ?_⟩⟩
  · obtain ⟨E, P, g1, g2, g3, g4⟩ := c1 c
    refine ⟨E, oa c, g1, ?_, fun x => absurd x.1 hbp, fun _ => ⟨?_, Nat.le_refl _, fun u hu e => absurd e (hzw u hu)⟩⟩
    · rw [new_wait]
      show oa c = oa c ++ (frm c [] ++ [])
      simp [frm]
    · by_cases hl : Lkd a b
      · obtain ⟨P0, q1, q2, _⟩ := g3 hl
        have hk := (d1.lnk hl.1 hl.2).kept
        rw [g2, q1, hk, ← frm_take_drop c hA a.snd.acked]
        simp only [List.append_assoc]
        refine List.Sublist.append q2 (List.Sublist.append_left ?_ _)
        exact List.sublist_append_left ..
      · rw [g2]
        exact (g4 hl).1.trans (List.sublist_append_left ..)
  · by_cases e3 : b.peer = a.inc
    · have e4 : a.peer = b.inc := by
        have := (d1.cur u hu).1
        have q1 : a.tag.i = a.inc := rfl
        have q2 : a.tag.s = a.peer := rfl
        unfold Lx at this
        omega
      have hl := d2.lnk e4 e3
      have e5 : u.1.i = a.inc := e1.trans e3
      have q := ((d1.cur u hu).2 e5 (e2.trans e4.symm)).2.1
      have q' : u.1.r ≤ a.rcv := q
      have := d2.akd u hu e5 e2 e4 e3
      have t1 := hl.tq
      have t2 := d2.rc.rt
      omega
    · exact d2.old u hu e1 e2 e3
  · obtain ⟨E, P, g1, g2, g3, g4⟩ := c2 c
    refine ⟨[], P, by rw [new_buf]; rfl, g2, fun x => (hz x.1), fun _ => ⟨List.nil_sublist _, by rw [g2, List.length_append]; omega, fun u hu e1 e2 => ?_⟩⟩
    rw [g2, List.length_append, List.length_append]
    have : (frm c (b.kept.take (u.1.r - b.snd.acked))).length ≤ (frm c b.kept).length := by
      conv => rhs; rw [← frm_take_drop c b.kept (u.1.r - b.snd.acked), List.length_append]
      omega
    omega
/-- as long as nothing was restarted: what was taken is a beginning of what was offered -/
theorem Both.front (h : Both a b wa wb oa ga ob gb da db) (hd : ∀ c, da c = 0) (c : Nat) : gb c <+: oa c := by
  obtain ⟨hA, tA, hB, tB, ⟨d1, c1⟩, _⟩ := h
  obtain ⟨E, P, g1, g2, g3, g4⟩ := c1 c
  rw [hd c] at g3 g4
  by_cases hl : Lkd a b
  · obtain ⟨P0, q1, q2, q3⟩ := g3 hl
    obtain rfl : P0 = [] := List.length_eq_zero_iff.1 (by omega)
    obtain rfl : E = [] := List.sublist_nil.1 q2
    have hk := (d1.lnk hl.1 hl.2).kept
    have e : oa c = frm c hA ++ a.waiting.getD c [] := by rw [g2, q1, hk, ← frm_take_drop c hA a.snd.acked]; simp only [List.nil_append, List.append_assoc]
    refine (List.prefix_append (gb c) (b.buffer.getD c [])).trans ?_
    rw [g1, e, ← frm_take_drop c hA b.rcv, List.nil_append, List.append_assoc]
    exact List.prefix_append _ _
  · obtain ⟨q1, q2, _⟩ := g4 hl
    obtain rfl : P = [] := List.length_eq_zero_iff.1 (by omega)
    have q3 : E ++ frm c hA = [] := List.sublist_nil.1 q1
    have q4 : E = [] ∧ frm c hA = [] := List.append_eq_nil_iff.1 q3
    have q5 : frm c (hA.take b.rcv) = [] := by
      have := frm_take_drop c hA b.rcv
      rw [q4.2] at this
      exact (List.append_eq_nil_iff.1 this).1
    rw [q4.1, q5] at g1
    rw [(List.append_eq_nil_iff.1 g1).1]
    exact List.nil_prefix
theorem Both.over (h : Both a b wa wb oa ga ob gb da db) : a.overflows = 0 ∧ b.overflows = 0 := by
  obtain ⟨_, _, _, _, ⟨d1, _⟩, d2, _⟩ := h
  exact ⟨d2.over, d1.over⟩
/-- a buffer holds no more than there is room -/
theorem Both.room (h : Both a b wa wb oa ga ob gb da db) {c : Nat} (hc : c < a.rooms.length) : (a.buffer.getD c []).length ≤ a.rooms.getD c 0 := by
  obtain ⟨_, _, hB, _, _, d2, _⟩ := h
  have h1 := d2.rc.buf c hc; have h2 := d2.rc.room c; have h3 := d2.rc.got c; have h4 := d2.rc.rm c hc
  have h5 := cnt_take_le hB a.rcv c
  unfold Giv.limit at h2
  omega
end
end Go.Proofs.Ytcocnfbhileheaa

/- Two connected ports, in plain words: what is taken is a beginning of what was offered, and nothing overflows. No program in sight. -/
namespace Go.Proofs.Ytcocnfbhileheaa

/-- a pair of ports with what is under way; oa, ga: offered and taken at the left, ob, gb: at the right; da, db: how much was offered up to the last restart -/
def Pr.Inv (P : Pr) (oa ga ob gb : Nat → List Bytes) (da db : Nat → Nat) : Prop :=
  ∃ wa wb : List Way, wa.map (·.2) = P.l.fly ∧ wb.map (·.2) = P.r.fly ∧ Both P.l.prt P.r.prt wa wb oa ga ob gb da db
/-- frames of one byte each -/
def sing (bs : Bytes) : List Bytes := bs.map fun b => [b]
theorem sing_prefix {xs ys : Bytes} (h : sing xs <+: sing ys) : xs <+: ys := by
  have h1 := List.prefix_iff_eq_take.1 h
  rw [List.prefix_iff_eq_take]
  unfold sing at h1
  rw [List.length_map, ← List.map_take] at h1
  have hinj : ∀ (a b : Bytes), a.map (fun x => [x]) = b.map (fun x => [x]) → a = b := fun a => by
    induction a with
    | nil => intro b hb; cases b with
             | nil => rfl
             | cons _ _ => cases hb
    | cons x a ih => intro b hb; cases b with
                     | nil => cases hb
                     | cons y b =>
                       simp only [List.map_cons, List.cons.injEq, and_true] at hb
                       rw [hb.1, ih b hb.2]
  exact hinj _ _ h1
section
variable {N : Nat} {P : Pr} {oa ga ob gb : Nat → List Bytes} {da db : Nat → Nat}
theorem Pr.Inv.tick (h : P.Inv oa ga ob gb da db) (ok : P.Ok N) (lose dbl : Nat) : (P.tick lose dbl).Inv oa ga ob gb da db := by
  obtain ⟨wa, wb, ea, eb, hb⟩ := h
  have hpa : ∀ x ∈ wa, x.2.pay.length ≤ 1000 := fun x hx => Nat.le_trans (ok.l.f1 x.2 (by rw [← ea]; exact List.mem_map.2 ⟨x, hx, rfl⟩)).1 (by decide)
  have hpb : ∀ x ∈ wb, x.2.pay.length ≤ 1000 := fun x hx => Nat.le_trans (ok.r.f1 x.2 (by rw [← eb]; exact List.mem_map.2 ⟨x, hx, rfl⟩)).1 (by decide)
  have h1 := Both.tick (l := wb) (wb := []) (by rw [List.append_nil]; exact hb) ok.l.ok ok.r.ok.i2 hpb
  rw [eb] at h1
  have okl : (P.l.prt.tick P.r.fly).2.inc ≤ 1099511627775 := by rw [(tick_keeps P.l.prt P.r.fly).2.1]; exact ok.l.ok.i2
  have h2 := Both.tick (l := wa) h1.swap ok.r.ok okl hpa
  rw [ea] at h2
  have h3 := h2.swap
  refine ⟨(sift lose dbl 0 (P.l.prt.tick P.r.fly).1).map (fun y => ((P.l.prt.tick P.r.fly).2.tag, y)), (sift lose dbl (P.l.prt.tick P.r.fly).1.length (P.r.prt.tick P.l.fly).1).map (fun y => ((P.r.prt.tick P.l.fly).2.tag, y)), ?_, ?_, h3.ways (fun p hp => ?_) ?_ (fun p hp => ?_) ?_⟩
  · rw [List.map_map]; exact List.map_id _
  · rw [List.map_map]; exact List.map_id _
  · obtain ⟨y, hy, rfl⟩ := List.mem_map.1 hp
    exact List.mem_map.2 ⟨y, sift_mem _ _ _ _ y hy, rfl⟩
  · exact List.pairwise_map.2 (List.pairwise_of_forall fun _ _ => Tag.le.refl _)
  · obtain ⟨y, hy, rfl⟩ := List.mem_map.1 hp
    rw [List.nil_append]
    exact List.mem_map.2 ⟨y, sift_mem _ _ _ _ y hy, rfl⟩
  · exact List.pairwise_map.2 (List.pairwise_of_forall fun _ _ => Tag.le.refl _)
theorem Pr.Inv.swap (h : P.Inv oa ga ob gb da db) : (⟨P.r, P.l⟩ : Pr).Inv ob gb oa ga db da := by
  obtain ⟨wa, wb, ea, eb, hb⟩ := h
  exact ⟨wb, wa, eb, ea, hb.swap⟩
theorem Pr.Inv.offerL (h : P.Inv oa ga ob gb da db) (ok : P.Ok N) {c : Nat} (hc : c < 2) (b : BitVec 8) :
    (P.l.offer c b = P.l ∧ (P.l.prt.waiting.getD c []).length ≥ 64) ∨ ((P.l.offer c b).off = P.l.off.set c (P.l.off.getD c [] ++ [b]) ∧ (P.l.offer c b).got = P.l.got ∧ (⟨P.l.offer c b, P.r⟩ : Pr).Inv (upd oa c (oa c ++ [[b]])) ga ob gb da db) := by
  rcases offer_cases ok.l hc b with ⟨h1, e⟩ | ⟨_, e⟩
  · exact .inl ⟨e, h1⟩
  · refine .inr ⟨by rw [e], by rw [e], ?_⟩
    rw [e]
    obtain ⟨wa, wb, ea, eb, hb⟩ := h
    exact ⟨wa, wb, ea, eb, hb.offer (by rw [ok.l.ok.wl, ok.l.two]; exact hc) [b]⟩
theorem Pr.Inv.takeL (h : P.Inv oa ga ob gb da db) (ok : P.Ok N) {c : Nat} (hc : c < 2) :
    (P.l.take c = P.l ∧ P.l.prt.buffer.getD c [] = []) ∨ ∃ x, (P.l.take c).got = P.l.got.set c (P.l.got.getD c [] ++ [x]) ∧ (P.l.take c).off = P.l.off ∧ (⟨P.l.take c, P.r⟩ : Pr).Inv oa (upd ga c (ga c ++ [[x]])) ob gb da db := by
  rcases take_cases ok.l hc with ⟨h1, _, e⟩ | ⟨x, l, h1, _, _, e⟩
  · exact .inl ⟨e, h1⟩
  · refine .inr ⟨x, by rw [e], by rw [e], ?_⟩
    rw [e]
    obtain ⟨wa, wb, ea, eb, hb⟩ := h
    exact ⟨wa, wb, ea, eb, hb.take (by rw [ok.l.two]; exact hc) h1⟩
/-- what was offered and taken, as the pair counts it -/
def Nd.os (n : Nd) : Nat → List Bytes := fun c => sing (n.off.getD c [])
def Nd.gs (n : Nd) : Nat → List Bytes := fun c => sing (n.got.getD c [])
/-- without restarts -/
def Pr.Good (P : Pr) : Prop := P.Inv P.l.os P.l.gs P.r.os P.r.gs (fun _ => 0) (fun _ => 0)
theorem sing_set {l : List Bytes} {c : Nat} (hc : c < l.length) (b : BitVec 8) : (fun k => sing ((l.set c (l.getD c [] ++ [b])).getD k [])) = upd (fun k => sing (l.getD k [])) c (sing (l.getD c []) ++ [[b]]) := by
  funext k
  unfold upd
  rw [getD_set _ _ _ _ _ hc]
  by_cases e : k = c
  · subst e; rw [if_pos rfl, if_pos rfl]; unfold sing; rw [List.map_append]; rfl
  · rw [if_neg e, if_neg fun h => e h.symm]
theorem Pr.Good.tick (h : P.Good) (ok : P.Ok N) (lose dbl : Nat) : (P.tick lose dbl).Good := Pr.Inv.tick h ok lose dbl
theorem Pr.Good.swap (h : P.Good) : (⟨P.r, P.l⟩ : Pr).Good := Pr.Inv.swap h
theorem Pr.Good.offerL (h : P.Good) (ok : P.Ok N) {c : Nat} (hc : c < 2) (b : BitVec 8) : (⟨P.l.offer c b, P.r⟩ : Pr).Good := by
  rcases Pr.Inv.offerL h ok hc b with ⟨e, _⟩ | ⟨e1, e2, h⟩
  · rw [e]; exact h
  · unfold Pr.Good Nd.os Nd.gs
    rw [e1, e2, sing_set (by rw [ok.l.o2]; exact hc)]
    exact h
theorem Pr.Good.takeL (h : P.Good) (ok : P.Ok N) {c : Nat} (hc : c < 2) : (⟨P.l.take c, P.r⟩ : Pr).Good := by
  rcases Pr.Inv.takeL h ok hc with ⟨e, _⟩ | ⟨x, e1, e2, h⟩
  · rw [e]; exact h
  · unfold Pr.Good Nd.os Nd.gs
    rw [e1, e2, sing_set (by rw [ok.l.g2]; exact hc)]
    exact h
theorem Pr.Ok.swap (h : P.Ok N) : (⟨P.r, P.l⟩ : Pr).Ok N := ⟨h.r, h.l⟩
theorem Pr.Good.offer (h : P.Good) (ok : P.Ok N) (s : Nat) {c : Nat} (hc : c < 2) (b : BitVec 8) : (P.offer s c b).Good := by
  unfold Pr.offer
  split
  · exact h.offerL ok hc b
  · exact (Pr.Good.offerL h.swap ok.swap hc b).swap
theorem Pr.Good.take (h : P.Good) (ok : P.Ok N) (s : Nat) {c : Nat} (hc : c < 2) : (P.take s c).Good := by
  unfold Pr.take
  split
  · exact h.takeL ok hc
  · exact (Pr.Good.takeL h.swap ok.swap hc).swap
theorem Pr.Good.act (h : P.Good) (ok : P.Ok N) (e : Nat) : (P.act e).Good := by
  unfold Pr.act
  split
  · exact h.offer ok _ (Nat.mod_lt _ (by decide)) _
  · split
    · exact h.take ok _ (Nat.mod_lt _ (by decide))
    · exact h
theorem newPr_good (room window : Nat) : (newPr room window).Good := by
  have e : (fun c => sing (([[], []] : List Bytes).getD c [])) = fun _ => [] := by
    funext c
    match c with
    | 0 => rfl
    | 1 => rfl
    | c + 2 => rfl
  refine ⟨[], [], rfl, rfl, ?_⟩
  unfold Nd.os Nd.gs
  show Both _ _ [] [] (fun c => sing (([[], []] : List Bytes).getD c [])) (fun c => sing (([[], []] : List Bytes).getD c [])) (fun c => sing (([[], []] : List Bytes).getD c [])) (fun c => sing (([[], []] : List Bytes).getD c [])) _ _
  rw [e]
  exact both_new (by decide) (by decide) _ _ _ _ _ _ _ _
theorem Pr.Good.front (h : P.Good) : (∀ c, c < 2 → P.r.got.getD c [] <+: P.l.off.getD c [] ∧ P.l.got.getD c [] <+: P.r.off.getD c []) ∧ P.l.prt.overflows = 0 ∧ P.r.prt.overflows = 0 := by
  obtain ⟨wa, wb, _, _, hb⟩ := h
  exact ⟨fun c _ => ⟨sing_prefix (hb.front (fun _ => rfl) c), sing_prefix (hb.swap.front (fun _ => rfl) c)⟩, hb.over⟩
end
end Go.Proofs.Ytcocnfbhileheaa
