/- Several texts in one: A pair of ports that are up and empty: what is offered then comes to the other side, and nothing else. No program in sight. A pair of ports with restarts: the events; the pair when it is idle; frames offered then. No program in sight. A flow with a delay of one tick, in which no timeout strikes, in numbers: what can be sent is sent soon. No program in sight. A port that has not yet sent or received a frame; the first ticks of a new pair. No program in sight. A pair of ports of which one side takes nothing of a class: the run. No program in sight. A side that takes nothing of a class receives as much as it has room, and one frame more after it took one. No program in sight. The pair of PortStops: what is offered before the first tick; the ticks of the law's closure (plain). -/
import Derived.Test.YtcocnfbhileheaaMgK
/- A pair of ports that are up and empty: what is offered then comes to the other side, and nothing else. No program in sight. -/
namespace Go.Proofs.Ytcocnfbhileheaa

section
variable {D : Nat} {a b : Nat → Prt} {Ba Bb : Nat → List Way}
/-- class by class: what was given to the sender and what waits -/
theorem Go.classes (g : Go D a b Ba Bb) (u : Up D a b Ba Bb 0) (n : Nat) {c : Nat} (hc : c < (a 0).rooms.length) : ((a n).tk c).sent + ((a n).waiting.getD c []).length = ((a 0).tk c).sent + ((a 0).waiting.getD c []).length := by
  induction n with
  | zero => rfl
  | succ n ih =>
    obtain ⟨t, l, ds, ds', q, eB, eA, hds', hds, ht, htk, r1, r3, hA1, rK, hs, hrr, ti, ts, Nq, okq⟩ := g.sender u n
    obtain ⟨ch, tk, g1, g2, g3, g4, g5, g6⟩ := ht.send
    obtain ⟨N, ok⟩ := (g.at n).okA
    obtain ⟨c1, c2, _⟩ := g.const u n
    have htak : (a (n + 1)).tk c = q.tak.getD c ⟨0, 0⟩ := by unfold Prt.tk; rw [htk.eq]
    have hwai : (a (n + 1)).waiting = q.waiting := by rw [htk.eq]
    have hsent : (tk.getD c ⟨0, 0⟩).sent = ((a n).tk c).sent := by
      rw [g2 c]
      split
      · exact raise_sent _ _
      · rfl
    rw [← ih, htak, hwai]
    rcases g6 with ⟨_, x1, x2, _⟩ | ⟨k, d, w, _, x1, x2, x3, x4, _⟩
    · rw [x1, x2, hsent]
    · rw [x3, x4, getD_set _ _ _ _ _ (by rw [g1, ok.tl]; exact x1), getD_set _ _ _ _ _ (by rw [ok.wl]; exact x1)]
      by_cases e : k = c
      · subst e
        rw [if_pos rfl, if_pos rfl, x2, List.length_cons]
        show (tk.getD k ⟨0, 0⟩).sent + 1 + w.length = _
        omega
      · rw [if_neg e, if_neg e, hsent]
theorem Go.freed (g : Go D a b Ba Bb) (u : Up D a b Ba Bb 0) (n c : Nat) : (((a n).tick ((Bb n).map (·.2))).2.gv c).freed = ((a n).gv c).freed := by
  obtain ⟨t, l, ds, ds', q, e, ti, ts, hds, hds', r1, r3, htick, ht, htk⟩ := g.turn (g.up_all u n)
  rw [htick]
  show (q.giv.getD c ⟨0, 0, 0⟩).freed = _
  rw [ht.giv]
  exact (recvs_gv hds (a n) c).1
end
section
variable {N : Nat} {P : Pr} {oa ga ob gb : Nat → List Bytes} {da db : Nat → Nat}
/-- what is received is free again or in the buffer -/
def Nd.Bal (n : Nd) : Prop := ∀ c, c < 2 → (n.prt.gv c).received = (n.prt.gv c).freed + (n.prt.buffer.getD c []).length
theorem take_bal {n : Nd} (ok : n.Ok N) (hb : n.Bal) {c : Nat} (hc : c < 2) : (n.take c).Bal ∧ ∀ k, k < 2 → ((n.take c).got.getD k []).length + (n.prt.gv k).freed = (n.got.getD k []).length + ((n.take c).prt.gv k).freed := by
  rcases take_cases ok hc with ⟨_, _, e⟩ | ⟨x, l, h1, _, _, e⟩
  · rw [e]; exact ⟨hb, fun _ _ => rfl⟩
  · have hbc := hb c hc
    rw [h1, List.length_cons] at hbc
    have hfr : (n.prt.gv c).free = { n.prt.gv c with freed := (n.prt.gv c).freed + 1 } := by
      unfold Giv.free
      rw [if_neg (by omega)]
    have hgl : c < n.prt.giv.length := by rw [ok.ok.gl, ok.two]; exact hc
    rw [e]
    refine ⟨fun k hk => ?_, fun k hk => ?_⟩
    · show ((n.prt.giv.set c (n.prt.gv c).free).getD k ⟨0, 0, 0⟩).received = ((n.prt.giv.set c (n.prt.gv c).free).getD k ⟨0, 0, 0⟩).freed + ((n.prt.buffer.set c l).getD k []).length
      rw [getD_set _ _ _ _ _ hgl, getD_set _ _ _ _ _ (by rw [ok.ok.bl, ok.two]; exact hc)]
      by_cases e : c = k
      · subst e
        rw [if_pos rfl, if_pos rfl, hfr]
        show (n.prt.gv c).received = (n.prt.gv c).freed + 1 + l.length
        omega
      · rw [if_neg e, if_neg e]; exact hb k hk
    · show ((n.got.set c (n.got.getD c [] ++ [x])).getD k []).length + _ = _ + ((n.prt.giv.set c (n.prt.gv c).free).getD k ⟨0, 0, 0⟩).freed
      rw [getD_set _ _ _ _ _ hgl, getD_set _ _ _ _ _ (by rw [ok.g2]; exact hc)]
      by_cases e : c = k
      · subst e
        rw [if_pos rfl, if_pos rfl, hfr, List.length_append, List.length_singleton]
        show _ + 1 + _ = _ + ((n.prt.gv c).freed + 1)
        omega
      · rw [if_neg e, if_neg e]
theorem inv_bal (h : P.Inv oa ga ob gb da db) (ok : P.Ok N) : P.l.Bal ∧ P.r.Bal := by
  obtain ⟨wa, wb, _, _, hA, tA, hB, tB, ⟨d1, _⟩, d2, _⟩ := h
  exact ⟨fun c hc => d2.rc.buf c (by rw [ok.l.two]; exact hc), fun c hc => d1.rc.buf c (by rw [ok.r.two]; exact hc)⟩
theorem take2_bal {n : Nd} (ok : n.Ok N) (hb : n.Bal) : ∀ k, k < 2 → (n.take2.got.getD k []).length + (n.prt.gv k).freed = (n.got.getD k []).length + (n.take2.prt.gv k).freed := fun k hk => by
  obtain ⟨a1, a2⟩ := take_bal ok hb (c := 0) (by decide)
  obtain ⟨_, b2⟩ := take_bal (ok.take (c := 0) (by decide)) a1 (c := 1) (by decide)
  have h1 := a2 k hk
  have h2 := b2 k hk
  show (((n.take 0).take 1).got.getD k []).length + _ = _ + (((n.take 0).take 1).prt.gv k).freed
  omega
/-- with what was offered and taken before -/
def Pr.GoodG (P : Pr) (Ol Gl Or Gr : Nat → List Bytes) (da db : Nat → Nat) : Prop := P.Inv (fun c => Ol c ++ P.l.os c) (fun c => Gl c ++ P.l.gs c) (fun c => Or c ++ P.r.os c) (fun c => Gr c ++ P.r.gs c) da db
variable {Ol Gl Or Gr : Nat → List Bytes}
theorem os_set {l : List Bytes} {c : Nat} (hc : c < l.length) (G : Nat → List Bytes) (b : BitVec 8) : (fun k => G k ++ sing ((l.set c (l.getD c [] ++ [b])).getD k [])) = upd (fun k => G k ++ sing (l.getD k [])) c ((G c ++ sing (l.getD c [])) ++ [[b]]) := by
  funext k
  have := congrFun (sing_set hc b) k
  unfold upd at this ⊢
  dsimp only at this
  rw [this]
  by_cases e : k = c
  · subst e; rw [if_pos rfl, if_pos rfl, List.append_assoc]
  · rw [if_neg e, if_neg e]
theorem Pr.GoodG.tick (h : P.GoodG Ol Gl Or Gr da db) (ok : P.Ok N) (lose dbl : Nat) : (P.tick lose dbl).GoodG Ol Gl Or Gr da db := Pr.Inv.tick h ok lose dbl
theorem Pr.GoodG.swap (h : P.GoodG Ol Gl Or Gr da db) : (⟨P.r, P.l⟩ : Pr).GoodG Or Gr Ol Gl db da := Pr.Inv.swap h
theorem Pr.GoodG.takeL (h : P.GoodG Ol Gl Or Gr da db) (ok : P.Ok N) {c : Nat} (hc : c < 2) : (⟨P.l.take c, P.r⟩ : Pr).GoodG Ol Gl Or Gr da db := by
  rcases Pr.Inv.takeL h ok hc with ⟨e, _⟩ | ⟨x, e1, e2, h⟩
  · rw [e]; exact h
  · unfold Pr.GoodG Nd.os Nd.gs
    rw [e1, e2, os_set (by rw [ok.l.g2]; exact hc) Gl]
    exact h
theorem Pr.GoodG.take (h : P.GoodG Ol Gl Or Gr da db) (ok : P.Ok N) (s : Nat) {c : Nat} (hc : c < 2) : (P.take s c).GoodG Ol Gl Or Gr da db := by
  unfold Pr.take
  split
  · exact h.takeL ok hc
  · exact (Pr.GoodG.takeL h.swap ok.swap hc).swap
theorem Pr.GoodG.serve (h : P.GoodG Ol Gl Or Gr da db) (ok : P.Ok N) : P.serve.GoodG Ol Gl Or Gr da db :=
  ((((h.tick ok 0 0).take (ok.tick 0 0) 0 (by decide)).take ((ok.tick 0 0).take 0 (by decide)) 1 (by decide)).take (((ok.tick 0 0).take 0 (by decide)).take 1 (by decide)) 0 (by decide)).take ((((ok.tick 0 0).take 0 (by decide)).take 1 (by decide)).take 0 (by decide)) 1 (by decide)
theorem serves_goodG (h : P.GoodG Ol Gl Or Gr da db) (ok : P.Ok N) : ∀ n, (serves P n).GoodG Ol Gl Or Gr da db
  | 0 => h
  | n + 1 => (serves_goodG h ok n).serve (serves_ok ok n)
/-- what comes in a run is counted by the credits -/
theorem serves_freed {Ba Bb : Nat → List Way} (h : P.GoodG Ol Gl Or Gr da db) (ok : P.Ok N) (g : Go 1 (fun n => (serves P n).l.prt) (fun n => (serves P n).r.prt) Ba Bb) (u : Up 1 (fun n => (serves P n).l.prt) (fun n => (serves P n).r.prt) Ba Bb 0)
    (ma : ∀ n, (Ba n).map (·.2) = (serves P n).l.fly) (mb : ∀ n, (Bb n).map (·.2) = (serves P n).r.fly) (n : Nat) {k : Nat} (hk : k < 2) :
    (((serves P n).l.got.getD k []).length + (P.l.prt.gv k).freed = (P.l.got.getD k []).length + ((serves P n).l.prt.gv k).freed) ∧ (((serves P n).r.got.getD k []).length + (P.r.prt.gv k).freed = (P.r.got.getD k []).length + ((serves P n).r.prt.gv k).freed) := by
  induction n with
  | zero => exact ⟨rfl, rfl⟩
  | succ n ih =>
    have ok' := (serves_ok ok n).tick 0 0
    obtain ⟨b1, b2⟩ := inv_bal (Pr.Inv.tick (serves_goodG h ok n) (serves_ok ok n) 0 0) ok'
    have t1 := take2_bal ok'.l b1 k hk
    have t2 := take2_bal ok'.r b2 k hk
    have f1 := g.freed u n k
    have f2 := g.swap.freed u.swap n k
    rw [mb n] at f1
    rw [ma n] at f2
    have e1 : ((serves P n).tick 0 0).l.prt = ((serves P n).l.prt.tick (serves P n).r.fly).2 := rfl
    have e2 : ((serves P n).tick 0 0).r.prt = ((serves P n).r.prt.tick (serves P n).l.fly).2 := rfl
    have e3 : ((serves P n).tick 0 0).l.got = (serves P n).l.got := rfl
    have e4 : ((serves P n).tick 0 0).r.got = (serves P n).r.got := rfl
    rw [e1, e3, f1] at t1
    rw [e2, e4, f2] at t2
    show (((serves P n).serve).l.got.getD k []).length + _ = _ + (((serves P n).serve).l.prt.gv k).freed ∧ (((serves P n).serve).r.got.getD k []).length + _ = _ + (((serves P n).serve).r.prt.gv k).freed
    rw [serve_eq]
    dsimp only
    omega
end
/-- the ends of two lists -/
theorem tails_eq {α : Type} {a b c d x y f : List α} (h1 : a ++ x = b ++ f) (h2 : c ++ y = d ++ f) (hx : x.length ≤ f.length) (hl : x.length = y.length) : x = y := by
  have e1 : x = f.drop (f.length - x.length) := by
    have hlen := congrArg List.length h1
    rw [List.length_append, List.length_append] at hlen
    have := congrArg (List.drop a.length) h1
    rw [List.drop_left, List.drop_append, List.drop_eq_nil_of_le (by omega), List.nil_append] at this
    rw [this]; congr 1; rw [List.length_drop]; omega
  have e2 : y = f.drop (f.length - y.length) := by
    have hlen := congrArg List.length h2
    rw [List.length_append, List.length_append] at hlen
    have := congrArg (List.drop c.length) h2
    rw [List.drop_left, List.drop_append, List.drop_eq_nil_of_le (by omega), List.nil_append] at this
    rw [this]; congr 1; rw [List.length_drop]; omega
  rw [e1, e2, hl]
/-- a receiver that has all that the sender was given -/
theorem half_got {a b : Prt} {wa wb : List Way} {hist : Hist} {top : Nat} (h : Half a b wa wb hist top) (lk : Lkd a b) (hk : a.kept = []) (c : Nat) : (b.gv c).received = b.bs c + (a.tk c).sent := by
  have hl := h.lnk lk.1 lk.2
  have h1 := hl.kept
  rw [hk] at h1
  have h2 := congrArg List.length h1
  rw [List.length_drop] at h2
  have h0 : ([] : Hist).length = 0 := rfl
  have h3 := hl.ack
  have := h.rc.got c
  rwa [List.take_of_length_le (by omega), ← hl.sent c] at this
/-- one class of one direction, in the end: what was offered since is what was taken since -/
theorem one_way {a0 b0 a b : Prt} {wa wb wa' wb' : List Way} {oa ga ob gb oa' ga' ob' gb' : Nat → List Bytes} {da db da' db' : Nat → Nat} {c : Nat} {O X G Y : List Bytes} (h0 : Both a0 b0 wa wb oa ga ob gb da db) (lk : Lkd a0 b0) (k0 : a0.kept = []) (hc0 : c < b0.rooms.length) (hb0 : b0.buffer.getD c [] = [])
    (h : Both a b wa' wb' oa' ga' ob' gb' da' db') (F : Full a b) (hc : c < a.rooms.length) (hc2 : c < b.rooms.length) (hs : (a.tk c).sent = (a0.tk c).sent + 3) (hbs : b.bs c = b0.bs c) (ho : oa' c = O ++ X) (hg : gb' c = G ++ Y) (hx : X.length = 3) (hy : Y.length + (b0.gv c).freed = (b.gv c).freed) : X = Y := by
  obtain ⟨E, P0, f, g1, g2, _, _, g5⟩ := h.full F hc hc2
  obtain ⟨_, _, _, _, ⟨d0, _⟩, _⟩ := h0
  obtain ⟨_, _, _, _, ⟨d1, _⟩, _⟩ := h
  have r0 := half_got d0 lk k0 c
  have r1 := half_got d1 F.lk F.ka c
  have b0' := d0.rc.buf c hc0
  have b1' := d1.rc.buf c hc2
  rw [hb0] at b0'
  rw [F.bb c hc2] at b1'
  have e0 : ([] : List Bytes).length = 0 := rfl
  exact tails_eq (ho.symm.trans g2) (hg.symm.trans g1) (by omega) (by omega)
theorem serves_off {N : Nat} {P : Pr} (ok : P.Ok N) : ∀ n, (serves P n).l.off = P.l.off ∧ (serves P n).r.off = P.r.off
  | 0 => ⟨rfl, rfl⟩
  | n + 1 => by
    obtain ⟨h1, h2⟩ := serves_off ok n
    have ok' := (serves_ok ok n).tick 0 0
    exact ⟨(take2_leaves ok'.l).2.2.1.trans h1, (take2_leaves ok'.r).2.2.1.trans h2⟩
/-- up and empty; wa, wb: what is under way -/
structure Idle (a b : Prt) (wa wb : List Way) : Prop where
  lk : Lkd a b
  fa : Bat a.inc b.inc a.rooms.length wa
  fb : Bat b.inc a.inc b.rooms.length wb
  ka : a.kept = []
  kb : b.kept = []
  ba : ∀ c, c < a.rooms.length → a.buffer.getD c [] = []
  bb : ∀ c, c < b.rooms.length → b.buffer.getD c [] = []
section
variable {N : Nat} {P : Pr} {Ol Gl Or Gr : Nat → List Bytes} {da db : Nat → Nat}
/-- what was offered at two ports that are up and empty arrives -/
theorem pair_after {wa wb : List Way} (ea : wa.map (·.2) = P.l.fly) (eb : wb.map (·.2) = P.r.fly) (hb : Both P.l.prt P.r.prt wa wb (fun c => Ol c ++ P.l.os c) (fun c => Gl c ++ P.l.gs c) (fun c => Or c ++ P.r.os c) (fun c => Gr c ++ P.r.gs c) da db)
    (idle : Idle P.l.prt P.r.prt wa wb) (ok : P.Ok N) (hN : N ≤ 100000000) {ml mr : Nat → Nat} (cl : P.l.prt.Cons ml) (cr : P.r.prt.Cons mr) (tl : P.l.prt.timeout ≤ 6) (tr : P.r.prt.timeout ≤ 6) (dl : P.l.prt.dead = 12) (dr : P.r.prt.dead = 12)
    (rl : ∀ c, c < 2 → P.l.prt.rooms.getD c 0 ≤ 4) (rr : ∀ c, c < 2 → P.r.prt.rooms.getD c 0 ≤ 4) (gl : ∀ c, P.l.got.getD c [] = []) (gr : ∀ c, P.r.got.getD c [] = [])
    (ol : ∀ c, c < 2 → (P.l.off.getD c []).length = 3 ∧ (P.l.prt.waiting.getD c []).length = 3) (or' : ∀ c, c < 2 → (P.r.off.getD c []).length = 3 ∧ (P.r.prt.waiting.getD c []).length = 3) {n : Nat} (hn : 66 ≤ n) :
    Full (serves P n).l.prt (serves P n).r.prt ∧ ∀ c, c < 2 → (serves P n).r.got.getD c [] = P.l.off.getD c [] ∧ (serves P n).l.got.getD c [] = P.r.off.getD c [] := by
  obtain ⟨Ba, Bb, g, ma, mb, ea0, eb0⟩ := pair_run2 ea eb hb ok
  have hdl : 2 ≤ P.l.prt.side.dead := by rw [cl.dd, dl]; decide
  have hdr : 2 ≤ P.r.prt.side.dead := by rw [cr.dd, dr]; decide
  have u : Up 1 (fun n => (serves P n).l.prt) (fun n => (serves P n).r.prt) Ba Bb 0 := by
    refine ⟨idle.lk, fun j hj => ?_, fun j hj => ?_, hdl, hdr⟩
    · obtain rfl : j = 0 := by omega
      rw [Nat.add_zero, ea0]; exact idle.fa
    · obtain rfl : j = 0 := by omega
      rw [Nat.add_zero, eb0]; exact idle.fb
  have G : P.GoodG Ol Gl Or Gr da db := ⟨wa, wb, ea, eb, hb⟩
  have hft := fun n k hk => serves_freed G ok g u ma mb n (k := k) hk
  have htk := fun n k hk => pair_takes ok ma mb n k hk
  have hgood := serves_goodG G ok n
  have okn := serves_ok ok n
  have hk1 : P.l.prt.snd.kept.length = 0 := by rw [← ok.l.ok.kept, idle.ka]; rfl
  have hk2 : P.r.prt.snd.kept.length = 0 := by rw [← ok.r.ok.kept, idle.kb]; rfl
  have hw1 : wt P.l.prt ≤ 6 := by
    unfold wt
    rw [wt_sum, ok.l.ok.wl, ok.l.two]
    show (P.l.prt.waiting.getD 0 []).length + ((P.l.prt.waiting.getD 1 []).length + 0) ≤ 6
    have := (ol 0 (by decide)).2; have := (ol 1 (by decide)).2
    omega
  have hw2 : wt P.r.prt ≤ 6 := by
    unfold wt
    rw [wt_sum, ok.r.ok.wl, ok.r.two]
    show (P.r.prt.waiting.getD 0 []).length + ((P.r.prt.waiting.getD 1 []).length + 0) ≤ 6
    have := (or' 0 (by decide)).2; have := (or' 1 (by decide)).2
    omega
  have t1 := ok.l.ok.tot
  have t2 := ok.r.ok.tot
  unfold Snd.total at t1 t2
  have p1 := Nat.le_trans ok.l.ok.snd.pos ok.l.ok.snd.sent
  have p2 := Nat.le_trans ok.r.ok.snd.pos ok.r.ok.snd.sent
  have hlow : P.l.prt.snd.acked ≤ P.r.prt.rcv ∧ P.r.prt.snd.acked ≤ P.l.prt.rcv := by
    obtain ⟨hA, tA, hB, tB, ⟨d1, _⟩, d2, _⟩ := hb
    exact ⟨(d1.lnk idle.lk.1 idle.lk.2).ack, (d2.lnk idle.lk.2 idle.lk.1).ack⟩
  have hl0 := g.rcv_mono u 0 1
  have hr0 := g.swap.rcv_mono u.swap 0 1
  have hcls := fun n (c : Nat) (hc : c < 2) => g.classes u n (c := c) (by show c < P.l.prt.rooms.length; rw [ok.l.two]; exact hc)
  have hcls2 := fun n (c : Nat) (hc : c < 2) => g.swap.classes u.swap n (c := c) (by show c < P.r.prt.rooms.length; rw [ok.r.two]; exact hc)
  have hup := g.up_all u n
  have hst := (g.up_from (n := n - 1) hdl (by omega) hdr).1
  have hst2 := (g.swap.up_from (n := n - 1) hdr (by omega) hdl).1
  rw [show n - 1 + 1 = n by omega] at hst hst2
  have z1 := ok.l.two; have z2 := ok.r.two; have y1 := okn.l.two; have y2 := okn.r.two
  have z3 := cl.tmo; have z4 := cr.tmo
  obtain ⟨a, ha⟩ : ∃ a : Nat → Prt, (fun n => (serves P n).l.prt) = a := ⟨_, rfl⟩
  obtain ⟨b, hbb⟩ : ∃ b : Nat → Prt, (fun n => (serves P n).r.prt) = b := ⟨_, rfl⟩
  have xa : ∀ n, (serves P n).l.prt = a n := fun n => congrFun ha n
  have xb : ∀ n, (serves P n).r.prt = b n := fun n => congrFun hbb n
  have xa0 : P.l.prt = a 0 := xa 0
  have xb0 : P.r.prt = b 0 := xb 0
  rw [ha, hbb] at g u hup
  have htk' : ∀ n k, k < 2 → (a (n + 1)).buffer.getD k [] = (((a n).tick ((Bb n).map (·.2))).2.buffer.getD k []).drop 1 ∧ (b (n + 1)).buffer.getD k [] = (((b n).tick ((Ba n).map (·.2))).2.buffer.getD k []).drop 1 := fun n k hk => by
    have := htk n k hk
    rw [xa, xb, xa, xb] at this
    exact this
  have hl0' : (a 0).rcv ≤ (a (0 + 1)).rcv := by rw [← xa, ← xa]; exact hl0
  have hr0' : (b 0).rcv ≤ (b (0 + 1)).rcv := by rw [← xb, ← xb]; exact hr0
  have A := pair_way g u (by rw [← xa0, ← xb0, z1, z2]) (fun c hc => by rw [← xb0] at hc ⊢; exact rr c (by rw [z2] at hc; exact hc)) (fun n k hk => (htk' n k (by rw [← xb0, z2] at hk; exact hk)).2) (by rw [← xa0]; omega) (L := 6) (by rw [← xa0]; omega) (by rw [← xa0, z3]; exact tl) (n := n)
    (.inl ⟨by show (a 0).snd.acked + (a 0).snd.pos ≤ (b (0 + 1)).rcv; rw [← xa0]; rw [← xb0] at hr0'; omega, by omega⟩)
  have B := pair_way g.swap u.swap (by rw [← xa0, ← xb0, z1, z2]) (fun c hc => by rw [← xa0] at hc ⊢; exact rl c (by rw [z1] at hc; exact hc)) (fun n k hk => (htk' n k (by rw [← xa0, z1] at hk; exact hk)).1) (by rw [← xb0]; omega) (L := 6) (by rw [← xb0]; omega) (by rw [← xb0, z4]; exact tr) (n := n)
    (.inl ⟨by show (b 0).snd.acked + (b 0).snd.pos ≤ (a (0 + 1)).rcv; rw [← xb0]; rw [← xa0] at hl0'; omega, by omega⟩)
  have F : Full (serves P n).l.prt (serves P n).r.prt := by
    rw [xa] at hst y1 ⊢
    rw [xb] at hst2 y2 ⊢
    exact ⟨hst, hst2, hup.lk, A.1, B.1, fun c _ => A.2.1 c, fun c _ => B.2.1 c, fun c hc => B.2.2 c (by rw [← xb0, z2]; rw [y1] at hc; exact hc), fun c hc => A.2.2 c (by rw [← xa0, z1]; rw [y2] at hc; exact hc)⟩
  have hbs := fun n => (g.const u n).2.2.2.1
  have hbs2 := fun n => (g.swap.const u.swap n).2.2.2.1
  have hbl : ∀ c, (serves P n).l.prt.bs c = P.l.prt.bs c := fun c => by rw [xa n, xa0]; unfold Prt.bs; rw [hbs n]
  have hbr : ∀ c, (serves P n).r.prt.bs c = P.r.prt.bs c := fun c => by rw [xb n, xb0]; unfold Prt.bs; rw [hbs2 n]
  clear A B htk htk' g u hup hst hst2 hbs hbs2
  obtain ⟨wa', wb', _, _, hbn⟩ := hgood
  obtain ⟨of1, of2⟩ := serves_off ok n
  refine ⟨F, fun c hc => ⟨?_, ?_⟩⟩
  · have hs := hcls n c hc
    have hw : ((serves P n).l.prt.waiting.getD c []).length = 0 := by rw [F.wa c (by rw [y1]; exact hc)]; rfl
    have hf := (hft n c hc).2
    rw [gr c] at hf
    have hs : ((serves P n).l.prt.tk c).sent + ((serves P n).l.prt.waiting.getD c []).length = (P.l.prt.tk c).sent + (P.l.prt.waiting.getD c []).length := hs
    have h0 : ([] : Bytes).length = 0 := rfl
    have := one_way hb idle.lk idle.ka (by rw [z2]; exact hc) (idle.bb c (by rw [z2]; exact hc)) hbn F (by rw [y1]; exact hc) (by rw [y2]; exact hc) (by have := (ol c hc).2; omega) (hbr c) (G := Gr c) (Y := (serves P n).r.gs c) (O := Ol c) (X := P.l.os c) (by show Ol c ++ (serves P n).l.os c = _; unfold Nd.os; rw [of1]) rfl (by unfold Nd.os sing; rw [List.length_map]; exact (ol c hc).1) (by unfold Nd.gs sing; rw [List.length_map]; omega)
    exact sing_inj this.symm
  · have hs := hcls2 n c hc
    have hw : ((serves P n).r.prt.waiting.getD c []).length = 0 := by rw [F.wb c (by rw [y2]; exact hc)]; rfl
    have hf := (hft n c hc).1
    rw [gl c] at hf
    have hs : ((serves P n).r.prt.tk c).sent + ((serves P n).r.prt.waiting.getD c []).length = (P.r.prt.tk c).sent + (P.r.prt.waiting.getD c []).length := hs
    have h0 : ([] : Bytes).length = 0 := rfl
    have := one_way hb.swap ⟨idle.lk.2, idle.lk.1⟩ idle.kb (by rw [z1]; exact hc) (idle.ba c (by rw [z1]; exact hc)) hbn.swap F.swap (by rw [y2]; exact hc) (by rw [y1]; exact hc) (by have := (or' c hc).2; omega) (hbl c) (G := Gl c) (Y := (serves P n).l.gs c) (O := Or c) (X := P.r.os c) (by show Or c ++ (serves P n).r.os c = _; unfold Nd.os; rw [of2]) rfl (by unfold Nd.os sing; rw [List.length_map]; exact (or' c hc).1) (by unfold Nd.gs sing; rw [List.length_map]; omega)
    exact sing_inj this.symm
end
end Go.Proofs.Ytcocnfbhileheaa

/- A pair of ports with restarts: the events; the pair when it is idle; frames offered then. No program in sight. -/
namespace Go.Proofs.Ytcocnfbhileheaa

/-- a side that may have been restarted -/
structure Nd.Few (n : Nd) (k : Nat) : Prop where
  cons : ∃ m, n.prt.Cons m ∧ m 0 + m 1 ≤ k
  tmo : n.prt.timeout ≤ 6
  dead : n.prt.dead = 12
  room : ∀ c, c < 2 → n.prt.rooms.getD c 0 ≤ 4
structure Pr.Mess (P : Pr) (k next : Nat) : Prop where
  inv : ∃ oa ga ob gb da db, P.Inv oa ga ob gb da db
  l : P.l.Few k
  r : P.r.Few k
  nl : P.l.prt.inc < next
  nr : P.r.prt.inc < next
section
variable {N k next : Nat} {P : Pr}
theorem Nd.Sum.fewer {n : Nd} (h : n.Sum k) : n.Few k := ⟨⟨_, h.cons, h.few⟩, h.tmo, h.dead, h.room⟩
theorem Nd.Few.mono {n : Nd} (h : n.Few k) {j : Nat} (hj : k ≤ j) : n.Few j := by
  obtain ⟨m, h1, h2⟩ := h.cons
  exact ⟨⟨m, h1, Nat.le_trans h2 hj⟩, h.tmo, h.dead, h.room⟩
theorem Nd.Few.ticked {n m : Nd} (h : n.Few k) (ok : n.Ok N) (ok' : m.Ok N) (fl : List Pt) : ({ n with prt := (n.prt.tick m.fly).2, fly := fl } : Nd).Few k := by
  obtain ⟨k1, k2, _⟩ := tick_keeps n.prt m.fly
  obtain ⟨mm, h1, h2⟩ := h.cons
  refine ⟨⟨mm, h1.tick ok.ok fun y hy => Nat.le_trans (ok'.f1 y hy).1 (by decide), h2⟩, ?_, ?_, fun c hc => ?_⟩
  · show (n.prt.tick m.fly).2.timeout ≤ 6
    rw [tick_tmo]; exact h.tmo
  · show (n.prt.tick m.fly).2.dead = 12
    rw [tick_deadf]; exact h.dead
  · show (n.prt.tick m.fly).2.rooms.getD c 0 ≤ 4
    rw [k1]; exact h.room c hc
theorem Nd.Few.offer {n : Nd} (h : n.Few k) (ok : n.Ok N) {c : Nat} (hc : c < 2) (b : BitVec 8) : (n.offer c b).Few (k + 1) := by
  rcases offer_cases ok hc b with ⟨_, e⟩ | ⟨_, e⟩
  · rw [e]; exact h.mono (by omega)
  · rw [e]
    obtain ⟨m, h1, h2⟩ := h.cons
    refine ⟨⟨_, h1.offer ok.ok (c := c) (by rw [ok.two]; exact hc) [b], ?_⟩, h.tmo, h.dead, h.room⟩
    obtain rfl | rfl : c = 0 ∨ c = 1 := by omega
    · rw [if_pos rfl, if_neg (by decide)]; omega
    · rw [if_neg (by decide), if_pos rfl]; omega
theorem Nd.Few.take {n : Nd} (h : n.Few k) (ok : n.Ok N) {c : Nat} (hc : c < 2) : (n.take c).Few k := by
  rcases take_cases ok hc with ⟨_, _, e⟩ | ⟨x, l, h1, _, _, e⟩
  · rw [e]; exact h
  · rw [e]
    obtain ⟨m, g1, g2⟩ := h.cons
    exact ⟨⟨m, g1.take ok.ok (by rw [ok.two]; exact hc) h1, g2⟩, h.tmo, h.dead, h.room⟩
theorem offer_inc (n : Nd) (c : Nat) (b : BitVec 8) : (n.offer c b).prt.inc = n.prt.inc := by
  unfold Nd.offer
  split
  · unfold Prt.offer
    split
    · rfl
    · split <;> rfl
  · rfl
theorem take_inc (n : Nd) (c : Nat) : (n.take c).prt.inc = n.prt.inc := by
  unfold Nd.take
  split
  · rfl
  · unfold Prt.take
    split <;> rfl
theorem Pr.Mess.tick (h : P.Mess k next) (ok : P.Ok N) (lose dbl : Nat) : (P.tick lose dbl).Mess k next := by
  obtain ⟨oa, ga, ob, gb, da, db, hi⟩ := h.inv
  exact ⟨⟨_, _, _, _, _, _, hi.tick ok lose dbl⟩, h.l.ticked ok.l ok.r _, h.r.ticked ok.r ok.l _, by show ((P.l.prt.tick P.r.fly).2).inc < next; rw [(tick_keeps _ _).2.1]; exact h.nl, by show ((P.r.prt.tick P.l.fly).2).inc < next; rw [(tick_keeps _ _).2.1]; exact h.nr⟩
theorem Pr.Mess.swap (h : P.Mess k next) : (⟨P.r, P.l⟩ : Pr).Mess k next := by
  obtain ⟨oa, ga, ob, gb, da, db, hi⟩ := h.inv
  exact ⟨⟨_, _, _, _, _, _, hi.swap⟩, h.r, h.l, h.nr, h.nl⟩
theorem Pr.Mess.mono (h : P.Mess k next) {j nx : Nat} (hj : k ≤ j) (hn : next ≤ nx) : P.Mess j nx := ⟨h.inv, h.l.mono hj, h.r.mono hj, Nat.lt_of_lt_of_le h.nl hn, Nat.lt_of_lt_of_le h.nr hn⟩
theorem Pr.Mess.offerL (h : P.Mess k next) (ok : P.Ok N) {c : Nat} (hc : c < 2) (b : BitVec 8) : (⟨P.l.offer c b, P.r⟩ : Pr).Mess (k + 1) next := by
  obtain ⟨oa, ga, ob, gb, da, db, hi⟩ := h.inv
  refine ⟨?_, h.l.offer ok.l hc b, h.r.mono (by omega), by show (P.l.offer c b).prt.inc < next; rw [offer_inc]; exact h.nl, h.nr⟩
  rcases Pr.Inv.offerL hi ok hc b with ⟨e, _⟩ | ⟨_, _, h⟩
  · rw [e]; exact ⟨_, _, _, _, _, _, hi⟩
  · exact ⟨_, _, _, _, _, _, h⟩
theorem Pr.Mess.takeL (h : P.Mess k next) (ok : P.Ok N) {c : Nat} (hc : c < 2) : (⟨P.l.take c, P.r⟩ : Pr).Mess k next := by
  obtain ⟨oa, ga, ob, gb, da, db, hi⟩ := h.inv
  refine ⟨?_, h.l.take ok.l hc, h.r, by show (P.l.take c).prt.inc < next; rw [take_inc]; exact h.nl, h.nr⟩
  rcases Pr.Inv.takeL hi ok hc with ⟨e, _⟩ | ⟨_, _, _, h⟩
  · rw [e]; exact ⟨_, _, _, _, _, _, hi⟩
  · exact ⟨_, _, _, _, _, _, h⟩
theorem Pr.Mess.act (h : P.Mess k next) (ok : P.Ok N) (e : Nat) : (P.act e).Mess (k + 1) next := by
  unfold Pr.act
  split
  · unfold Pr.offer
    split
    · exact h.offerL ok (Nat.mod_lt _ (by decide)) _
    · exact (Pr.Mess.offerL h.swap ok.swap (Nat.mod_lt _ (by decide)) _).swap
  · split
    · unfold Pr.take
      split
      · exact (h.takeL ok (Nat.mod_lt _ (by decide))).mono (by omega) (Nat.le_refl _)
      · exact (Pr.Mess.takeL h.swap ok.swap (Nat.mod_lt _ (by decide))).swap.mono (by omega) (Nat.le_refl _)
    · exact h.mono (by omega) (Nat.le_refl _)
/-- a side restarts -/
def Nd.again (n : Nd) (i : Nat) : Nd := { n with prt := newPrt i n.prt.rooms n.prt.window n.prt.timeout n.prt.dead }
def Pr.again (P : Pr) (s i : Nat) : Pr := if s = 0 then { P with l := P.l.again i } else { P with r := P.r.again i }
theorem rep_mem {n : Nat} {l : List Bytes} (h : l ∈ List.replicate n ([] : List Bytes)) : l = [] := (List.mem_replicate.1 h).2
theorem Nd.Ok.again {n : Nd} (h : n.Ok N) (hN : 200 ≤ N) {i : Nat} (h1 : 1 ≤ i) (h2 : i ≤ 1099511627775) : (n.again i).Ok N := by
  refine ⟨(newPrt_ok h.ok.n1 h.ok.n4 h.ok.rm h1 h2 h.ok.w1 h.ok.w2 h.ok.t1 h.ok.t2 h.ok.d1 h.ok.d2).mono hN, rfl, h.two, h.fl, h.f1, ⟨fun l hl d hd => ?_, fun l hl d hd => ?_, fun f hf => by cases hf⟩, h.o2, h.g2, h.ol, h.gl⟩
  · obtain ⟨c, _, rfl⟩ := List.mem_map.1 hl
    have e : (List.replicate n.prt.rooms.length ([] : List Bytes)).getD c [] = [] := by
      rw [List.getD, List.getElem?_replicate]
      split <;> rfl
    have hd : d ∈ [] ++ (List.replicate n.prt.rooms.length ([] : List Bytes)).getD c [] := hd
    rw [e] at hd; cases hd
  · have hl : l ∈ List.replicate n.prt.rooms.length ([] : List Bytes) := hl
    rw [rep_mem hl] at hd; cases hd
theorem Pr.Ok.again (h : P.Ok N) (hN : 200 ≤ N) (s : Nat) {i : Nat} (h1 : 1 ≤ i) (h2 : i ≤ 1099511627775) : (P.again s i).Ok N := by
  unfold Pr.again
  split
  · exact ⟨h.l.again hN h1 h2, h.r⟩
  · exact ⟨h.l, h.r.again hN h1 h2⟩
theorem Pr.Mess.againL (h : P.Mess k next) : (⟨P.l.again next, P.r⟩ : Pr).Mess k (next + 1) := by
  obtain ⟨oa, ga, ob, gb, da, db, wa, wb, ea, eb, hb⟩ := h.inv
  exact ⟨⟨_, _, _, _, _, _, wa, wb, ea, eb, hb.restart h.nl _ _ _ _⟩, ⟨⟨_, new_cons _ _ _ _ _, Nat.zero_le _⟩, h.l.tmo, h.l.dead, h.l.room⟩, h.r, Nat.lt_succ_self _, Nat.lt_succ_of_lt h.nr⟩
theorem Pr.Mess.again (h : P.Mess k next) (s : Nat) : (P.again s next).Mess k (next + 1) := by
  unfold Pr.again
  split
  · exact h.againL
  · exact (Pr.Mess.againL h.swap).swap
theorem Pr.Mess.over (h : P.Mess k next) : P.l.prt.overflows = 0 ∧ P.r.prt.overflows = 0 := by
  obtain ⟨oa, ga, ob, gb, da, db, wa, wb, ea, eb, hb⟩ := h.inv
  exact hb.over
theorem newPr_mess (room window : Nat) : (newPr room window).Mess 0 30 := ⟨⟨_, _, _, _, _, _, newPr_good room window⟩, (newNd_sum _ _ _).fewer, (newNd_sum _ _ _).fewer, by show (10 : Nat) < 30; decide, by show (20 : Nat) < 30; decide⟩
/-- the pair is up and empty; j frames of each class of each side were offered since, and one more of the first i -/
structure Stage (P : Pr) (j i : Nat) : Prop where
  way : ∃ (wa wb : List Way) (Ol Gl Or Gr : Nat → List Bytes) (da db : Nat → Nat), wa.map (·.2) = P.l.fly ∧ wb.map (·.2) = P.r.fly ∧ Both P.l.prt P.r.prt wa wb (fun c => Ol c ++ P.l.os c) (fun c => Gl c ++ P.l.gs c) (fun c => Or c ++ P.r.os c) (fun c => Gr c ++ P.r.gs c) da db ∧ Idle P.l.prt P.r.prt wa wb
  l : ∃ k, P.l.Few k
  r : ∃ k, P.r.Few k
  gl : P.l.got = [[], []]
  gr : P.r.got = [[], []]
  ol : ∀ c, c < 2 → (P.l.off.getD c []).length = j + (if 2 * c < i then 1 else 0) ∧ (P.l.prt.waiting.getD c []).length = j + (if 2 * c < i then 1 else 0)
  or' : ∀ c, c < 2 → (P.r.off.getD c []).length = j + (if 2 * c + 1 < i then 1 else 0) ∧ (P.r.prt.waiting.getD c []).length = j + (if 2 * c + 1 < i then 1 else 0)
theorem nil2 (c : Nat) : (([[], []] : List Bytes).getD c []) = [] := by
  match c with
  | 0 => rfl
  | 1 => rfl
  | c + 2 => rfl
/-- after the events, a while without losses: the pair is idle; what was offered and taken is forgotten -/
def Pr.fresh (P : Pr) : Pr := ⟨{ P.l with off := [[], []], got := [[], []] }, { P.r with off := [[], []], got := [[], []] }⟩
theorem Nd.Ok.fresh {n : Nd} (h : n.Ok N) : ({ n with off := [[], []], got := [[], []] } : Nd).Ok N := by
  have h2 : ∀ l ∈ ([[], []] : List Bytes), l.length ≤ N := fun l hl => by
    rcases List.mem_cons.1 hl with rfl | hl
    · exact Nat.zero_le _
    · rw [List.mem_singleton.1 hl]; exact Nat.zero_le _
  exact ⟨h.ok, h.min, h.two, h.fl, h.f1, h.one, rfl, rfl, h2, h2⟩
theorem Pr.Ok.fresh (h : P.Ok N) : P.fresh.Ok N := ⟨h.l.fresh, h.r.fresh⟩
theorem serves_few (hl : P.l.Few k) (hr : P.r.Few k) (ok : P.Ok N) : ∀ n, (serves P n).l.Few k ∧ (serves P n).r.Few k
  | 0 => ⟨hl, hr⟩
  | n + 1 => by
    obtain ⟨h1, h2⟩ := serves_few hl hr ok n
    have o := serves_ok ok n
    have ok' := o.tick 0 0
    have t1 : ((serves P n).tick 0 0).l.Few k := h1.ticked o.l o.r _
    have t2 : ((serves P n).tick 0 0).r.Few k := h2.ticked o.r o.l _
    exact ⟨(t1.take ok'.l (c := 0) (by decide)).take (ok'.l.take (c := 0) (by decide)) (c := 1) (by decide), (t2.take ok'.r (c := 0) (by decide)).take (ok'.r.take (c := 0) (by decide)) (c := 1) (by decide)⟩
theorem mess_stage (h : P.Mess k next) (ok : P.Ok N) (hN : N ≤ 100000000) (hk : k ≤ 1000) {n : Nat} (hn : 17 * k + 18 ≤ n) : Stage (serves P n).fresh 0 0 := by
  obtain ⟨oa, ga, ob, gb, da, db, hi⟩ := h.inv
  obtain ⟨ml, cl, hml⟩ := h.l.cons
  obtain ⟨mr, cr, hmr⟩ := h.r.cons
  have F := pair_full hi ok hN cl cr h.l.tmo h.r.tmo (by rw [h.l.dead]; decide) (by rw [h.r.dead]; decide) h.l.room h.r.room hml hmr (by omega) hn
  obtain ⟨Ba, Bb, g, ma, mb⟩ := pair_run hi ok
  have hup := g.up_at (n := n) (by show 2 ≤ P.l.prt.side.dead; rw [cl.dd, h.l.dead]; decide) (by show 2 ≤ P.r.prt.side.dead; rw [cr.dd, h.r.dead]; decide) (by omega)
  obtain ⟨oa', ga', ob', gb', da', db', hb⟩ := (g.at n).both
  have e : ∀ B : Nat → List Way, ways B 1 n = B n := fun B => by unfold ways; simp
  rw [e, e] at hb
  have fa := hup.fa 0 (by decide)
  have fb := hup.fb 0 (by decide)
  rw [Nat.add_zero] at fa fb
  obtain ⟨f1, f2⟩ := serves_few h.l h.r ok n
  have hz : ∀ f : Nat → List Bytes, (fun c => f c ++ sing (([[], []] : List Bytes).getD c [])) = f := fun f => by funext c; rw [nil2]; exact List.append_nil _
  refine ⟨⟨Ba n, Bb n, oa', ga', ob', gb', da', db', ma n, mb n, ?_, ⟨hup.lk, fa, fb, F.ka, F.kb, F.ba, F.bb⟩⟩, ?_, ?_, rfl, rfl, fun c hc => ⟨by show (([[], []] : List Bytes).getD c []).length = _; rw [nil2]; rfl, ?_⟩, fun c hc => ⟨by show (([[], []] : List Bytes).getD c []).length = _; rw [nil2]; rfl, ?_⟩⟩
  · show Both _ _ _ _ (fun c => oa' c ++ sing (([[], []] : List Bytes).getD c [])) (fun c => ga' c ++ sing (([[], []] : List Bytes).getD c [])) (fun c => ob' c ++ sing (([[], []] : List Bytes).getD c [])) (fun c => gb' c ++ sing (([[], []] : List Bytes).getD c [])) _ _
    rw [hz, hz, hz, hz]
    exact hb
  · exact ⟨k, f1.cons, f1.tmo, f1.dead, f1.room⟩
  · exact ⟨k, f2.cons, f2.tmo, f2.dead, f2.room⟩
  · show ((serves P n).l.prt.waiting.getD c []).length = _
    rw [F.wa c (by rw [(serves_ok ok n).l.two]; exact hc)]; rfl
  · show ((serves P n).r.prt.waiting.getD c []).length = _
    rw [F.wb c (by rw [(serves_ok ok n).r.two]; exact hc)]; rfl
theorem Stage.turn {j : Nat} (h : Stage P j 4) : Stage P (j + 1) 0 := by
  refine ⟨h.way, h.l, h.r, h.gl, h.gr, fun c hc => ?_, fun c hc => ?_⟩
  · have := h.ol c hc
    rw [if_pos (by omega)] at this
    rw [if_neg (by omega)]
    exact this
  · have := h.or' c hc
    rw [if_pos (by omega)] at this
    rw [if_neg (by omega)]
    exact this
theorem Stage.offer {j i : Nat} (h : Stage P j i) (ok : P.Ok N) (hj : j < 60) (hi : i < 4) (b : BitVec 8) : Stage (P.offer (i % 2) (i / 2) b) j (i + 1) := by
  have hc : i / 2 < 2 := by omega
  obtain ⟨wa, wb, Ol, Gl, Or, Gr, da, db, ea, eb, hb, hd⟩ := h.way
  unfold Pr.offer
  by_cases hs : i % 2 = 0
  · rw [if_pos hs]
    obtain ⟨l1, l2⟩ := h.ol (i / 2) hc
    rw [if_neg (by omega)] at l1 l2
    obtain ⟨kf, hfew⟩ := h.l
    have hfew := hfew.offer ok.l hc b
    rcases offer_cases ok.l hc b with ⟨x, _⟩ | ⟨_, e⟩
    · omega
    · rw [e] at hfew ⊢
      have hwl : i / 2 < P.l.prt.waiting.length := by rw [ok.l.ok.wl, ok.l.two]; exact hc
      have hol : i / 2 < P.l.off.length := by rw [ok.l.o2]; exact hc
      refine ⟨⟨wa, wb, Ol, Gl, Or, Gr, da, db, ea, eb, ?_, ⟨hd.lk, hd.fa, hd.fb, hd.ka, hd.kb, hd.ba, hd.bb⟩⟩, ⟨_, hfew⟩, h.r, h.gl, h.gr, fun c hc' => ?_, fun c hc' => ?_⟩
      · have := hb.offer hwl [b]
        show Both _ _ _ _ (fun k => Ol k ++ sing ((P.l.off.set (i / 2) (P.l.off.getD (i / 2) [] ++ [b])).getD k [])) _ _ _ _ _
        rw [os_set hol]
        exact this
      · dsimp only
        rw [getD_set _ _ _ _ _ hol, getD_set _ _ _ _ _ hwl]
        obtain ⟨q1, q2⟩ := h.ol c hc'
        by_cases e : i / 2 = c
        · rw [if_pos e, if_pos e, List.length_append, List.length_append, l1, l2, if_pos (by omega)]; exact ⟨rfl, rfl⟩
        · rw [if_neg e, if_neg e, q1, q2]
          by_cases h2 : 2 * c < i
          · rw [if_pos h2, if_pos (by omega)]; exact ⟨rfl, rfl⟩
          · rw [if_neg h2, if_neg (by omega)]; exact ⟨rfl, rfl⟩
      · obtain ⟨q1, q2⟩ := h.or' c hc'
        rw [show (if 2 * c + 1 < i + 1 then 1 else 0) = if 2 * c + 1 < i then 1 else 0 by
          by_cases h2 : 2 * c + 1 < i
          · rw [if_pos h2, if_pos (by omega)]
          · rw [if_neg h2, if_neg (by omega)]]
        exact ⟨q1, q2⟩
  · rw [if_neg hs]
    obtain ⟨l1, l2⟩ := h.or' (i / 2) hc
    rw [if_neg (by omega)] at l1 l2
    obtain ⟨kf, hfew⟩ := h.r
    have hfew := hfew.offer ok.r hc b
    rcases offer_cases ok.r hc b with ⟨x, _⟩ | ⟨_, e⟩
    · omega
    · rw [e] at hfew ⊢
      have hwl : i / 2 < P.r.prt.waiting.length := by rw [ok.r.ok.wl, ok.r.two]; exact hc
      have hol : i / 2 < P.r.off.length := by rw [ok.r.o2]; exact hc
      refine ⟨⟨wa, wb, Ol, Gl, Or, Gr, da, db, ea, eb, ?_, ⟨hd.lk, hd.fa, hd.fb, hd.ka, hd.kb, hd.ba, hd.bb⟩⟩, h.l, ⟨_, hfew⟩, h.gl, h.gr, fun c hc' => ?_, fun c hc' => ?_⟩
      · have := (hb.swap.offer hwl [b]).swap
        show Both _ _ _ _ _ _ (fun k => Or k ++ sing ((P.r.off.set (i / 2) (P.r.off.getD (i / 2) [] ++ [b])).getD k [])) _ _ _
        rw [os_set hol]
        exact this
      · obtain ⟨q1, q2⟩ := h.ol c hc'
        rw [show (if 2 * c < i + 1 then 1 else 0) = if 2 * c < i then 1 else 0 by
          by_cases h2 : 2 * c < i
          · rw [if_pos h2, if_pos (by omega)]
          · rw [if_neg h2, if_neg (by omega)]]
        exact ⟨q1, q2⟩
      · dsimp only
        rw [getD_set _ _ _ _ _ hol, getD_set _ _ _ _ _ hwl]
        obtain ⟨q1, q2⟩ := h.or' c hc'
        by_cases e : i / 2 = c
        · rw [if_pos e, if_pos e, List.length_append, List.length_append, l1, l2, if_pos (by omega)]; exact ⟨rfl, rfl⟩
        · rw [if_neg e, if_neg e, q1, q2]
          by_cases h2 : 2 * c + 1 < i
          · rw [if_pos h2, if_pos (by omega)]; exact ⟨rfl, rfl⟩
          · rw [if_neg h2, if_neg (by omega)]; exact ⟨rfl, rfl⟩
/-- the three frames of each class arrive -/
theorem stage_done (h : Stage P 3 0) (ok : P.Ok N) (hN : N ≤ 100000000) {n : Nat} (hn : 66 ≤ n) :
    (∀ c, c < 2 → (serves P n).r.got.getD c [] = (serves P n).l.off.getD c [] ∧ (serves P n).l.got.getD c [] = (serves P n).r.off.getD c []) ∧ (∀ c, c < 2 → ((serves P n).l.off.getD c []).length = 3 ∧ ((serves P n).r.off.getD c []).length = 3) ∧
      (serves P n).l.prt.side.state = 2 ∧ (serves P n).r.prt.side.state = 2 ∧ (serves P n).l.prt.overflows = 0 ∧ (serves P n).r.prt.overflows = 0 := by
  obtain ⟨wa, wb, Ol, Gl, Or, Gr, da, db, ea, eb, hb, hd⟩ := h.way
  obtain ⟨kl, fl⟩ := h.l
  obtain ⟨kr, fr⟩ := h.r
  obtain ⟨ml, cl, _⟩ := fl.cons
  obtain ⟨mr, cr, _⟩ := fr.cons
  have hol : ∀ c, c < 2 → (P.l.off.getD c []).length = 3 ∧ (P.l.prt.waiting.getD c []).length = 3 := fun c hc => by have := h.ol c hc; rwa [if_neg (by omega)] at this
  have hor : ∀ c, c < 2 → (P.r.off.getD c []).length = 3 ∧ (P.r.prt.waiting.getD c []).length = 3 := fun c hc => by have := h.or' c hc; rwa [if_neg (by omega)] at this
  obtain ⟨F, hg⟩ := pair_after ea eb hb hd ok hN cl cr fl.tmo fr.tmo fl.dead fr.dead fl.room fr.room (fun c => by rw [h.gl, nil2]) (fun c => by rw [h.gr, nil2]) hol hor hn
  obtain ⟨o1, o2⟩ := serves_off ok n
  obtain ⟨_, _, _, _, hbn⟩ := serves_goodG (P := P) (Ol := Ol) (Gl := Gl) (Or := Or) (Gr := Gr) (da := da) (db := db) ⟨wa, wb, ea, eb, hb⟩ ok n
  rw [o1, o2]
  exact ⟨hg, fun c hc => ⟨(hol c hc).1, (hor c hc).1⟩, F.ua, F.ub, hbn.over.1, hbn.over.2⟩
end
end Go.Proofs.Ytcocnfbhileheaa

/- A flow with a delay of one tick, in which no timeout strikes, in numbers: what can be sent is sent soon. No program in sight. -/
namespace Go.Proofs.Ytcocnfbhileheaa

section
variable {tm wd cl : Nat} {R A K P T W : Nat → Nat} {s l w fr re : Nat → Nat → Nat} {base room : Nat → Nat}
/-- all that is kept is under way, and no timeout is near -/
def Tight (R A K P T : Nat → Nat) (n : Nat) : Prop := P n = K n ∧ R (n + 1) = A n + K n ∧ T n ≤ 1 ∧ (T n = 1 → R n = A n + K n)
theorem Flow0.tight (h : Flow0 1 tm wd cl R A K P T W s l w fr re base room) (htm : 3 ≤ tm) (h0 : P 0 = K 0 ∧ R 1 = A 0 + K 0 ∧ T 0 = 0) : ∀ n, Tight R A K P T n
  | 0 => ⟨h0.1, h0.2.1, by rw [h0.2.2]; exact Nat.zero_le _, fun e => by rw [h0.2.2] at e; cases e⟩
  | n + 1 => by
    obtain ⟨i1, i2, i3, i4⟩ := h.tight htm h0 n
    obtain ⟨ch, k1, p1, t1, e1, e2, E3, e4, e5, e6, e7⟩ := h.step n
    have hch : ch = 0 ∨ ch = 1 := by
      rcases e6 with ⟨e, _⟩ | e
      · exact .inl e
      · exact .inr e
    clear e6
    have hup := h.up n
    have ht1 : t1 ≤ 1 ∧ (t1 = 1 → T n = 1 ∧ A (n + 1) = A n) := by
      by_cases hA : A (n + 1) = A n
      · have := E3.1 hA
        exact ⟨by omega, fun e => ⟨by omega, hA⟩⟩
      · have := E3.2 hA
        exact ⟨by omega, fun e => by omega⟩
    clear E3
    have hlow := h.low (n + 1)
    unfold Tight
    rw [show n + 1 + 1 = n + 2 by omega] at e7 ⊢
    rcases e7 with ⟨q0, q1, q2, q3⟩ | ⟨q0, q1, q2, q3, q4, q5⟩ | ⟨q0, q1, q2, q3, q4, q5⟩ | ⟨q0, q1, q2, q3⟩
    · refine ⟨by omega, by omega, by omega, fun _ => by omega⟩
    · have ht : t1 = 0 := by
        apply Classical.byContradiction
        intro hne
        obtain ⟨x1, x2⟩ := ht1.2 (by omega)
        have x3 := i4 x1
        cases n with
        | zero => omega
        | succ m =>
          have := h.ack m
          omega
      refine ⟨by omega, by omega, by omega, fun _ => by omega⟩
    · omega
    · refine ⟨by omega, ?_, by omega, fun e => by omega⟩
      rcases q3 with ⟨q3, q4⟩ | ⟨q3, q4⟩
      · omega
      · omega
/-- what can be sent is sent within three ticks -/
theorem Flow0.next3 (h : Flow0 1 tm wd cl R A K P T W s l w fr re base room) (ht : ∀ n, Tight R A K P T n) {C : Nat → Nat} (hC : ∀ n c, c < cl → s n c + w n c = C c) {n c : Nat} (hc : c < cl) (hw : 0 < w n c)
    (he : base c + s n c < room c + fr (n + 1) c ∨ ∀ m, fr m c = re m c) : A n + K n + 1 ≤ A (n + 3) + K (n + 3) := by
  apply Classical.byContradiction
  intro hno
  have h1 := h.hmono (show n ≤ n + 1 by omega)
  have h2 := h.hmono (show n + 1 ≤ n + 2 by omega)
  have h3 := h.hmono (show n + 2 ≤ n + 3 by omega)
  have keep : ∀ j, A j + K j = A n + K n → A (j + 1) + K (j + 1) = A n + K n → ∀ c, s (j + 1) c = s j c := fun j hj1 hj2 => by
    obtain ⟨ch, k1, p1, t1, e1, e2, -, e4, e5, e6, -⟩ := h.step j
    have hup := h.up j
    rcases e6 with ⟨_, _, e6⟩ | e6
    · exact e6
    · exfalso; clear e2; omega
  have s1 := keep n rfl (by omega) c
  have s2 := keep (n + 1) (by omega) (by rw [show n + 1 + 1 = n + 2 by omega]; omega) c
  rw [show n + 1 + 1 = n + 2 by omega] at s2
  have w2 : 0 < w (n + 2) c := by
    have x0 := hC n c hc
    have x2 := hC (n + 2) c hc
    omega
  obtain ⟨ch, k1, p1, t1, e1, e2, -, e4, e5, e6, -⟩ := h.step (n + 2)
  have hup := h.up (n + 2)
  rw [show n + 2 + 1 = n + 3 by omega] at *
  have ha := h.ack (n + 1)
  rw [show n + 1 + 1 = n + 2 by omega, show n + 2 + 1 = n + 3 by omega] at ha
  have hr2 := (ht (n + 1)).2.1
  rw [show n + 1 + 1 = n + 2 by omega] at hr2
  have hr1 := (ht n).2.1
  rcases e6 with ⟨_, e6 | e6, _⟩ | e6
  · have := h.wd1
    clear e2; omega
  · have e6 := (e6 c hc).resolve_left (by omega)
    have d3 := h.crd (n + 1) c hc
    rw [show n + 1 + 1 + 1 = n + 3 by omega] at d3
    rcases he with he | he
    · clear e2; omega
    · have d1 := he (n + 1)
      have d2 := h.got (n + 1) c hc (by omega)
      have d4 := h.rm c hc
      clear e2; omega
  · clear e2; omega
/-- two classes, one of them taken at once, the other not: as much as there is room for is sent -/
theorem Flow0.reach (h : Flow0 1 tm wd 2 R A K P T W s l w fr re base room) (ht : ∀ n, Tight R A K P T n) {C : Nat → Nat} (hC : ∀ n c, c < 2 → s n c + w n c = C c) (hH : ∀ n, A n + K n = s n 0 + s n 1) (h1 : ∀ m, fr m 1 = re m 1)
    {X F n0 n1 : Nat} (hF : ∀ m, n0 ≤ m → F ≤ fr m 0) (hX : X ≤ C 0 ∧ base 0 + X ≤ room 0 + F) (hs : ∀ n, n ≤ n1 → s n 0 ≤ X) : ∀ j, j ≤ X + C 1 → n0 + 3 * j ≤ n1 → j ≤ A (n0 + 3 * j) + K (n0 + 3 * j)
  | 0, _, _ => Nat.zero_le _
  | j + 1, hj, hn1 => by
    have ih := h.reach ht hC hH h1 hF hX hs j (by omega) (by omega)
    rcases Nat.lt_or_ge j (A (n0 + 3 * j) + K (n0 + 3 * j)) with hlt | hge
    · exact Nat.le_trans hlt (h.hmono (by omega))
    · have c0 := hC (n0 + 3 * j) 0 (by decide)
      have c1 := hC (n0 + 3 * j) 1 (by decide)
      have hh := hH (n0 + 3 * j)
      have x0 := hs (n0 + 3 * j) (by omega)
      have hn : A (n0 + 3 * j) + K (n0 + 3 * j) + 1 ≤ A (n0 + 3 * j + 3) + K (n0 + 3 * j + 3) := by
        rcases Nat.lt_or_ge (s (n0 + 3 * j) 1) (C 1) with h2 | h2
        · exact h.next3 ht hC (c := 1) (by decide) (by omega) (.inr h1)
        · have := hF (n0 + 3 * j + 1) (by omega)
          exact h.next3 ht hC (c := 0) (by decide) (by omega) (.inl (by omega))
      rw [show n0 + 3 * (j + 1) = n0 + 3 * j + 3 by omega]
      omega
theorem Flow0.reached (h : Flow0 1 tm wd 2 R A K P T W s l w fr re base room) (ht : ∀ n, Tight R A K P T n) {C : Nat → Nat} (hC : ∀ n c, c < 2 → s n c + w n c = C c) (hH : ∀ n, A n + K n = s n 0 + s n 1) (h1 : ∀ m, fr m 1 = re m 1)
    {X F n0 n1 : Nat} (hF : ∀ m, n0 ≤ m → F ≤ fr m 0) (hX : X ≤ C 0 ∧ base 0 + X ≤ room 0 + F) (hs : ∀ n, n ≤ n1 → s n 0 ≤ X) {n : Nat} (hn : n0 + 3 * (X + C 1) ≤ n) (hn1 : n ≤ n1) : s n 0 = X ∧ s n 1 = C 1 ∧ R (n + 1) = X + C 1 := by
  have h2 := h.reach ht hC hH h1 hF hX hs (X + C 1) (Nat.le_refl _) (by omega)
  have h3 := h.hmono hn
  have h4 := hH n
  have h5 := hs n hn1
  have h6 := hC n 1 (by decide)
  have h7 := (ht n).2.1
  omega
end
end Go.Proofs.Ytcocnfbhileheaa

/- A port that has not yet sent or received a frame; the first ticks of a new pair. No program in sight. -/
namespace Go.Proofs.Ytcocnfbhileheaa

structure Unsent (p : Prt) : Prop where
  snd : p.snd = newSnd p.window p.timeout
  kept : p.kept = []
  rcv : p.rcv = 0
  tak : ∀ c, p.tk c = ⟨0, 0⟩
  gv : ∀ c, c < p.rooms.length → p.gv c = ⟨p.rooms.getD c 0, 0, 0⟩
  bs : ∀ c, p.bs c = 0
  buf : ∀ c, p.buffer.getD c [] = []
section
variable {N : Nat} {p : Prt}
theorem Unsent.begin (h : Unsent p) (i : Nat) : Unsent (p.begin i) := by
  refine ⟨rfl, rfl, rfl, begin_tk p i, fun c hc => ?_, fun c => ?_, h.buf⟩
  · show ((List.range p.rooms.length).map fun c => Giv.held ⟨p.rooms.getD c 0, 0, 0⟩ (p.buffer.getD c []).length).getD c ⟨0, 0, 0⟩ = _
    rw [List.getD, List.getElem?_map, List.getElem?_range (show c < p.rooms.length from hc)]
    show Giv.held ⟨p.rooms.getD c 0, 0, 0⟩ (p.buffer.getD c []).length = _
    rw [h.buf]; rfl
  · show (p.buffer.map List.length).getD c 0 = 0
    have := h.buf c
    rw [List.getD] at this ⊢
    rw [List.getElem?_map]
    cases hx : p.buffer[c]? with
    | none => rfl
    | some l =>
      rw [hx] at this
      have this : l = [] := this
      subst this; rfl
theorem Unsent.side (h : Unsent p) (s : Side) : Unsent { p with side := s } := ⟨h.snd, h.kept, h.rcv, h.tak, h.gv, h.bs, h.buf⟩
theorem Unsent.handle (h : Unsent p) {y : Pt} (hy : y.kind = 1#8) : Unsent (p.handle y) ∧ ∀ c, (p.handle y).waiting.getD c [] = p.waiting.getD c [] := by
  unfold Prt.handle
  rw [if_pos hy]
  unfold Prt.greet
  dsimp only
  split
  · refine ⟨(h.side _).begin _, fun c => ?_⟩
    rw [begin_waiting (a := { p with side := p.side.receive y.number y.value }) (fun f hf => by
      have hf : f ∈ p.kept := hf
      rw [h.kept] at hf; cases hf)]
    show frm c p.kept ++ p.waiting.getD c [] = _
    rw [h.kept]; rfl
  · exact ⟨h.side _, fun c => rfl⟩
theorem Unsent.handles : ∀ {p : Prt} (l : List Pt), (∀ y ∈ l, y.kind = 1#8) → Unsent p → Unsent (l.foldl Prt.handle p) ∧ ∀ c, (l.foldl Prt.handle p).waiting.getD c [] = p.waiting.getD c []
  | _, [], _, h => ⟨h, fun _ => rfl⟩
  | p, y :: l, hl, h => by
    obtain ⟨h1, h2⟩ := h.handle (hl y (List.mem_cons_self ..))
    obtain ⟨h3, h4⟩ := Unsent.handles l (fun z hz => hl z (List.mem_cons_of_mem _ hz)) h1
    rw [List.foldl_cons]
    exact ⟨h3, fun c => (h4 c).trans (h2 c)⟩
theorem Unsent.tick (h : Unsent p) (ok : p.Ok N) {l : List Pt} (hl : ∀ y ∈ l, y.kind = 1#8) (hp : ∀ y ∈ l, y.pay.length ≤ 1000) :
    Unsent (p.tick l).2 ∧ (∀ c, (p.tick l).2.waiting.getD c [] = p.waiting.getD c []) ∧ ∀ y ∈ (p.tick l).1, ¬ y.kind = 2#8 := by
  obtain ⟨h1, h2⟩ := Unsent.handles l hl h
  have ok1 := ok.handles l hp
  obtain ⟨a, ha⟩ : ∃ a, a = l.foldl Prt.handle p := ⟨_, rfl⟩
  rw [← ha] at h1 h2 ok1
  by_cases hs : a.side.tick.state = 2
  · rw [Prt.tick_up ha hs]
    have hc : ∃ r, Prt.choose { a with side := a.side.tick } = { a with side := a.side.tick, arb := r } := by
      rcases Prt.choose_eq (show Prt.Ok (N + 200 * l.length) { a with side := a.side.tick } from ok1.sideTick) with ⟨r, e⟩ | ⟨c, d, w, r, _, _, x3, _⟩
      · exact ⟨r, e⟩
      · have x3 : (a.tk c).sent < (a.tk c).limit := x3
        rw [h1.tak c] at x3; exact absurd x3 (Nat.lt_irrefl _)
    obtain ⟨r, e⟩ := hc
    rw [e]
    dsimp only
    have hk : a.snd.tick = (none, a.snd) := by
      unfold Snd.tick
      rw [if_pos (by rw [h1.snd]; rfl)]
    rw [hk]
    refine ⟨⟨h1.snd, h1.kept, h1.rcv, h1.tak, h1.gv, h1.bs, h1.buf⟩, h2, fun y hy => ?_⟩
    rcases List.mem_cons.1 hy with rfl | hy
    · exact kk12
    · rcases List.mem_cons.1 hy with rfl | hy
      · exact kk32
      · obtain ⟨c, _, rfl⟩ := List.mem_map.1 hy
        exact kk42
  · rw [Prt.tick_down ha hs]
    refine ⟨h1.side _, h2, fun y hy => ?_⟩
    rw [List.mem_singleton.1 hy]; exact kk12
/-- a port that is not up sends greetings alone -/
theorem sent_down {l : List Pt} (h : (p.tick l).2.side.state ≠ 2) : ∀ y ∈ (p.tick l).1, y.kind = 1#8 := by
  obtain ⟨a, ha⟩ : ∃ a, a = l.foldl Prt.handle p := ⟨_, rfl⟩
  by_cases hs : a.side.tick.state = 2
  · exfalso
    apply h
    rw [Prt.tick_up ha hs]
    have c1 := (choose_side { a with side := a.side.tick }).1
    have h2 : (Prt.choose { a with side := a.side.tick }).side.state = 2 := by rw [c1]; exact hs
    split
    · exact h2
    · exact h2
  · rw [Prt.tick_down ha hs]
    intro y hy
    rw [List.mem_singleton.1 hy]
end
section
variable {a b : Nat → Prt} {Ba Bb : Nat → List Way}
/-- the first two ticks: greetings alone -/
theorem Go.first (g : Go 1 a b Ba Bb) (hB : Bb 0 = []) (hA : Ba 0 = []) (sa : (a 0).side = newSide (a 0).inc (a 0).dead) (sb : (b 0).side = newSide (b 0).inc (b 0).dead) (hd : 2 ≤ (a 0).side.dead) :
    ∀ n, n ≤ 2 → ∀ y ∈ (Ba n).map (·.2), y.kind = 1#8 := fun n hn => by
  have e : ∀ n, (Ba (n + 1)).map (·.2) = ((a n).tick ((Bb n).map (·.2))).1 := fun n => by rw [g.ba n, List.map_map]; exact List.map_id _
  have e' : ∀ n, (Bb (n + 1)).map (·.2) = ((b n).tick ((Ba n).map (·.2))).1 := fun n => by rw [g.bb n, List.map_map]; exact List.map_id _
  have s1 : ((a 0).tick ((Bb 0).map (·.2))).2.side = newSide (a 0).inc (a 0).dead := by
    rw [hB]
    by_cases h : (a 0).side.tick.state = 2
    · rw [sa] at h; cases h
    · show ((a 0).tick []).2.side = _
      rw [Prt.tick_down (a := a 0) (l := []) (a1 := a 0) rfl h, sa]; rfl
  have s2 : ((b 0).tick ((Ba 0).map (·.2))).2.side = newSide (b 0).inc (b 0).dead := by
    rw [hA]
    by_cases h : (b 0).side.tick.state = 2
    · rw [sb] at h; cases h
    · show ((b 0).tick []).2.side = _
      rw [Prt.tick_down (a := b 0) (l := []) (a1 := b 0) rfl h, sb]; rfl
  obtain rfl | rfl | rfl : n = 0 ∨ n = 1 ∨ n = 2 := by omega
  · rw [hA]; intro y hy; cases hy
  · rw [e 0]
    refine sent_down ?_
    rw [s1]
    exact (by decide : (0 : Nat) ≠ 2)
  · rw [e 1]
    refine sent_down ?_
    obtain ⟨hg, _⟩ := g.swap.greets 0
    have hb1 : (b (0 + 1)).side.peer = 0 := by rw [(g.nb 0).eq]; show ((b 0).tick ((Ba 0).map (·.2))).2.side.peer = 0; rw [s2]; rfl
    rw [hb1] at hg
    obtain ⟨N, ok⟩ := (g.at 1).okA
    obtain ⟨NB, okB⟩ := g.okB
    have A1 := g.at 1
    have hs1 : (a 1).side = newSide (a 0).inc (a 0).dead := by
      have : (a 1).side = ((a 0).tick ((Bb 0).map (·.2))).2.side := by rw [(g.na 0).eq]
      rw [this, s1]
    obtain ⟨c1, _, c3⟩ := g.kinds 1
    have hgr := (g.greets 1).2
    have := (tick_greeted (a := a 1) ok A1.minA (by rw [c3]; exact hd) okB.i1 okB.i2 (by rw [hs1]; exact Nat.zero_le _) hgr (show Greets (b 0).inc 0 ((Bb 1).map (·.2)) from hg)).2.2.1
    rw [this, if_neg (by rw [c1]; have := (g.okA); obtain ⟨N, o⟩ := this; have := o.i1; omega)]
    decide
end
end Go.Proofs.Ytcocnfbhileheaa

/- A pair of ports of which one side takes nothing of a class: the run. No program in sight. -/
namespace Go.Proofs.Ytcocnfbhileheaa

/-- a tick without losses, then a frame of class 1 is taken at the right side -/
def Pr.wait (P : Pr) : Pr := (P.tick 0 0).take 1 1
/-- behind the fortieth tick a frame of class 0 is taken, too -/
def stops (P : Pr) : Nat → Pr
  | 0 => P
  | n + 1 => if n = 39 then (stops P n).wait.take 1 0 else (stops P n).wait
/-- such a run -/
def IsStops (S : Nat → Pr) : Prop := ∀ n, S (n + 1) = if n = 39 then (S n).wait.take 1 0 else (S n).wait
theorem take_r (P : Pr) (c : Nat) : P.take 1 c = ⟨P.l, P.r.take c⟩ := rfl
section
variable {N k : Nat} {P : Pr}
theorem Pr.Ok.wait (h : P.Ok N) : P.wait.Ok (N + 2005) := ((h.tick 0 0).take 1 (by decide)).mono (by omega)
variable {S : Nat → Pr}
theorem stops_ok (hS : IsStops S) (h : (S 0).Ok N) : ∀ n, (S n).Ok (N + 2010 * n)
  | 0 => h
  | n + 1 => by
    have := (stops_ok hS h n).wait
    rw [hS n]
    split
    · exact (this.take 1 (c := 0) (by decide)).mono (by omega)
    · exact this.mono (by omega)
theorem stops_good (hS : IsStops S) (h : (S 0).Good) (ok : (S 0).Ok N) : ∀ n, (S n).Good
  | 0 => h
  | n + 1 => by
    have o := stops_ok hS ok n
    have := ((stops_good hS h ok n).tick o 0 0).take (o.tick 0 0) 1 (c := 1) (by decide)
    rw [hS n]
    split
    · exact Pr.Good.take this o.wait 1 (c := 0) (by decide)
    · exact this
theorem stops_sum (hS : IsStops S) (h : (S 0).Sum k) (ok : (S 0).Ok N) : ∀ n, (S n).Sum k
  | 0 => h
  | n + 1 => by
    have o := stops_ok hS ok n
    have := ((stops_sum hS h ok n).tick o 0 0).take (o.tick 0 0) 1 (c := 1) (by decide)
    rw [hS n]
    split
    · exact Pr.Sum.take this o.wait 1 (c := 0) (by decide)
    · exact this
theorem stops_l (hS : IsStops S) (n : Nat) : (S (n + 1)).l = ((S n).tick 0 0).l := by
  rw [hS n]
  split <;> rfl
theorem stops_r (hS : IsStops S) (ok : (S 0).Ok N) (n : Nat) : Took ((S n).tick 0 0).r.prt (S (n + 1)).r.prt ∧ (S (n + 1)).r.fly = ((S n).tick 0 0).r.fly ∧
    (S (n + 1)).r.prt.buffer.getD 1 [] = (((S n).tick 0 0).r.prt.buffer.getD 1 []).drop 1 ∧
    (S (n + 1)).r.prt.buffer.getD 0 [] = (((S n).tick 0 0).r.prt.buffer.getD 0 []).drop (if n = 39 then 1 else 0) := by
  have o := (stops_ok hS ok n).tick 0 0
  obtain ⟨a1, a2, a3, a4⟩ := take_leaves o.r (c := 1) (by decide)
  obtain ⟨b1, b2, b3, b4⟩ := take_leaves (o.r.take (c := 1) (by decide)) (c := 0) (by decide)
  have e1 := a4 1; have e0 := a4 0; have f1 := b4 1; have f0 := b4 0
  rw [if_pos rfl] at e1 f0
  rw [if_neg (by decide)] at e0 f1
  rw [hS n]
  by_cases h : n = 39
  · rw [if_pos h, if_pos h]
    exact ⟨a1.trans b1, b2.trans a2, f1.trans e1, f0.trans (by rw [e0])⟩
  · rw [if_neg h, if_neg h]
    exact ⟨a1, a2, e1, e0⟩
end
/-- any run of a pair without losses -/
theorem pair_go {N : Nat} {S : Nat → Pr} {oa ga ob gb : Nat → List Bytes} {da db : Nat → Nat} (hl : ∀ n, Took ((S n).tick 0 0).l.prt (S (n + 1)).l.prt ∧ (S (n + 1)).l.fly = ((S n).tick 0 0).l.fly) (hr : ∀ n, Took ((S n).tick 0 0).r.prt (S (n + 1)).r.prt ∧ (S (n + 1)).r.fly = ((S n).tick 0 0).r.fly) (ok : (S 0).Ok N)
    {wa wb : List Way} (ea : wa.map (·.2) = (S 0).l.fly) (eb : wb.map (·.2) = (S 0).r.fly) (hb : Both (S 0).l.prt (S 0).r.prt wa wb oa ga ob gb da db) :
    ∃ Ba Bb, Go 1 (fun n => (S n).l.prt) (fun n => (S n).r.prt) Ba Bb ∧ (∀ n, (Ba n).map (·.2) = (S n).l.fly) ∧ (∀ n, (Bb n).map (·.2) = (S n).r.fly) ∧ Ba 0 = wa ∧ Bb 0 = wb := by
  have hfl : ∀ n, (S (n + 1)).l.fly = ((S n).l.prt.tick (S n).r.fly).1 := fun n => by rw [(hl n).2, tick_l]
  have hfr : ∀ n, (S (n + 1)).r.fly = ((S n).r.prt.tick (S n).l.fly).1 := fun n => by rw [(hr n).2, tick_r]
  obtain ⟨Ba, hBa⟩ : ∃ Ba : Nat → List Way, ∀ n, Ba n = match n with | 0 => wa | n + 1 => ((S n).l.prt.tick (S n).r.fly).1.map fun y => (((S n).l.prt.tick (S n).r.fly).2.tag, y) := ⟨_, fun _ => rfl⟩
  obtain ⟨Bb, hBb⟩ : ∃ Bb : Nat → List Way, ∀ n, Bb n = match n with | 0 => wb | n + 1 => ((S n).r.prt.tick (S n).l.fly).1.map fun y => (((S n).r.prt.tick (S n).l.fly).2.tag, y) := ⟨_, fun _ => rfl⟩
  have ma : ∀ n, (Ba n).map (·.2) = (S n).l.fly := fun n => by
    rw [hBa]
    cases n with
    | zero => exact ea
    | succ n => rw [hfl]; dsimp only; rw [List.map_map]; exact List.map_id _
  have mb : ∀ n, (Bb n).map (·.2) = (S n).r.fly := fun n => by
    rw [hBb]
    cases n with
    | zero => exact eb
    | succ n => rw [hfr]; dsimp only; rw [List.map_map]; exact List.map_id _
  refine ⟨Ba, Bb, ⟨Nat.le_refl _, fun n => ?_, fun n => ?_, fun n => ?_, fun n => ?_, ⟨_, ok.l.ok⟩, ⟨_, ok.r.ok⟩, ok.l.min, ok.r.min, fun j hj p hp => ?_, fun j hj p hp => ?_, oa, ga, ob, gb, da, db, ?_⟩, ma, mb, hBa 0, hBb 0⟩
  · rw [mb n, hBa]
  · rw [ma n, hBb]
  · rw [mb n]
    have := (hl n).1
    rwa [tick_l] at this
  · rw [ma n]
    have := (hr n).1
    rwa [tick_r] at this
  · obtain rfl : j = 0 := by omega
    refine Nat.le_trans (ok.l.f1 p.2 ?_).1 (by decide)
    rw [← ma 0]
    exact List.mem_map.2 ⟨p, hp, rfl⟩
  · obtain rfl : j = 0 := by omega
    refine Nat.le_trans (ok.r.f1 p.2 ?_).1 (by decide)
    rw [← mb 0]
    exact List.mem_map.2 ⟨p, hp, rfl⟩
  · have e : ∀ B : Nat → List Way, ways B 1 0 = B 0 := fun B => by unfold ways; simp
    rw [e, e, hBa, hBb]
    exact hb
section
variable {D : Nat} {a b : Nat → Prt} {Ba Bb : Nat → List Way}
/-- all that was given to the sender, class by class -/
theorem Go.hsum (g : Go D a b Ba Bb) (u : Up D a b Ba Bb 0) (_ : (a 0).rooms.length = 2) (hr : (b 0).rooms.length = 2) (n : Nat) : (a n).snd.acked + (a n).snd.kept.length = ((a n).tk 0).sent + ((a n).tk 1).sent := by
  obtain ⟨oa, ga, ob, gb, da, db, hA, tA, hB, tB, ⟨w1, _⟩, _, _⟩ := (g.at n).both
  have hup := g.up_all u n
  obtain ⟨N, ok⟩ := (g.at n).okA
  have hl := w1.lnk hup.lk.1 hup.lk.2
  have h1 : (a n).kept.length = (a n).snd.kept.length := by rw [← ok.kept, List.length_map]
  have h3 := congrArg List.length hl.kept
  rw [List.length_drop] at h3
  have h4 := hl.ack; have h5 := w1.rc.rt; have h6 := w1.rc.tl
  have h7 := cnt_sum 2 hA fun f hf => by have := w1.rc.cls f hf; rw [(g.swap.kinds n).2.1] at this; omega
  have h8 : cnt hA 0 + (cnt hA 1 + 0) = hA.length := h7
  rw [hl.sent 0, hl.sent 1]
  omega
/-- no more is sent than there is room for -/
theorem Go.within (g : Go D a b Ba Bb) (u : Up D a b Ba Bb 0) (n c : Nat) (hc : c < (a 0).rooms.length) (hcb : c < (b 0).rooms.length) : (b 0).bs c + ((a n).tk c).sent ≤ (b 0).rooms.getD c 0 + ((b n).gv c).freed := by
  obtain ⟨oa, ga, ob, gb, da, db, hA, tA, hB, tB, ⟨w1, _⟩, _, _⟩ := (g.at n).both
  have hup := g.up_all u n
  obtain ⟨N, ok⟩ := (g.at n).okA
  have hl := w1.lnk hup.lk.1 hup.lk.2
  have h1 := hl.lim c
  have hcn : c < (a n).rooms.length := by rw [(g.kinds n).2.1]; exact hc
  have h2 := (getD_all (P := fun t : Tak => t.sent ≤ t.limit ∧ t.limit ≤ 1099511627776) (d := ⟨0, 0⟩) ok.tak ⟨Nat.le_refl _, Nat.zero_le _⟩ c).1
  have h3 := w1.rc.rm c (by rw [(g.swap.kinds n).2.1]; exact hcb)
  rw [(g.swap.kinds n).2.1] at h3
  have h4 : (b n).bs c = (b 0).bs c := by unfold Prt.bs; rw [(g.swap.const u.swap n).2.2.2.1]
  unfold Giv.limit at h1
  have h2 : ((a n).tk c).sent ≤ ((a n).tk c).limit := h2
  omega
end
end Go.Proofs.Ytcocnfbhileheaa

/- A side that takes nothing of a class receives as much as it has room, and one frame more after it took one. No program in sight. -/
namespace Go.Proofs.Ytcocnfbhileheaa

theorem take_more {N : Nat} {n : Nd} (h : n.Ok N) {c : Nat} (hc : c < 2) (hb : 0 < (n.prt.buffer.getD c []).length) : ((n.take c).got.getD c []).length = (n.got.getD c []).length + 1 := by
  rcases take_cases h hc with ⟨e, _⟩ | ⟨x, l, _, _, _, e⟩
  · rw [e] at hb; cases hb
  · rw [e]
    show ((n.got.set c (n.got.getD c [] ++ [x])).getD c []).length = _
    rw [getD_set _ _ _ _ _ (by rw [h.g2]; exact hc), if_pos rfl, List.length_append]; rfl
theorem stops_end {rc tk bl gr gf sn r0 gl : Nat} (c : rc = tk + bl) (t : tk = gl) (g : gl = 1) (hb : gr = gf + bl) (hf : gf = gl) (hg : gr = 0 + sn) (hp : sn = r0 + 1) : rc = r0 + 1 ∧ tk = 1 := by omega
theorem wait_r (P : Pr) : P.wait.r = (P.tick 0 0).r.take 1 := rfl
theorem tickr_got (P : Pr) : (P.tick 0 0).r.got = P.r.got := rfl
theorem take_got {N : Nat} {n : Nd} (h : n.Ok N) {c k : Nat} (hc : c < 2) (hk : k ≠ c) : (n.take c).got.getD k [] = n.got.getD k [] := by
  rcases take_cases h hc with ⟨_, _, e⟩ | ⟨x, l, _, _, _, e⟩
  · rw [e]
  · rw [e]
    show (n.got.set c _).getD k [] = _
    rw [getD_set _ _ _ _ _ (by rw [h.g2]; exact hc), if_neg fun e => hk e.symm]
section
variable {N k : Nat} {S : Nat → Pr}
theorem stops_got0 (hS : IsStops S) (ok : (S 0).Ok N) (n : Nat) : (S (n + 1)).r.got.getD 0 [] = if n = 39 then (((S n).wait).r.take 0).got.getD 0 [] else (S n).r.got.getD 0 [] := by
  have o := (stops_ok hS ok n).tick 0 0
  have e : (S n).wait.r.got.getD 0 [] = (S n).r.got.getD 0 [] := take_got o.r (c := 1) (k := 0) (by decide) (by decide)
  rw [hS n]
  split
  · rfl
  · exact e
/-- what is taken is counted by the credits -/
theorem stops_freed {Ba Bb : Nat → List Way} (hS : IsStops S) (h : (S 0).Good) (ok : (S 0).Ok N) {m : Nat} (g : Go 1 (fun n => (S (n + m)).l.prt) (fun n => (S (n + m)).r.prt) Ba Bb) (u : Up 1 (fun n => (S (n + m)).l.prt) (fun n => (S (n + m)).r.prt) Ba Bb 0)
    (ma : ∀ n, (Ba n).map (·.2) = (S (n + m)).l.fly) (n : Nat) {k : Nat} (hk : k < 2) :
    ((S (n + m)).r.got.getD k []).length + ((S (0 + m)).r.prt.gv k).freed = ((S (0 + m)).r.got.getD k []).length + ((S (n + m)).r.prt.gv k).freed := by
  induction n with
  | zero => rfl
  | succ n ih =>
    have o := (stops_ok hS ok (n + m)).tick 0 0
    have ow := (stops_ok hS ok (n + m)).wait
    obtain ⟨_, b2⟩ := inv_bal (Pr.Inv.tick (stops_good hS h ok (n + m)) (stops_ok hS ok (n + m)) 0 0) o
    obtain ⟨c1, c2⟩ := take_bal o.r b2 (c := 1) (by decide)
    have t1 := c2 k hk
    have f2 := g.swap.freed u.swap n k
    rw [ma n] at f2
    have e2 : ((S (n + m)).tick 0 0).r.prt = ((S (n + m)).r.prt.tick (S (n + m)).l.fly).2 := rfl
    have e4 : ((S (n + m)).tick 0 0).r.got = (S (n + m)).r.got := rfl
    rw [e2, e4, f2] at t1
    rw [show n + 1 + m = n + m + 1 by omega]
    have t1 : ((S (n + m)).wait.r.got.getD k []).length + ((S (n + m)).r.prt.gv k).freed = ((S (n + m)).r.got.getD k []).length + ((S (n + m)).wait.r.prt.gv k).freed := t1
    rw [hS (n + m)]
    split
    · obtain ⟨_, d2⟩ := take_bal ow.r c1 (c := 0) (by decide)
      have t2 := d2 k hk
      have t2 : (((S (n + m)).wait.take 1 0).r.got.getD k []).length + ((S (n + m)).wait.r.prt.gv k).freed = ((S (n + m)).wait.r.got.getD k []).length + (((S (n + m)).wait.take 1 0).r.prt.gv k).freed := t2
      omega
    · omega
end
/-- data make a buffer longer by one frame at most -/
theorem recvs_len {i : Nat} {ds : List Pt} (h : IsData i ds) (p : Prt) (c : Nat) : ((p.recvs ds).buffer.getD c []).length ≤ (p.buffer.getD c []).length + 1 := by
  rcases h with rfl | ⟨_, _, _, rfl⟩
  · exact Nat.le_succ _
  · show ((p.receive _).buffer.getD c []).length ≤ _
    unfold Prt.receive
    split
    · exact Nat.le_succ _
    · dsimp only
      split
      · exact Nat.le_succ _
      · dsimp only
        rcases Nat.lt_or_ge (Int.toNat _) p.buffer.length with hl | hl
        · rw [getD_set _ _ _ _ _ hl]
          split
          · rename_i e; subst e; rw [List.length_append]; exact Nat.le_refl _
          · exact Nat.le_succ _
        · rw [List.set_eq_of_length_le hl]; exact Nat.le_succ _
section
variable {N k r0 : Nat} {P : Pr}
/-- the pair of the law before its first tick -/
structure Start (P : Pr) (r0 : Nat) : Prop where
  good : P.Good
  fl : P.l.fly = []
  fr : P.r.fly = []
  sl : P.l.prt.side = newSide P.l.prt.inc P.l.prt.dead
  sr : P.r.prt.side = newSide P.r.prt.inc P.r.prt.dead
  ul : Unsent P.l.prt
  ur : Unsent P.r.prt
  tm : 3 ≤ P.l.prt.timeout
  w0 : (P.l.prt.waiting.getD 0 []).length = r0 + 3
  w1 : (P.l.prt.waiting.getD 1 []).length = 3
  room : P.r.prt.rooms.getD 0 0 = r0
  r1 : 1 ≤ r0
  r4 : r0 ≤ 4
  gr : P.r.got = [[], []]
set_option maxHeartbeats 4000000 in
theorem stops_done {S : Nat → Pr} (hS : IsStops S) (hP : S 0 = P) (h : Start P r0) (ok : P.Ok N) (_ : N ≤ 100000000) (sm : P.Sum 20) :
    ((S 39).wait.r.prt.received.getD 0 0 = r0 ∧ ((S 39).wait.r.got.getD 1 []).length = 3) ∧ (S 80).r.prt.received.getD 0 0 = r0 + 1 ∧ (S 80).r.prt.taken.getD 0 0 = 1 := by
  subst hP
  obtain ⟨wa, wb, ea, eb, hb⟩ := h.good
  have hl : ∀ n, Took ((S n).tick 0 0).l.prt (S (n + 1)).l.prt ∧ (S (n + 1)).l.fly = ((S n).tick 0 0).l.fly := fun n => by rw [stops_l hS]; exact ⟨.refl, rfl⟩
  have hr : ∀ n, Took ((S n).tick 0 0).r.prt (S (n + 1)).r.prt ∧ (S (n + 1)).r.fly = ((S n).tick 0 0).r.fly := fun n => ⟨(stops_r hS ok n).1, (stops_r hS ok n).2.1⟩
  obtain ⟨Ba, Bb, g, ma, mb, ea0, eb0⟩ := pair_go (S := S) hl hr ok ea eb hb
  have hdl : 2 ≤ (S 0).l.prt.side.dead := by rw [sm.l.cons.dd, sm.l.dead]; decide
  have hdr : 2 ≤ (S 0).r.prt.side.dead := by rw [sm.r.cons.dd, sm.r.dead]; decide
  have nilA : Ba 0 = [] := List.map_eq_nil_iff.1 ((ma 0).trans h.fl)
  have nilB : Bb 0 = [] := List.map_eq_nil_iff.1 ((mb 0).trans h.fr)
  have fA := g.first nilB nilA h.sl h.sr hdl
  have fB := g.swap.first nilA nilB h.sr h.sl hdr
  have un : ∀ n, n ≤ 3 → (Unsent (S n).l.prt ∧ (∀ c, (S n).l.prt.waiting.getD c [] = (S 0).l.prt.waiting.getD c [])) ∧ Unsent (S n).r.prt := fun n => by
    induction n with
    | zero => intro _; exact ⟨⟨h.ul, fun _ => rfl⟩, h.ur⟩
    | succ n ih =>
      intro hn
      obtain ⟨⟨i1, i2⟩, i3⟩ := ih (by omega)
      have o := stops_ok hS ok n
      have t1 := i1.tick o.l.ok (fB n (by omega)) (g.greets n).2
      have t2 := i3.tick o.r.ok (fA n (by omega)) (g.swap.greets n).2
      have e1 := (g.na n).eq
      have e2 : (S (n + 1)).l.prt = ((S n).l.prt.tick ((Bb n).map (·.2))).2 := by rw [stops_l hS, mb n]; rfl
      refine ⟨⟨by rw [e2]; exact t1.1, fun c => by rw [e2, t1.2.1, i2]⟩, ?_⟩
      -- nothing is in the buffers: nothing is taken
      have e3 : (S (n + 1)).r = ((S n).tick 0 0).r := by
        have hbuf : ((S n).tick 0 0).r.prt.buffer.getD 1 [] = [] := by
          have e : ((S n).tick 0 0).r.prt = ((S n).r.prt.tick ((Ba n).map (·.2))).2 := by rw [ma n]; rfl
          rw [e]; exact t2.1.buf 1
        have hq : (S (n + 1)) = (S n).wait := by rw [hS n, if_neg (by omega)]
        rw [hq]
        show (((S n).tick 0 0).r.take 1) = _
        rcases take_cases (o.tick 0 0).r (c := 1) (by decide) with ⟨_, _, e⟩ | ⟨x, l, e, _⟩
        · exact e
        · rw [hbuf] at e; cases e
      rw [e3]
      have e : ((S n).tick 0 0).r.prt = ((S n).r.prt.tick ((Ba n).map (·.2))).2 := by rw [ma n]; rfl
      rw [e]; exact t2.1
  obtain ⟨⟨ul3, wl3⟩, ur3⟩ := un 3 (by decide)
  have nodata : ∀ y ∈ (Ba (0 + 3)).map (·.2), ¬ y.kind = 2#8 := by
    have t1 := (un 2 (by decide)).1.1.tick (stops_ok hS ok 2).l.ok (fB 2 (by decide)) (g.greets 2).2
    have e : (Ba (0 + 3)).map (·.2) = ((S 2).l.prt.tick ((Bb 2).map (·.2))).1 := by
      rw [show 0 + 3 = 2 + 1 by rfl, g.ba 2, List.map_map]; exact List.map_id _
    rw [e]; exact t1.2.2
  have u3 := g.up_at (n := 0 + 3) hdl hdr (by decide)
  have g3 := g.shift 3
  have u := Up.shift (n := 0) (m := 3) u3
  have ok3 := stops_ok hS ok (0 + 3)
  have sm3 := stops_sum hS sm ok (0 + 3)
  have htmo : ∀ n, (S n).l.prt.timeout = (S 0).l.prt.timeout := fun n => by
    induction n with
    | zero => rfl
    | succ n ih => rw [stops_l hS]; exact (tick_tmo _ _).trans ih
  have hroom : ∀ n, (S n).r.prt.rooms = (S 0).r.prt.rooms := fun n => (g.swap.kinds n).2.1
  have hfew := sm3.l.cons.few ok3.l.ok
  rw [ok3.l.two] at hfew
  have hfew2 := sm3.l.few
  have hsum2 : ((List.range 2).map fun c => ((S (0 + 3)).l.off.getD c []).length).sum = ((S (0 + 3)).l.off.getD 0 []).length + ((S (0 + 3)).l.off.getD 1 []).length := rfl
  have hfrd := fun n k hk => stops_freed hS h.good ok (m := 3) g3 u (fun n => ma (n + 3)) n (k := k) hk
  have hgot0 : ∀ n, n ≤ 39 → (S n).r.got.getD 0 [] = [] := fun n => by
    induction n with
    | zero => intro _; show (S 0).r.got.getD 0 [] = []; rw [h.gr]; rfl
    | succ n ih => intro hn; rw [stops_got0 hS ok n, if_neg (by omega)]; exact ih (by omega)
  have hgot3 : ∀ c, c < 2 → ((S (0 + 3)).r.got.getD c []).length + ((S (0 + 3)).r.prt.gv c).freed = 0 := fun c hc => by
    have h1 := ur3.gv c (by rw [ok3.r.two]; exact hc)
    have h2 := ur3.buf c
    have h3 := sm3.r.tak c hc
    have h4 := sm3.r.cons.got c (by rw [ok3.r.two]; exact hc)
    have hz : ∀ n, n ≤ 3 → ((S n).r.got.getD c []).length = 0 := fun n => by
      induction n with
      | zero => intro _; show ((S 0).r.got.getD c []).length = 0; rw [h.gr, nil2]; rfl
      | succ n ih =>
        intro hn
        have hq : (S (n + 1)) = (S n).wait := by rw [hS n, if_neg (by omega)]
        have o := (stops_ok hS ok n).tick 0 0
        rw [hq]
        show ((((S n).tick 0 0).r.take 1).got.getD c []).length = 0
        have hbuf : ((S n).tick 0 0).r.prt.buffer.getD 1 [] = [] := by
          have e : ((S n).tick 0 0).r.prt = ((S n).r.prt.tick ((Ba n).map (·.2))).2 := by rw [ma n]; rfl
          rw [e]; exact ((un n (by omega)).2.tick (stops_ok hS ok n).r.ok (fA n (by omega)) (g.swap.greets n).2).1.buf 1
        rcases take_cases o.r (c := 1) (by decide) with ⟨_, _, e⟩ | ⟨x, l, e, _⟩
        · rw [e]; exact ih (by omega)
        · rw [hbuf] at e; cases e
    have hz3 := hz 3 (by decide)
    have h1' : ((S (0 + 3)).r.prt.gv c).freed = 0 := by rw [h1]
    show ((S 3).r.got.getD c []).length + _ = 0
    omega
  -- the numbers of the run
  obtain ⟨a, ha⟩ : ∃ a : Nat → Prt, (fun n => (S (n + 3)).l.prt) = a := ⟨_, rfl⟩
  obtain ⟨b, hbb⟩ : ∃ b : Nat → Prt, (fun n => (S (n + 3)).r.prt) = b := ⟨_, rfl⟩
  have xa : ∀ n, (S (n + 3)).l.prt = a n := fun n => congrFun ha n
  have xb : ∀ n, (S (n + 3)).r.prt = b n := fun n => congrFun hbb n
  rw [ha, hbb] at g3 u
  have ula : Unsent (a 0) := by rw [← xa]; exact ul3
  have urb : Unsent (b 0) := by rw [← xb]; exact ur3
  have za : (a 0).rooms.length = 2 := by rw [← xa]; exact ok3.l.two
  have zb : (b 0).rooms.length = 2 := by rw [← xb]; exact ok3.r.two
  have rb : (b 0).rooms.getD 0 0 = r0 := by rw [← xb, hroom]; exact h.room
  have hk0 : (a 0).snd.kept.length = 0 := by rw [ula.snd]; rfl
  have ha0 : (a 0).snd.acked = 0 := by rw [ula.snd]; rfl
  have hp0 : (a 0).snd.pos = 0 := by rw [ula.snd]; rfl
  have ht0 : (a 0).snd.timer = 0 := by rw [ula.snd]; rfl
  have htm0 : 3 ≤ (a 0).snd.timeout := by
    rw [ula.snd]
    show 3 ≤ (a 0).timeout
    rw [← xa, htmo]; exact h.tm
  have hwt0 : wt (a 0) ≤ 20 := by rw [← xa]; omega
  have F0 := g3.flow0 u (by rw [za, zb]) (by omega)
  have hr1 : (b 1).rcv = 0 := by
    obtain ⟨t, l, ds, ds', q, e, ti, ts, hds, hds', r1, r3, htick, ht, htk⟩ := g3.swap.turn u.swap
    have hds0 : ds = [] := by
      rcases hds with e' | ⟨c, n, d, e'⟩
      · exact e'
      · exfalso
        refine nodata ⟨2#8, c, n, ((a 0).inc : Int), d⟩ ?_ rfl
        have e : Ba (0 + 3) = _ := e
        rw [e, List.map_map]
        refine List.mem_map.2 ⟨⟨2#8, c, n, ((a 0).inc : Int), d⟩, ?_, rfl⟩
        unfold upB
        rw [e']
        exact List.mem_cons_of_mem _ (List.mem_cons_of_mem _ (List.mem_append_right _ (List.mem_singleton.2 rfl)))
    have e1 : (b (0 + 1)).rcv = q.rcv := by rw [htk.eq]
    show (b (0 + 1)).rcv = 0
    rw [e1, ht.rcv, hds0]
    exact urb.rcv
  rw [za] at F0
  have T := F0.tight htm0 ⟨by show (a 0).snd.pos = (a 0).snd.kept.length; omega, by show (b 1).rcv = (a 0).snd.acked + (a 0).snd.kept.length; omega, ht0⟩
  have hs0 : ∀ c, ((a 0).tk c).sent = 0 := fun c => by rw [ula.tak]
  have hw0 : ((a 0).waiting.getD 0 []).length = r0 + 3 := by rw [← xa]; show ((S 3).l.prt.waiting.getD 0 []).length = _; rw [wl3]; exact h.w0
  have hw1 : ((a 0).waiting.getD 1 []).length = 3 := by rw [← xa]; show ((S 3).l.prt.waiting.getD 1 []).length = _; rw [wl3]; exact h.w1
  have hC : ∀ n c, c < 2 → ((a n).tk c).sent + ((a n).waiting.getD c []).length = ((a 0).waiting.getD c []).length := fun n c hc => by
    have := g3.classes u n (c := c) (by rw [za]; exact hc)
    rw [hs0 c] at this
    omega
  have hH := fun n => g3.hsum u za zb n
  have hbuf1 : ∀ n, (b n).buffer.getD 1 [] = [] := fun n => by
    induction n with
    | zero => exact urb.buf 1
    | succ n ih =>
      have e : (b (n + 1)).buffer.getD 1 [] = (((b n).tick ((Ba (n + 3)).map (·.2))).2.buffer.getD 1 []).drop 1 := by
        have := (stops_r hS ok (n + 3)).2.2.1
        rw [tick_r, ← ma (n + 3)] at this
        rw [← xb, ← xb, show n + 1 + 3 = n + 3 + 1 by omega]
        exact this
      obtain ⟨t, l, ds, ds', q, _, ti, ts, hds, hds', r1, r3, htick, ht, htk⟩ := g3.swap.turn (g3.swap.up_all u.swap n)
      rw [e, htick]
      show (q.buffer.getD 1 []).drop 1 = []
      rw [ht.buffer]
      have := recvs_len hds (b n) 1
      rw [ih] at this
      exact List.drop_eq_nil_of_le this
  have hrecb : ∀ n c, c < 2 → ((b n).gv c).received = ((b n).gv c).freed + ((b n).buffer.getD c []).length := fun n c hc => by
    obtain ⟨oa, ga, ob, gb, da, db, hA, tA, hB, tB, ⟨w1, _⟩, _, _⟩ := (g3.at n).both
    exact w1.rc.buf c (by rw [(g3.swap.kinds n).2.1, zb]; exact hc)
  have h1 : ∀ m, ((b m).gv 1).freed = ((b m).gv 1).received := fun m => by
    have := hrecb m 1 (by decide)
    rw [hbuf1 m] at this
    exact this.symm
  have hfr : ∀ n c, c < 2 → ((b n).gv c).freed = ((S (n + 3)).r.got.getD c []).length := fun n c hc => by
    have := hfrd n c hc
    have h0 := hgot3 c hc
    rw [xb, xb] at this
    rw [xb] at h0
    omega
  have hbs0 : ∀ c, (b 0).bs c = 0 := urb.bs
  have hwithin := fun n => g3.within u n 0 (by rw [za]; decide) (by rw [zb]; decide)
  have hlow : ∀ n, n ≤ 36 → ((a n).tk 0).sent ≤ r0 := fun n hn => by
    have h2 := hwithin n
    have h3 := hfr n 0 (by decide)
    rw [hgot0 (n + 3) (by omega)] at h3
    rw [hbs0, rb, h3] at h2
    have : ([] : Bytes).length = 0 := rfl
    omega
  have R1 := fun (n : Nat) => F0.reached (n := n) T (C := fun c => ((a 0).waiting.getD c []).length) hC hH h1 (X := r0) (F := 0) (n0 := 0) (n1 := 36) (fun m _ => Nat.zero_le _) ⟨by show r0 ≤ ((a 0).waiting.getD 0 []).length; omega, by show (b 0).bs 0 + r0 ≤ (b 0).rooms.getD 0 0 + 0; rw [hbs0, rb]; omega⟩ hlow
  have h4 := h.r4
  have q35 := R1 35 (by show 0 + 3 * (r0 + ((a 0).waiting.getD 1 []).length) ≤ 35; omega) (by decide)
  have q36 := R1 36 (by show 0 + 3 * (r0 + ((a 0).waiting.getD 1 []).length) ≤ 36; omega) (by decide)
  try dsimp only at q35 q36
  rw [hw1] at q35 q36
  have hH36 := hH 36
  have g0 := F0.got 36 0 (by decide) (by show (b 36).rcv = (a 36).snd.acked + (a 36).snd.kept.length; have := q35.2.2; have : (b 36).rcv = r0 + 3 := this; omega)
  have g1 := F0.got 36 1 (by decide) (by show (b 36).rcv = (a 36).snd.acked + (a 36).snd.kept.length; have := q35.2.2; have : (b 36).rcv = r0 + 3 := this; omega)
  have g0 : ((b 36).gv 0).received = (b 0).bs 0 + ((a 36).tk 0).sent := g0
  have g1 : ((b 36).gv 1).received = (b 0).bs 1 + ((a 36).tk 1).sent := g1
  rw [hbs0] at g0 g1
  have hb36 := hrecb 36 0 (by decide)
  have hf36 := hfr 36 0 (by decide)
  have hf36' := hfr 36 1 (by decide)
  have hg39 := hgot0 39 (by decide)
  rw [show 36 + 3 = 39 by rfl] at hf36 hf36'
  rw [hg39] at hf36
  have hnil : ([] : Bytes).length = 0 := rfl
  -- the fortieth tick brings nothing
  have r36 : (b 36).rcv = r0 + 3 := q35.2.2
  have r37 : (b 37).rcv = r0 + 3 := q36.2.2
  have hsame := (g3.swap.rcv_le u.swap 36).2 (r37.trans r36.symm)
  have htb : ((S 39).tick 0 0).r.prt.buffer = (b 36).buffer := by
    rw [tick_r, ← ma 39]
    have : (((b 36).tick ((Ba (36 + 3)).map (·.2))).2).buffer = (b 36).buffer := hsame
    rw [← xb 36] at this ⊢
    exact this
  have o39 := (stops_ok hS ok 39).tick 0 0
  have hw39 : (S 39).wait.r = ((S 39).tick 0 0).r := by
    rw [wait_r]
    rcases take_cases o39.r (c := 1) (by decide) with ⟨_, _, e⟩ | ⟨x, l, e, _⟩
    · exact e
    · rw [htb, hbuf1] at e; cases e
  have hsw := ((stops_sum hS sm ok 39).tick (stops_ok hS ok 39) 0 0).r
  have hrc := hsw.cons.got 0 (by rw [o39.r.two]; decide)
  have htk := hsw.tak 0 (by decide)
  have hgt : ((S 39).tick 0 0).r.got = (S 39).r.got := tickr_got _
  rw [htb] at hrc
  rw [hgt, hg39] at htk
  have hlen0 : ((b 36).buffer.getD 0 []).length = r0 := by omega
  refine ⟨⟨?_, ?_⟩, ?_⟩
  · rw [hw39]; omega
  · rw [hw39, hgt]
    have := h1 36
    omega
  · -- a frame was taken: one more comes
    have hgot40 : ∀ n, 40 ≤ n → ((S n).r.got.getD 0 []).length = 1 := fun n hn => by
      obtain ⟨m, rfl⟩ : ∃ m, n = m + 40 := ⟨n - 40, by omega⟩
      clear hn
      induction m with
      | zero =>
        rw [show 0 + 40 = 39 + 1 by rfl, stops_got0 hS ok 39, if_pos rfl, hw39]
        rw [take_more o39.r (c := 0) (by decide) (by rw [htb]; have := h.r1; omega), hgt, hg39]
        rfl
      | succ m ih => rw [show m + 1 + 40 = m + 40 + 1 by omega, stops_got0 hS ok (m + 40), if_neg (by omega)]; exact ih
    have hF : ∀ m, 37 ≤ m → 1 ≤ ((b m).gv 0).freed := fun m hm => by rw [hfr m 0 (by decide), hgot40 (m + 3) (by omega)]; exact Nat.le_refl _
    have hle : ∀ n, ((b n).gv 0).freed ≤ 1 := fun n => by
      rw [hfr n 0 (by decide)]
      rcases Nat.lt_or_ge (n + 3) 40 with hh | hh
      · rw [hgot0 (n + 3) (by omega)]; exact Nat.zero_le _
      · rw [hgot40 (n + 3) hh]; exact Nat.le_refl _
    have hlow2 : ∀ n, n ≤ 77 → ((a n).tk 0).sent ≤ r0 + 1 := fun n _ => by
      have h2 := hwithin n
      have h3 := hle n
      rw [hbs0, rb] at h2
      omega
    have R2 := fun (n : Nat) => F0.reached (n := n) T (C := fun c => ((a 0).waiting.getD c []).length) hC hH h1 (X := r0 + 1) (F := 1) (n0 := 37) (n1 := 77) hF ⟨by show r0 + 1 ≤ ((a 0).waiting.getD 0 []).length; omega, by show (b 0).bs 0 + (r0 + 1) ≤ (b 0).rooms.getD 0 0 + 1; rw [hbs0, rb]; omega⟩ hlow2
    have p76 := R2 76 (by first | (rw [hw1]; omega) | (simp only [hw1]; omega)) (by decide)
    have p77 := R2 77 (by first | (rw [hw1]; omega) | (simp only [hw1]; omega)) (by decide)
    try dsimp only at p76 p77
    rw [hw1] at p76 p77
    have hH77 := hH 77
    have g77 := F0.got 77 0 (by decide) (by show (b 77).rcv = (a 77).snd.acked + (a 77).snd.kept.length; have := p76.2.2; have : (b 77).rcv = r0 + 1 + 3 := this; omega)
    have g77 : ((b 77).gv 0).received = (b 0).bs 0 + ((a 77).tk 0).sent := g77
    rw [hbs0] at g77
    have hb77 := hrecb 77 0 (by decide)
    have hf77 := hfr 77 0 (by decide)
    have hg80 := hgot40 80 (by decide)
    rw [show 77 + 3 = 80 by rfl] at hf77
    have s80 := (stops_sum hS sm ok 80).r
    have o80 := stops_ok hS ok 80
    have c80 := s80.cons.got 0 (by rw [o80.r.two]; decide)
    have t80 := s80.tak 0 (by decide)
    have xb77 : (S 80).r.prt = b 77 := xb 77
    rw [xb77] at c80 t80 ⊢
    exact stops_end c80 t80 hg80 hb77 hf77 g77 p77.1
end
end Go.Proofs.Ytcocnfbhileheaa

/- The pair of PortStops: what is offered before the first tick; the ticks of the law's closure (plain). -/
namespace Go.Proofs.Ytcocnfbhileheaa

/-- the ticks of the closure -/
def waits (P : Pr) : Nat → Pr
  | 0 => P
  | n + 1 => (waits P n).wait
theorem waits_stops (P : Pr) : ∀ n, n ≤ 39 → waits P n = stops P n
  | 0, _ => rfl
  | n + 1, h => by
    show (waits P n).wait = if n = 39 then _ else (stops P n).wait
    rw [if_neg (by omega), waits_stops P n (by omega)]
theorem waits_40 (P : Pr) : waits P 40 = (stops P 39).wait := by
  show (waits P 39).wait = _
  rw [waits_stops P 39 (by decide)]
theorem stops_40 (P : Pr) : stops P 40 = (waits P 40).take 1 0 := by
  rw [waits_40]
  show (if 39 = 39 then (stops P 39).wait.take 1 0 else (stops P 39).wait) = _
  rw [if_pos rfl]
theorem waits_more (P : Pr) : ∀ n, waits (stops P 40) n = stops P (40 + n)
  | 0 => rfl
  | n + 1 => by
    show (waits (stops P 40) n).wait = if 40 + n = 39 then _ else (stops P (40 + n)).wait
    rw [if_neg (by omega), waits_more P n]
theorem waits_ok {N : Nat} {P : Pr} (h : P.Ok N) : ∀ n, (waits P n).Ok (N + 2005 * n)
  | 0 => h
  | n + 1 => (waits_ok h n).wait.mono (by omega)
/-- before the first tick: i frames of class 0 and j of class 1 wait at the left side -/
structure Pre (P : Pr) (r0 i j : Nat) : Prop where
  good : P.Good
  ok : P.Ok (200 + 100 * (i + j))
  sum : P.Sum (i + j)
  fl : P.l.fly = []
  fr : P.r.fly = []
  sl : P.l.prt.side = newSide P.l.prt.inc P.l.prt.dead
  sr : P.r.prt.side = newSide P.r.prt.inc P.r.prt.dead
  ul : Unsent P.l.prt
  ur : Unsent P.r.prt
  tm : 3 ≤ P.l.prt.timeout
  w0 : (P.l.prt.waiting.getD 0 []).length = i
  w1 : (P.l.prt.waiting.getD 1 []).length = j
  room : P.r.prt.rooms.getD 0 0 = r0
  gr : P.r.got = [[], []]
theorem new_unsent (i : Nat) (rooms : List Nat) (wi ti de : Nat) : Unsent (newPrt i rooms wi ti de) :=
  ⟨rfl, rfl, rfl, fun c => begin_tk _ _ c, fun c _ => new_gv _ _ _ _ _ c, new_bs _ _ _ _ _, new_buf _ _ _ _ _⟩
theorem newPr_pre (room window : Nat) : Pre (newPr room window) (1 + room % 4) 0 0 :=
  ⟨newPr_good _ _, newPr_ok _ _, newPr_sum _ _, rfl, rfl, rfl, rfl, new_unsent _ _ _ _ _, new_unsent _ _ _ _ _, by show 3 ≤ 3 + window / 8 % 4; omega, by show ((newPrt 10 _ _ _ _).waiting.getD 0 []).length = 0; rw [new_wait]; rfl, by show ((newPrt 10 _ _ _ _).waiting.getD 1 []).length = 0; rw [new_wait]; rfl, rfl, rfl⟩
theorem Pre.offer {P : Pr} {r0 i j : Nat} (h : Pre P r0 i j) {c : Nat} (hc : c < 2) (hi : i < 60) (hj : j < 60) (b : BitVec 8) : Pre (P.offer 0 c b) r0 (if c = 0 then i + 1 else i) (if c = 0 then j else j + 1) := by
  have e : P.offer 0 c b = ⟨P.l.offer c b, P.r⟩ := rfl
  have hg := h.good.offerL h.ok hc b
  have ho := h.ok.offer 0 hc b
  have hs := h.sum.offer h.ok 0 hc b
  rw [e] at ho hs ⊢
  have hk : (if c = 0 then i + 1 else i) + (if c = 0 then j else j + 1) = i + j + 1 := by split <;> omega
  rcases offer_cases h.ok.l hc b with ⟨x, _⟩ | ⟨_, e2⟩
  · obtain rfl | rfl : c = 0 ∨ c = 1 := by omega
    · have := h.w0; omega
    · have := h.w1; omega
  · rw [e2] at hg ho hs ⊢
    have hwl : c < P.l.prt.waiting.length := by rw [h.ok.l.ok.wl, h.ok.l.two]; exact hc
    refine ⟨hg, ho.mono (by omega), by rw [hk]; exact hs, h.fl, h.fr, h.sl, h.sr, ⟨h.ul.snd, h.ul.kept, h.ul.rcv, h.ul.tak, h.ul.gv, h.ul.bs, h.ul.buf⟩, h.ur, h.tm, ?_, ?_, h.room, h.gr⟩
    · show ((P.l.prt.waiting.set c (P.l.prt.waiting.getD c [] ++ [[b]])).getD 0 []).length = _
      rw [getD_set _ _ _ _ _ hwl]
      by_cases e : c = 0
      · subst e; rw [if_pos rfl, if_pos rfl, List.length_append, h.w0]; rfl
      · rw [if_neg e, if_neg e]; exact h.w0
    · show ((P.l.prt.waiting.set c (P.l.prt.waiting.getD c [] ++ [[b]])).getD 1 []).length = _
      rw [getD_set _ _ _ _ _ hwl]
      by_cases e : c = 1
      · subst e; rw [if_pos rfl, if_neg (by decide), List.length_append, h.w1]; rfl
      · rw [if_neg e, if_pos (by omega)]; exact h.w1
/-- what the law reads -/
theorem pre_done {P : Pr} {r0 : Nat} (h : Pre P r0 (r0 + 3) 3) (h1 : 1 ≤ r0) (h4 : r0 ≤ 4) :
    (waits P 40).Ok 200000 ∧ (waits P 40).r.prt.received.getD 0 0 = r0 ∧ ((waits P 40).r.got.getD 1 []).length = 3 ∧ ((waits P 40).take 1 0).Ok 200000 ∧
      (waits ((waits P 40).take 1 0) 40).Ok 400000 ∧ (waits ((waits P 40).take 1 0) 40).Good ∧ (waits ((waits P 40).take 1 0) 40).r.prt.received.getD 0 0 = r0 + 1 ∧ (waits ((waits P 40).take 1 0) 40).r.prt.taken.getD 0 0 = 1 := by
  have hS : IsStops (stops P) := fun _ => rfl
  have st : Start P r0 := ⟨h.good, h.fl, h.fr, h.sl, h.sr, h.ul, h.ur, h.tm, h.w0, h.w1, h.room, h1, h4, h.gr⟩
  obtain ⟨⟨a1, a2⟩, a3, a4⟩ := stops_done hS rfl st h.ok (by omega) (h.sum.mono (by omega))
  have o40 := (waits_ok h.ok 40).mono (show _ ≤ 199000 by omega)
  have e1 := stops_40 P
  have e2 := waits_more P 40
  rw [← waits_40] at a1 a2
  rw [e1] at e2
  rw [show 40 + 40 = 80 by rfl] at e2
  have g80 := stops_good hS h.good h.ok 80
  rw [← e2] at a3 a4 g80
  clear e1 e2
  generalize waits P 40 = Q at *
  have t40 := o40.take 1 (c := 0) (by decide)
  have o80 := waits_ok t40 40
  generalize waits (Q.take 1 0) 40 = R at *
  exact ⟨o40.mono (by omega), a1, a2, t40.mono (by omega), o80.mono (by omega), g80, a3, a4⟩
end Go.Proofs.Ytcocnfbhileheaa
