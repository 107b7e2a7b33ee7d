/- A pair of ports that are up and empty: what is offered then comes to the other side, and nothing else. No program in sight. -/
import Derived.Test.YtcocnfbhileheaaMgK
namespace Go.Proofs.Ytcocnfbhileheaa

section
variable {D : Nat} {a b : Nat → Prt} {Ba Bb : Nat → List Way}
/-- class by class: what was given to the sender and what waits -/
theorem Go.classes (g : Go D a b Ba Bb) (u : Up D a b Ba Bb 0) (n : Nat) {c : Nat} (hc : c < (a 0).rooms.length) : ((a n).tk c).sent + ((a n).waiting.getD c []).length = ((a 0).tk c).sent + ((a 0).waiting.getD c []).length := by
  induction n with
  | zero => rfl
  | succ n ih =>
    obtain ⟨t, l, ds, ds', q, eB, eA, hds', hds, ht, htk, r1, r3, hA1, rK, hs, hrr, ti, ts, Nq, okq⟩ := g.sender u n
    obtain ⟨ch, tk, g1, g2, g3, g4, g5, g6⟩ := ht.send
    obtain ⟨N, ok⟩ := (g.at n).okA
    obtain ⟨c1, c2, _⟩ := g.const u n
    have htak : (a (n + 1)).tk c = q.tak.getD c ⟨0, 0⟩ := by unfold Prt.tk; rw [htk.eq]
    have hwai : (a (n + 1)).waiting = q.waiting := by rw [htk.eq]
    have hsent : (tk.getD c ⟨0, 0⟩).sent = ((a n).tk c).sent := by
      rw [g2 c]
      split
      · exact raise_sent _ _
      · rfl
    rw [← ih, htak, hwai]
    rcases g6 with ⟨_, x1, x2, _⟩ | ⟨k, d, w, _, x1, x2, x3, x4, _⟩
    · rw [x1, x2, hsent]
    · rw [x3, x4, getD_set _ _ _ _ _ (by rw [g1, ok.tl]; exact x1), getD_set _ _ _ _ _ (by rw [ok.wl]; exact x1)]
      by_cases e : k = c
      · subst e
        rw [if_pos rfl, if_pos rfl, x2, List.length_cons]
        show (tk.getD k ⟨0, 0⟩).sent + 1 + w.length = _
        omega
      · rw [if_neg e, if_neg e, hsent]
theorem Go.freed (g : Go D a b Ba Bb) (u : Up D a b Ba Bb 0) (n c : Nat) : (((a n).tick ((Bb n).map (·.2))).2.gv c).freed = ((a n).gv c).freed := by
  obtain ⟨t, l, ds, ds', q, e, ti, ts, hds, hds', r1, r3, htick, ht, htk⟩ := g.turn (g.up_all u n)
  rw [htick]
  show (q.giv.getD c ⟨0, 0, 0⟩).freed = _
  rw [ht.giv]
  exact (recvs_gv hds (a n) c).1
end
section
variable {N : Nat} {P : Pr} {oa ga ob gb : Nat → List Bytes} {da db : Nat → Nat}
/-- what is received is free again or in the buffer -/
def Nd.Bal (n : Nd) : Prop := ∀ c, c < 2 → (n.prt.gv c).received = (n.prt.gv c).freed + (n.prt.buffer.getD c []).length
theorem take_bal {n : Nd} (ok : n.Ok N) (hb : n.Bal) {c : Nat} (hc : c < 2) : (n.take c).Bal ∧ ∀ k, k < 2 → ((n.take c).got.getD k []).length + (n.prt.gv k).freed = (n.got.getD k []).length + ((n.take c).prt.gv k).freed := by
  rcases take_cases ok hc with ⟨_, _, e⟩ | ⟨x, l, h1, _, _, e⟩
  · rw [e]; exact ⟨hb, fun _ _ => rfl⟩
  · have hbc := hb c hc
    rw [h1, List.length_cons] at hbc
    have hfr : (n.prt.gv c).free = { n.prt.gv c with freed := (n.prt.gv c).freed + 1 } := by
      unfold Giv.free
      rw [if_neg (by omega)]
    have hgl : c < n.prt.giv.length := by rw [ok.ok.gl, ok.two]; exact hc
    rw [e]
    refine ⟨fun k hk => ?_, fun k hk => ?_⟩
    · show ((n.prt.giv.set c (n.prt.gv c).free).getD k ⟨0, 0, 0⟩).received = ((n.prt.giv.set c (n.prt.gv c).free).getD k ⟨0, 0, 0⟩).freed + ((n.prt.buffer.set c l).getD k []).length
      rw [getD_set _ _ _ _ _ hgl, getD_set _ _ _ _ _ (by rw [ok.ok.bl, ok.two]; exact hc)]
      by_cases e : c = k
      · subst e
        rw [if_pos rfl, if_pos rfl, hfr]
        show (n.prt.gv c).received = (n.prt.gv c).freed + 1 + l.length
        omega
      · rw [if_neg e, if_neg e]; exact hb k hk
    · show ((n.got.set c (n.got.getD c [] ++ [x])).getD k []).length + _ = _ + ((n.prt.giv.set c (n.prt.gv c).free).getD k ⟨0, 0, 0⟩).freed
      rw [getD_set _ _ _ _ _ hgl, getD_set _ _ _ _ _ (by rw [ok.g2]; exact hc)]
      by_cases e : c = k
      · subst e
        rw [if_pos rfl, if_pos rfl, hfr, List.length_append, List.length_singleton]
        show _ + 1 + _ = _ + ((n.prt.gv c).freed + 1)
        omega
      · rw [if_neg e, if_neg e]
theorem inv_bal (h : P.Inv oa ga ob gb da db) (ok : P.Ok N) : P.l.Bal ∧ P.r.Bal := by
  obtain ⟨wa, wb, _, _, hA, tA, hB, tB, ⟨d1, _⟩, d2, _⟩ := h
  exact ⟨fun c hc => d2.rc.buf c (by rw [ok.l.two]; exact hc), fun c hc => d1.rc.buf c (by rw [ok.r.two]; exact hc)⟩
theorem take2_bal {n : Nd} (ok : n.Ok N) (hb : n.Bal) : ∀ k, k < 2 → (n.take2.got.getD k []).length + (n.prt.gv k).freed = (n.got.getD k []).length + (n.take2.prt.gv k).freed := fun k hk => by
  obtain ⟨a1, a2⟩ := take_bal ok hb (c := 0) (by decide)
  obtain ⟨_, b2⟩ := take_bal (ok.take (c := 0) (by decide)) a1 (c := 1) (by decide)
  have h1 := a2 k hk
  have h2 := b2 k hk
  show (((n.take 0).take 1).got.getD k []).length + _ = _ + (((n.take 0).take 1).prt.gv k).freed
  omega
/-- with what was offered and taken before -/
def Pr.GoodG (P : Pr) (Ol Gl Or Gr : Nat → List Bytes) (da db : Nat → Nat) : Prop := P.Inv (fun c => Ol c ++ P.l.os c) (fun c => Gl c ++ P.l.gs c) (fun c => Or c ++ P.r.os c) (fun c => Gr c ++ P.r.gs c) da db
variable {Ol Gl Or Gr : Nat → List Bytes}
theorem os_set {l : List Bytes} {c : Nat} (hc : c < l.length) (G : Nat → List Bytes) (b : BitVec 8) : (fun k => G k ++ sing ((l.set c (l.getD c [] ++ [b])).getD k [])) = upd (fun k => G k ++ sing (l.getD k [])) c ((G c ++ sing (l.getD c [])) ++ [[b]]) := by
  funext k
  have := congrFun (sing_set hc b) k
  unfold upd at this ⊢
  dsimp only at this
  rw [this]
  by_cases e : k = c
  · subst e; rw [if_pos rfl, if_pos rfl, List.append_assoc]
  · rw [if_neg e, if_neg e]
theorem Pr.GoodG.tick (h : P.GoodG Ol Gl Or Gr da db) (ok : P.Ok N) (lose dbl : Nat) : (P.tick lose dbl).GoodG Ol Gl Or Gr da db := Pr.Inv.tick h ok lose dbl
theorem Pr.GoodG.swap (h : P.GoodG Ol Gl Or Gr da db) : (⟨P.r, P.l⟩ : Pr).GoodG Or Gr Ol Gl db da := Pr.Inv.swap h
theorem Pr.GoodG.takeL (h : P.GoodG Ol Gl Or Gr da db) (ok : P.Ok N) {c : Nat} (hc : c < 2) : (⟨P.l.take c, P.r⟩ : Pr).GoodG Ol Gl Or Gr da db := by
  rcases Pr.Inv.takeL h ok hc with ⟨e, _⟩ | ⟨x, e1, e2, h⟩
  · rw [e]; exact h
  · unfold Pr.GoodG Nd.os Nd.gs
    rw [e1, e2, os_set (by rw [ok.l.g2]; exact hc) Gl]
    exact h
theorem Pr.GoodG.take (h : P.GoodG Ol Gl Or Gr da db) (ok : P.Ok N) (s : Nat) {c : Nat} (hc : c < 2) : (P.take s c).GoodG Ol Gl Or Gr da db := by
  unfold Pr.take
  split
  · exact h.takeL ok hc
  · exact (Pr.GoodG.takeL h.swap ok.swap hc).swap
theorem Pr.GoodG.serve (h : P.GoodG Ol Gl Or Gr da db) (ok : P.Ok N) : P.serve.GoodG Ol Gl Or Gr da db :=
  ((((h.tick ok 0 0).take (ok.tick 0 0) 0 (by decide)).take ((ok.tick 0 0).take 0 (by decide)) 1 (by decide)).take (((ok.tick 0 0).take 0 (by decide)).take 1 (by decide)) 0 (by decide)).take ((((ok.tick 0 0).take 0 (by decide)).take 1 (by decide)).take 0 (by decide)) 1 (by decide)
theorem serves_goodG (h : P.GoodG Ol Gl Or Gr da db) (ok : P.Ok N) : ∀ n, (serves P n).GoodG Ol Gl Or Gr da db
  | 0 => h
  | n + 1 => (serves_goodG h ok n).serve (serves_ok ok n)
/-- what comes in a run is counted by the credits -/
theorem serves_freed {Ba Bb : Nat → List Way} (h : P.GoodG Ol Gl Or Gr da db) (ok : P.Ok N) (g : Go 1 (fun n => (serves P n).l.prt) (fun n => (serves P n).r.prt) Ba Bb) (u : Up 1 (fun n => (serves P n).l.prt) (fun n => (serves P n).r.prt) Ba Bb 0)
    (ma : ∀ n, (Ba n).map (·.2) = (serves P n).l.fly) (mb : ∀ n, (Bb n).map (·.2) = (serves P n).r.fly) (n : Nat) {k : Nat} (hk : k < 2) :
    (((serves P n).l.got.getD k []).length + (P.l.prt.gv k).freed = (P.l.got.getD k []).length + ((serves P n).l.prt.gv k).freed) ∧ (((serves P n).r.got.getD k []).length + (P.r.prt.gv k).freed = (P.r.got.getD k []).length + ((serves P n).r.prt.gv k).freed) := by
  induction n with
  | zero => exact ⟨rfl, rfl⟩
  | succ n ih =>
    have ok' := (serves_ok ok n).tick 0 0
    obtain ⟨b1, b2⟩ := inv_bal (Pr.Inv.tick (serves_goodG h ok n) (serves_ok ok n) 0 0) ok'
    have t1 := take2_bal ok'.l b1 k hk
    have t2 := take2_bal ok'.r b2 k hk
    have f1 := g.freed u n k
    have f2 := g.swap.freed u.swap n k
    rw [mb n] at f1
    rw [ma n] at f2
    have e1 : ((serves P n).tick 0 0).l.prt = ((serves P n).l.prt.tick (serves P n).r.fly).2 := rfl
    have e2 : ((serves P n).tick 0 0).r.prt = ((serves P n).r.prt.tick (serves P n).l.fly).2 := rfl
    have e3 : ((serves P n).tick 0 0).l.got = (serves P n).l.got := rfl
    have e4 : ((serves P n).tick 0 0).r.got = (serves P n).r.got := rfl
    rw [e1, e3, f1] at t1
    rw [e2, e4, f2] at t2
    show (((serves P n).serve).l.got.getD k []).length + _ = _ + (((serves P n).serve).l.prt.gv k).freed ∧ (((serves P n).serve).r.got.getD k []).length + _ = _ + (((serves P n).serve).r.prt.gv k).freed
    rw [serve_eq]
    dsimp only
    omega
end
/-- the ends of two lists -/
theorem tails_eq {α : Type} {a b c d x y f : List α} (h1 : a ++ x = b ++ f) (h2 : c ++ y = d ++ f) (hx : x.length ≤ f.length) (hl : x.length = y.length) : x = y := by
  have e1 : x = f.drop (f.length - x.length) := by
    have hlen := congrArg List.length h1
    rw [List.length_append, List.length_append] at hlen
    have := congrArg (List.drop a.length) h1
    rw [List.drop_left, List.drop_append, List.drop_eq_nil_of_le (by omega), List.nil_append] at this
    rw [this]; congr 1; rw [List.length_drop]; omega
  have e2 : y = f.drop (f.length - y.length) := by
    have hlen := congrArg List.length h2
    rw [List.length_append, List.length_append] at hlen
    have := congrArg (List.drop c.length) h2
    rw [List.drop_left, List.drop_append, List.drop_eq_nil_of_le (by omega), List.nil_append] at this
    rw [this]; congr 1; rw [List.length_drop]; omega
  rw [e1, e2, hl]
/-- a receiver that has all that the sender was given -/
theorem half_got {a b : Prt} {wa wb : List Way} {hist : Hist} {top : Nat} (h : Half a b wa wb hist top) (lk : Lkd a b) (hk : a.kept = []) (c : Nat) : (b.gv c).received = b.bs c + (a.tk c).sent := by
  have hl := h.lnk lk.1 lk.2
  have h1 := hl.kept
  rw [hk] at h1
  have h2 := congrArg List.length h1
  rw [List.length_drop] at h2
  have h0 : ([] : Hist).length = 0 := rfl
  have h3 := hl.ack
  have := h.rc.got c
  rwa [List.take_of_length_le (by omega), ← hl.sent c] at this
/-- one class of one direction, in the end: what was offered since is what was taken since -/
theorem one_way {a0 b0 a b : Prt} {wa wb wa' wb' : List Way} {oa ga ob gb oa' ga' ob' gb' : Nat → List Bytes} {da db da' db' : Nat → Nat} {c : Nat} {O X G Y : List Bytes} (h0 : Both a0 b0 wa wb oa ga ob gb da db) (lk : Lkd a0 b0) (k0 : a0.kept = []) (hc0 : c < b0.rooms.length) (hb0 : b0.buffer.getD c [] = [])
    (h : Both a b wa' wb' oa' ga' ob' gb' da' db') (F : Full a b) (hc : c < a.rooms.length) (hc2 : c < b.rooms.length) (hs : (a.tk c).sent = (a0.tk c).sent + 3) (hbs : b.bs c = b0.bs c) (ho : oa' c = O ++ X) (hg : gb' c = G ++ Y) (hx : X.length = 3) (hy : Y.length + (b0.gv c).freed = (b.gv c).freed) : X = Y := by
  obtain ⟨E, P0, f, g1, g2, _, _, g5⟩ := h.full F hc hc2
  obtain ⟨_, _, _, _, ⟨d0, _⟩, _⟩ := h0
  obtain ⟨_, _, _, _, ⟨d1, _⟩, _⟩ := h
  have r0 := half_got d0 lk k0 c
  have r1 := half_got d1 F.lk F.ka c
  have b0' := d0.rc.buf c hc0
  have b1' := d1.rc.buf c hc2
  rw [hb0] at b0'
  rw [F.bb c hc2] at b1'
  have e0 : ([] : List Bytes).length = 0 := rfl
  exact tails_eq (ho.symm.trans g2) (hg.symm.trans g1) (by omega) (by omega)
theorem serves_off {N : Nat} {P : Pr} (ok : P.Ok N) : ∀ n, (serves P n).l.off = P.l.off ∧ (serves P n).r.off = P.r.off
  | 0 => ⟨rfl, rfl⟩
  | n + 1 => by
    obtain ⟨h1, h2⟩ := serves_off ok n
    have ok' := (serves_ok ok n).tick 0 0
    exact ⟨(take2_leaves ok'.l).2.2.1.trans h1, (take2_leaves ok'.r).2.2.1.trans h2⟩
/-- up and empty; wa, wb: what is under way -/
structure Idle (a b : Prt) (wa wb : List Way) : Prop where
  lk : Lkd a b
  fa : Bat a.inc b.inc a.rooms.length wa
  fb : Bat b.inc a.inc b.rooms.length wb
  ka : a.kept = []
  kb : b.kept = []
  ba : ∀ c, c < a.rooms.length → a.buffer.getD c [] = []
  bb : ∀ c, c < b.rooms.length → b.buffer.getD c [] = []
section
variable {N : Nat} {P : Pr} {Ol Gl Or Gr : Nat → List Bytes} {da db : Nat → Nat}
/-- what was offered at two ports that are up and empty arrives -/
theorem pair_after {wa wb : List Way} (ea : wa.map (·.2) = P.l.fly) (eb : wb.map (·.2) = P.r.fly) (hb : Both P.l.prt P.r.prt wa wb (fun c => Ol c ++ P.l.os c) (fun c => Gl c ++ P.l.gs c) (fun c => Or c ++ P.r.os c) (fun c => Gr c ++ P.r.gs c) da db)
    (idle : Idle P.l.prt P.r.prt wa wb) (ok : P.Ok N) (hN : N ≤ 100000000) {ml mr : Nat → Nat} (cl : P.l.prt.Cons ml) (cr : P.r.prt.Cons mr) (tl : P.l.prt.timeout ≤ 6) (tr : P.r.prt.timeout ≤ 6) (dl : P.l.prt.dead = 12) (dr : P.r.prt.dead = 12)
    (rl : ∀ c, c < 2 → P.l.prt.rooms.getD c 0 ≤ 4) (rr : ∀ c, c < 2 → P.r.prt.rooms.getD c 0 ≤ 4) (gl : ∀ c, P.l.got.getD c [] = []) (gr : ∀ c, P.r.got.getD c [] = [])
    (ol : ∀ c, c < 2 → (P.l.off.getD c []).length = 3 ∧ (P.l.prt.waiting.getD c []).length = 3) (or' : ∀ c, c < 2 → (P.r.off.getD c []).length = 3 ∧ (P.r.prt.waiting.getD c []).length = 3) {n : Nat} (hn : 66 ≤ n) :
    Full (serves P n).l.prt (serves P n).r.prt ∧ ∀ c, c < 2 → (serves P n).r.got.getD c [] = P.l.off.getD c [] ∧ (serves P n).l.got.getD c [] = P.r.off.getD c [] := by
  obtain ⟨Ba, Bb, g, ma, mb, ea0, eb0⟩ := pair_run2 ea eb hb ok
  have hdl : 2 ≤ P.l.prt.side.dead := by rw [cl.dd, dl]; decide
  have hdr : 2 ≤ P.r.prt.side.dead := by rw [cr.dd, dr]; decide
  have u : Up 1 (fun n => (serves P n).l.prt) (fun n => (serves P n).r.prt) Ba Bb 0 := by
    refine ⟨idle.lk, fun j hj => ?_, fun j hj => ?_, hdl, hdr⟩
    · obtain rfl : j = 0 := by omega
      rw [Nat.add_zero, ea0]; exact idle.fa
    · obtain rfl : j = 0 := by omega
      rw [Nat.add_zero, eb0]; exact idle.fb
  have G : P.GoodG Ol Gl Or Gr da db := ⟨wa, wb, ea, eb, hb⟩
  have hft := fun n k hk => serves_freed G ok g u ma mb n (k := k) hk
  have htk := fun n k hk => pair_takes ok ma mb n k hk
  have hgood := serves_goodG G ok n
  have okn := serves_ok ok n
  have hk1 : P.l.prt.snd.kept.length = 0 := by rw [← ok.l.ok.kept, idle.ka]; rfl
  have hk2 : P.r.prt.snd.kept.length = 0 := by rw [← ok.r.ok.kept, idle.kb]; rfl
  have hw1 : wt P.l.prt ≤ 6 := by
    unfold wt
    rw [wt_sum, ok.l.ok.wl, ok.l.two]
    show (P.l.prt.waiting.getD 0 []).length + ((P.l.prt.waiting.getD 1 []).length + 0) ≤ 6
    have := (ol 0 (by decide)).2; have := (ol 1 (by decide)).2
    omega
  have hw2 : wt P.r.prt ≤ 6 := by
    unfold wt
    rw [wt_sum, ok.r.ok.wl, ok.r.two]
    show (P.r.prt.waiting.getD 0 []).length + ((P.r.prt.waiting.getD 1 []).length + 0) ≤ 6
    have := (or' 0 (by decide)).2; have := (or' 1 (by decide)).2
    omega
  have t1 := ok.l.ok.tot
  have t2 := ok.r.ok.tot
  unfold Snd.total at t1 t2
  have p1 := Nat.le_trans ok.l.ok.snd.pos ok.l.ok.snd.sent
  have p2 := Nat.le_trans ok.r.ok.snd.pos ok.r.ok.snd.sent
  have hlow : P.l.prt.snd.acked ≤ P.r.prt.rcv ∧ P.r.prt.snd.acked ≤ P.l.prt.rcv := by
    obtain ⟨hA, tA, hB, tB, ⟨d1, _⟩, d2, _⟩ := hb
    exact ⟨(d1.lnk idle.lk.1 idle.lk.2).ack, (d2.lnk idle.lk.2 idle.lk.1).ack⟩
  have hl0 := g.rcv_mono u 0 1
  have hr0 := g.swap.rcv_mono u.swap 0 1
  have hcls := fun n (c : Nat) (hc : c < 2) => g.classes u n (c := c) (by show c < P.l.prt.rooms.length; rw [ok.l.two]; exact hc)
  have hcls2 := fun n (c : Nat) (hc : c < 2) => g.swap.classes u.swap n (c := c) (by show c < P.r.prt.rooms.length; rw [ok.r.two]; exact hc)
  have hup := g.up_all u n
  have hst := (g.up_from (n := n - 1) hdl (by omega) hdr).1
  have hst2 := (g.swap.up_from (n := n - 1) hdr (by omega) hdl).1
  rw [show n - 1 + 1 = n by omega] at hst hst2
  have z1 := ok.l.two; have z2 := ok.r.two; have y1 := okn.l.two; have y2 := okn.r.two
  have z3 := cl.tmo; have z4 := cr.tmo
  obtain ⟨a, ha⟩ : ∃ a : Nat → Prt, (fun n => (serves P n).l.prt) = a := ⟨_, rfl⟩
  obtain ⟨b, hbb⟩ : ∃ b : Nat → Prt, (fun n => (serves P n).r.prt) = b := ⟨_, rfl⟩
  have xa : ∀ n, (serves P n).l.prt = a n := fun n => congrFun ha n
  have xb : ∀ n, (serves P n).r.prt = b n := fun n => congrFun hbb n
  have xa0 : P.l.prt = a 0 := xa 0
  have xb0 : P.r.prt = b 0 := xb 0
  rw [ha, hbb] at g u hup
  have htk' : ∀ n k, k < 2 → (a (n + 1)).buffer.getD k [] = (((a n).tick ((Bb n).map (·.2))).2.buffer.getD k []).drop 1 ∧ (b (n + 1)).buffer.getD k [] = (((b n).tick ((Ba n).map (·.2))).2.buffer.getD k []).drop 1 := fun n k hk => by
    have := htk n k hk
    rw [xa, xb, xa, xb] at this
    exact this
  have hl0' : (a 0).rcv ≤ (a (0 + 1)).rcv := by rw [← xa, ← xa]; exact hl0
  have hr0' : (b 0).rcv ≤ (b (0 + 1)).rcv := by rw [← xb, ← xb]; exact hr0
  have A := pair_way g u (by rw [← xa0, ← xb0, z1, z2]) (fun c hc => by rw [← xb0] at hc ⊢; exact rr c (by rw [z2] at hc; exact hc)) (fun n k hk => (htk' n k (by rw [← xb0, z2] at hk; exact hk)).2) (by rw [← xa0]; omega) (L := 6) (by rw [← xa0]; omega) (by rw [← xa0, z3]; exact tl) (n := n)
    (.inl ⟨by show (a 0).snd.acked + (a 0).snd.pos ≤ (b (0 + 1)).rcv; rw [← xa0]; rw [← xb0] at hr0'; omega, by omega⟩)
  have B := pair_way g.swap u.swap (by rw [← xa0, ← xb0, z1, z2]) (fun c hc => by rw [← xa0] at hc ⊢; exact rl c (by rw [z1] at hc; exact hc)) (fun n k hk => (htk' n k (by rw [← xa0, z1] at hk; exact hk)).1) (by rw [← xb0]; omega) (L := 6) (by rw [← xb0]; omega) (by rw [← xb0, z4]; exact tr) (n := n)
    (.inl ⟨by show (b 0).snd.acked + (b 0).snd.pos ≤ (a (0 + 1)).rcv; rw [← xb0]; rw [← xa0] at hl0'; omega, by omega⟩)
  have F : Full (serves P n).l.prt (serves P n).r.prt := by
    rw [xa] at hst y1 ⊢
    rw [xb] at hst2 y2 ⊢
    exact ⟨hst, hst2, hup.lk, A.1, B.1, fun c _ => A.2.1 c, fun c _ => B.2.1 c, fun c hc => B.2.2 c (by rw [← xb0, z2]; rw [y1] at hc; exact hc), fun c hc => A.2.2 c (by rw [← xa0, z1]; rw [y2] at hc; exact hc)⟩
  have hbs := fun n => (g.const u n).2.2.2.1
  have hbs2 := fun n => (g.swap.const u.swap n).2.2.2.1
  have hbl : ∀ c, (serves P n).l.prt.bs c = P.l.prt.bs c := fun c => by rw [xa n, xa0]; unfold Prt.bs; rw [hbs n]
  have hbr : ∀ c, (serves P n).r.prt.bs c = P.r.prt.bs c := fun c => by rw [xb n, xb0]; unfold Prt.bs; rw [hbs2 n]
  clear A B htk htk' g u hup hst hst2 hbs hbs2
  obtain ⟨wa', wb', _, _, hbn⟩ := hgood
  obtain ⟨of1, of2⟩ := serves_off ok n
  refine ⟨F, fun c hc => ⟨?_, ?_⟩⟩
  · have hs := hcls n c hc
    have hw : ((serves P n).l.prt.waiting.getD c []).length = 0 := by rw [F.wa c (by rw [y1]; exact hc)]; rfl
    have hf := (hft n c hc).2
    rw [gr c] at hf
    have hs : ((serves P n).l.prt.tk c).sent + ((serves P n).l.prt.waiting.getD c []).length = (P.l.prt.tk c).sent + (P.l.prt.waiting.getD c []).length := hs
    have h0 : ([] : Bytes).length = 0 := rfl
    have := one_way hb idle.lk idle.ka (by rw [z2]; exact hc) (idle.bb c (by rw [z2]; exact hc)) hbn F (by rw [y1]; exact hc) (by rw [y2]; exact hc) (by have := (ol c hc).2; omega) (hbr c) (G := Gr c) (Y := (serves P n).r.gs c) (O := Ol c) (X := P.l.os c) (by show Ol c ++ (serves P n).l.os c = _; unfold Nd.os; rw [of1]) rfl (by unfold Nd.os sing; rw [List.length_map]; exact (ol c hc).1) (by unfold Nd.gs sing; rw [List.length_map]; omega)
    exact sing_inj this.symm
  · have hs := hcls2 n c hc
    have hw : ((serves P n).r.prt.waiting.getD c []).length = 0 := by rw [F.wb c (by rw [y2]; exact hc)]; rfl
    have hf := (hft n c hc).1
    rw [gl c] at hf
    have hs : ((serves P n).r.prt.tk c).sent + ((serves P n).r.prt.waiting.getD c []).length = (P.r.prt.tk c).sent + (P.r.prt.waiting.getD c []).length := hs
    have h0 : ([] : Bytes).length = 0 := rfl
    have := one_way hb.swap ⟨idle.lk.2, idle.lk.1⟩ idle.kb (by rw [z1]; exact hc) (idle.ba c (by rw [z1]; exact hc)) hbn.swap F.swap (by rw [y2]; exact hc) (by rw [y1]; exact hc) (by have := (or' c hc).2; omega) (hbl c) (G := Gl c) (Y := (serves P n).l.gs c) (O := Or c) (X := P.r.os c) (by show Or c ++ (serves P n).r.os c = _; unfold Nd.os; rw [of2]) rfl (by unfold Nd.os sing; rw [List.length_map]; exact (or' c hc).1) (by unfold Nd.gs sing; rw [List.length_map]; omega)
    exact sing_inj this.symm
end
end Go.Proofs.Ytcocnfbhileheaa
