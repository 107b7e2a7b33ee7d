/- A pair of ports with restarts: the events; the pair when it is idle; frames offered then. No program in sight. -/
import Derived.Test.YtcocnfbhileheaaLvM
namespace Go.Proofs.Ytcocnfbhileheaa

/-- a side that may have been restarted -/
structure Nd.Few (n : Nd) (k : Nat) : Prop where
  cons : ∃ m, n.prt.Cons m ∧ m 0 + m 1 ≤ k
  tmo : n.prt.timeout ≤ 6
  dead : n.prt.dead = 12
  room : ∀ c, c < 2 → n.prt.rooms.getD c 0 ≤ 4
structure Pr.Mess (P : Pr) (k next : Nat) : Prop where
  inv : ∃ oa ga ob gb da db, P.Inv oa ga ob gb da db
  l : P.l.Few k
  r : P.r.Few k
  nl : P.l.prt.inc < next
  nr : P.r.prt.inc < next
section
variable {N k next : Nat} {P : Pr}
theorem Nd.Sum.fewer {n : Nd} (h : n.Sum k) : n.Few k := ⟨⟨_, h.cons, h.few⟩, h.tmo, h.dead, h.room⟩
theorem Nd.Few.mono {n : Nd} (h : n.Few k) {j : Nat} (hj : k ≤ j) : n.Few j := by
  obtain ⟨m, h1, h2⟩ := h.cons
  exact ⟨⟨m, h1, Nat.le_trans h2 hj⟩, h.tmo, h.dead, h.room⟩
theorem Nd.Few.ticked {n m : Nd} (h : n.Few k) (ok : n.Ok N) (ok' : m.Ok N) (fl : List Pt) : ({ n with prt := (n.prt.tick m.fly).2, fly := fl } : Nd).Few k := by
  obtain ⟨k1, k2, _⟩ := tick_keeps n.prt m.fly
  obtain ⟨mm, h1, h2⟩ := h.cons
  refine ⟨⟨mm, h1.tick ok.ok fun y hy => Nat.le_trans (ok'.f1 y hy).1 (by decide), h2⟩, ?_, ?_, fun c hc => ?_⟩
  · show (n.prt.tick m.fly).2.timeout ≤ 6
    rw [tick_tmo]; exact h.tmo
  · show (n.prt.tick m.fly).2.dead = 12
    rw [tick_deadf]; exact h.dead
  · show (n.prt.tick m.fly).2.rooms.getD c 0 ≤ 4
    rw [k1]; exact h.room c hc
theorem Nd.Few.offer {n : Nd} (h : n.Few k) (ok : n.Ok N) {c : Nat} (hc : c < 2) (b : BitVec 8) : (n.offer c b).Few (k + 1) := by
  rcases offer_cases ok hc b with ⟨_, e⟩ | ⟨_, e⟩
  · rw [e]; exact h.mono (by omega)
  · rw [e]
    obtain ⟨m, h1, h2⟩ := h.cons
    refine ⟨⟨_, h1.offer ok.ok (c := c) (by rw [ok.two]; exact hc) [b], ?_⟩, h.tmo, h.dead, h.room⟩
    obtain rfl | rfl : c = 0 ∨ c = 1 := by omega
    · rw [if_pos rfl, if_neg (by decide)]; omega
    · rw [if_neg (by decide), if_pos rfl]; omega
theorem Nd.Few.take {n : Nd} (h : n.Few k) (ok : n.Ok N) {c : Nat} (hc : c < 2) : (n.take c).Few k := by
  rcases take_cases ok hc with ⟨_, _, e⟩ | ⟨x, l, h1, _, _, e⟩
  · rw [e]; exact h
  · rw [e]
    obtain ⟨m, g1, g2⟩ := h.cons
    exact ⟨⟨m, g1.take ok.ok (by rw [ok.two]; exact hc) h1, g2⟩, h.tmo, h.dead, h.room⟩
theorem offer_inc (n : Nd) (c : Nat) (b : BitVec 8) : (n.offer c b).prt.inc = n.prt.inc := by
  unfold Nd.offer
  split
  · unfold Prt.offer
    split
    · rfl
    · split <;> rfl
  · rfl
theorem take_inc (n : Nd) (c : Nat) : (n.take c).prt.inc = n.prt.inc := by
  unfold Nd.take
  split
  · rfl
  · unfold Prt.take
    split <;> rfl
theorem Pr.Mess.tick (h : P.Mess k next) (ok : P.Ok N) (lose dbl : Nat) : (P.tick lose dbl).Mess k next := by
  obtain ⟨oa, ga, ob, gb, da, db, hi⟩ := h.inv
  exact ⟨⟨_, _, _, _, _, _, hi.tick ok lose dbl⟩, h.l.ticked ok.l ok.r _, h.r.ticked ok.r ok.l _, by show ((P.l.prt.tick P.r.fly).2).inc < next; rw [(tick_keeps _ _).2.1]; exact h.nl, by show ((P.r.prt.tick P.l.fly).2).inc < next; rw [(tick_keeps _ _).2.1]; exact h.nr⟩
theorem Pr.Mess.swap (h : P.Mess k next) : (⟨P.r, P.l⟩ : Pr).Mess k next := by
  obtain ⟨oa, ga, ob, gb, da, db, hi⟩ := h.inv
  exact ⟨⟨_, _, _, _, _, _, hi.swap⟩, h.r, h.l, h.nr, h.nl⟩
theorem Pr.Mess.mono (h : P.Mess k next) {j nx : Nat} (hj : k ≤ j) (hn : next ≤ nx) : P.Mess j nx := ⟨h.inv, h.l.mono hj, h.r.mono hj, Nat.lt_of_lt_of_le h.nl hn, Nat.lt_of_lt_of_le h.nr hn⟩
theorem Pr.Mess.offerL (h : P.Mess k next) (ok : P.Ok N) {c : Nat} (hc : c < 2) (b : BitVec 8) : (⟨P.l.offer c b, P.r⟩ : Pr).Mess (k + 1) next := by
  obtain ⟨oa, ga, ob, gb, da, db, hi⟩ := h.inv
  refine ⟨?_, h.l.offer ok.l hc b, h.r.mono (by omega), by show (P.l.offer c b).prt.inc < next; rw [offer_inc]; exact h.nl, h.nr⟩
  rcases Pr.Inv.offerL hi ok hc b with ⟨e, _⟩ | ⟨_, _, h⟩
  · rw [e]; exact ⟨_, _, _, _, _, _, hi⟩
  · exact ⟨_, _, _, _, _, _, h⟩
theorem Pr.Mess.takeL (h : P.Mess k next) (ok : P.Ok N) {c : Nat} (hc : c < 2) : (⟨P.l.take c, P.r⟩ : Pr).Mess k next := by
  obtain ⟨oa, ga, ob, gb, da, db, hi⟩ := h.inv
  refine ⟨?_, h.l.take ok.l hc, h.r, by show (P.l.take c).prt.inc < next; rw [take_inc]; exact h.nl, h.nr⟩
  rcases Pr.Inv.takeL hi ok hc with ⟨e, _⟩ | ⟨_, _, _, h⟩
  · rw [e]; exact ⟨_, _, _, _, _, _, hi⟩
  · exact ⟨_, _, _, _, _, _, h⟩
theorem Pr.Mess.act (h : P.Mess k next) (ok : P.Ok N) (e : Nat) : (P.act e).Mess (k + 1) next := by
  unfold Pr.act
  split
  · unfold Pr.offer
    split
    · exact h.offerL ok (Nat.mod_lt _ (by decide)) _
    · exact (Pr.Mess.offerL h.swap ok.swap (Nat.mod_lt _ (by decide)) _).swap
  · split
    · unfold Pr.take
      split
      · exact (h.takeL ok (Nat.mod_lt _ (by decide))).mono (by omega) (Nat.le_refl _)
      · exact (Pr.Mess.takeL h.swap ok.swap (Nat.mod_lt _ (by decide))).swap.mono (by omega) (Nat.le_refl _)
    · exact h.mono (by omega) (Nat.le_refl _)
/-- a side restarts -/
def Nd.again (n : Nd) (i : Nat) : Nd := { n with prt := newPrt i n.prt.rooms n.prt.window n.prt.timeout n.prt.dead }
def Pr.again (P : Pr) (s i : Nat) : Pr := if s = 0 then { P with l := P.l.again i } else { P with r := P.r.again i }
theorem rep_mem {n : Nat} {l : List Bytes} (h : l ∈ List.replicate n ([] : List Bytes)) : l = [] := (List.mem_replicate.1 h).2
theorem Nd.Ok.again {n : Nd} (h : n.Ok N) (hN : 200 ≤ N) {i : Nat} (h1 : 1 ≤ i) (h2 : i ≤ 1099511627775) : (n.again i).Ok N := by
  refine ⟨(newPrt_ok h.ok.n1 h.ok.n4 h.ok.rm h1 h2 h.ok.w1 h.ok.w2 h.ok.t1 h.ok.t2 h.ok.d1 h.ok.d2).mono hN, rfl, h.two, h.fl, h.f1, ⟨fun l hl d hd => ?_, fun l hl d hd => ?_, fun f hf => by cases hf⟩, h.o2, h.g2, h.ol, h.gl⟩
  · obtain ⟨c, _, rfl⟩ := List.mem_map.1 hl
    have e : (List.replicate n.prt.rooms.length ([] : List Bytes)).getD c [] = [] := by
      rw [List.getD, List.getElem?_replicate]
      split <;> rfl
    have hd : d ∈ [] ++ (List.replicate n.prt.rooms.length ([] : List Bytes)).getD c [] := hd
    rw [e] at hd; cases hd
  · have hl : l ∈ List.replicate n.prt.rooms.length ([] : List Bytes) := hl
    rw [rep_mem hl] at hd; cases hd
theorem Pr.Ok.again (h : P.Ok N) (hN : 200 ≤ N) (s : Nat) {i : Nat} (h1 : 1 ≤ i) (h2 : i ≤ 1099511627775) : (P.again s i).Ok N := by
  unfold Pr.again
  split
  · exact ⟨h.l.again hN h1 h2, h.r⟩
  · exact ⟨h.l, h.r.again hN h1 h2⟩
theorem Pr.Mess.againL (h : P.Mess k next) : (⟨P.l.again next, P.r⟩ : Pr).Mess k (next + 1) := by
  obtain ⟨oa, ga, ob, gb, da, db, wa, wb, ea, eb, hb⟩ := h.inv
  exact ⟨⟨_, _, _, _, _, _, wa, wb, ea, eb, hb.restart h.nl _ _ _ _⟩, ⟨⟨_, new_cons _ _ _ _ _, Nat.zero_le _⟩, h.l.tmo, h.l.dead, h.l.room⟩, h.r, Nat.lt_succ_self _, Nat.lt_succ_of_lt h.nr⟩
theorem Pr.Mess.again (h : P.Mess k next) (s : Nat) : (P.again s next).Mess k (next + 1) := by
  unfold Pr.again
  split
  · exact h.againL
  · exact (Pr.Mess.againL h.swap).swap
theorem Pr.Mess.over (h : P.Mess k next) : P.l.prt.overflows = 0 ∧ P.r.prt.overflows = 0 := by
  obtain ⟨oa, ga, ob, gb, da, db, wa, wb, ea, eb, hb⟩ := h.inv
  exact hb.over
theorem newPr_mess (room window : Nat) : (newPr room window).Mess 0 30 := ⟨⟨_, _, _, _, _, _, newPr_good room window⟩, (newNd_sum _ _ _).fewer, (newNd_sum _ _ _).fewer, by show (10 : Nat) < 30; decide, by show (20 : Nat) < 30; decide⟩
/-- the pair is up and empty; j frames of each class of each side were offered since, and one more of the first i -/
structure Stage (P : Pr) (j i : Nat) : Prop where
  way : ∃ (wa wb : List Way) (Ol Gl Or Gr : Nat → List Bytes) (da db : Nat → Nat), wa.map (·.2) = P.l.fly ∧ wb.map (·.2) = P.r.fly ∧ Both P.l.prt P.r.prt wa wb (fun c => Ol c ++ P.l.os c) (fun c => Gl c ++ P.l.gs c) (fun c => Or c ++ P.r.os c) (fun c => Gr c ++ P.r.gs c) da db ∧ Idle P.l.prt P.r.prt wa wb
  l : ∃ k, P.l.Few k
  r : ∃ k, P.r.Few k
  gl : P.l.got = [[], []]
  gr : P.r.got = [[], []]
  ol : ∀ c, c < 2 → (P.l.off.getD c []).length = j + (if 2 * c < i then 1 else 0) ∧ (P.l.prt.waiting.getD c []).length = j + (if 2 * c < i then 1 else 0)
  or' : ∀ c, c < 2 → (P.r.off.getD c []).length = j + (if 2 * c + 1 < i then 1 else 0) ∧ (P.r.prt.waiting.getD c []).length = j + (if 2 * c + 1 < i then 1 else 0)
theorem nil2 (c : Nat) : (([[], []] : List Bytes).getD c []) = [] := by
  match c with
  | 0 => rfl
  | 1 => rfl
  | c + 2 => rfl
/-- after the events, a while without losses: the pair is idle; what was offered and taken is forgotten -/
def Pr.fresh (P : Pr) : Pr := ⟨{ P.l with off := [[], []], got := [[], []] }, { P.r with off := [[], []], got := [[], []] }⟩
theorem Nd.Ok.fresh {n : Nd} (h : n.Ok N) : ({ n with off := [[], []], got := [[], []] } : Nd).Ok N := by
  have h2 : ∀ l ∈ ([[], []] : List Bytes), l.length ≤ N := fun l hl => by
    rcases List.mem_cons.1 hl with rfl | hl
    · exact Nat.zero_le _
    · rw [List.mem_singleton.1 hl]; exact Nat.zero_le _
  exact ⟨h.ok, h.min, h.two, h.fl, h.f1, h.one, rfl, rfl, h2, h2⟩
theorem Pr.Ok.fresh (h : P.Ok N) : P.fresh.Ok N := ⟨h.l.fresh, h.r.fresh⟩
theorem serves_few (hl : P.l.Few k) (hr : P.r.Few k) (ok : P.Ok N) : ∀ n, (serves P n).l.Few k ∧ (serves P n).r.Few k
  | 0 => ⟨hl, hr⟩
  | n + 1 => by
    obtain ⟨h1, h2⟩ := serves_few hl hr ok n
    have o := serves_ok ok n
    have ok' := o.tick 0 0
    have t1 : ((serves P n).tick 0 0).l.Few k := h1.ticked o.l o.r _
    have t2 : ((serves P n).tick 0 0).r.Few k := h2.ticked o.r o.l _
    exact ⟨(t1.take ok'.l (c := 0) (by decide)).take (ok'.l.take (c := 0) (by decide)) (c := 1) (by decide), (t2.take ok'.r (c := 0) (by decide)).take (ok'.r.take (c := 0) (by decide)) (c := 1) (by decide)⟩
theorem mess_stage (h : P.Mess k next) (ok : P.Ok N) (hN : N ≤ 100000000) (hk : k ≤ 1000) {n : Nat} (hn : 17 * k + 18 ≤ n) : Stage (serves P n).fresh 0 0 := by
  obtain ⟨oa, ga, ob, gb, da, db, hi⟩ := h.inv
  obtain ⟨ml, cl, hml⟩ := h.l.cons
  obtain ⟨mr, cr, hmr⟩ := h.r.cons
  have F := pair_full hi ok hN cl cr h.l.tmo h.r.tmo (by rw [h.l.dead]; decide) (by rw [h.r.dead]; decide) h.l.room h.r.room hml hmr (by omega) hn
  obtain ⟨Ba, Bb, g, ma, mb⟩ := pair_run hi ok
  have hup := g.up_at (n := n) (by show 2 ≤ P.l.prt.side.dead; rw [cl.dd, h.l.dead]; decide) (by show 2 ≤ P.r.prt.side.dead; rw [cr.dd, h.r.dead]; decide) (by omega)
  obtain ⟨oa', ga', ob', gb', da', db', hb⟩ := (g.at n).both
  have e : ∀ B : Nat → List Way, ways B 1 n = B n := fun B => by unfold ways; simp
  rw [e, e] at hb
  have fa := hup.fa 0 (by decide)
  have fb := hup.fb 0 (by decide)
  rw [Nat.add_zero] at fa fb
  obtain ⟨f1, f2⟩ := serves_few h.l h.r ok n
  have hz : ∀ f : Nat → List Bytes, (fun c => f c ++ sing (([[], []] : List Bytes).getD c [])) = f := fun f => by funext c; rw [nil2]; exact List.append_nil _
  refine ⟨⟨Ba n, Bb n, oa', ga', ob', gb', da', db', ma n, mb n, ?_, ⟨hup.lk, fa, fb, F.ka, F.kb, F.ba, F.bb⟩⟩, ?_, ?_, rfl, rfl, fun c hc => ⟨by show (([[], []] : List Bytes).getD c []).length = _; rw [nil2]; rfl, ?_⟩, fun c hc => ⟨by show (([[], []] : List Bytes).getD c []).length = _; rw [nil2]; rfl, ?_⟩⟩
  · show Both _ _ _ _ (fun c => oa' c ++ sing (([[], []] : List Bytes).getD c [])) (fun c => ga' c ++ sing (([[], []] : List Bytes).getD c [])) (fun c => ob' c ++ sing (([[], []] : List Bytes).getD c [])) (fun c => gb' c ++ sing (([[], []] : List Bytes).getD c [])) _ _
    rw [hz, hz, hz, hz]
    exact hb
  · exact ⟨k, f1.cons, f1.tmo, f1.dead, f1.room⟩
  · exact ⟨k, f2.cons, f2.tmo, f2.dead, f2.room⟩
  · show ((serves P n).l.prt.waiting.getD c []).length = _
    rw [F.wa c (by rw [(serves_ok ok n).l.two]; exact hc)]; rfl
  · show ((serves P n).r.prt.waiting.getD c []).length = _
    rw [F.wb c (by rw [(serves_ok ok n).r.two]; exact hc)]; rfl
theorem Stage.turn {j : Nat} (h : Stage P j 4) : Stage P (j + 1) 0 := by
  refine ⟨h.way, h.l, h.r, h.gl, h.gr, fun c hc => ?_, fun c hc => ?_⟩
  · have := h.ol c hc
    rw [if_pos (by omega)] at this
    rw [if_neg (by omega)]
    exact this
  · have := h.or' c hc
    rw [if_pos (by omega)] at this
    rw [if_neg (by omega)]
    exact this
theorem Stage.offer {j i : Nat} (h : Stage P j i) (ok : P.Ok N) (hj : j < 60) (hi : i < 4) (b : BitVec 8) : Stage (P.offer (i % 2) (i / 2) b) j (i + 1) := by
  have hc : i / 2 < 2 := by omega
  obtain ⟨wa, wb, Ol, Gl, Or, Gr, da, db, ea, eb, hb, hd⟩ := h.way
  unfold Pr.offer
  by_cases hs : i % 2 = 0
  · rw [if_pos hs]
    obtain ⟨l1, l2⟩ := h.ol (i / 2) hc
    rw [if_neg (by omega)] at l1 l2
    obtain ⟨kf, hfew⟩ := h.l
    have hfew := hfew.offer ok.l hc b
    rcases offer_cases ok.l hc b with ⟨x, _⟩ | ⟨_, e⟩
    · omega
    · rw [e] at hfew ⊢
      have hwl : i / 2 < P.l.prt.waiting.length := by rw [ok.l.ok.wl, ok.l.two]; exact hc
      have hol : i / 2 < P.l.off.length := by rw [ok.l.o2]; exact hc
      refine ⟨⟨wa, wb, Ol, Gl, Or, Gr, da, db, ea, eb, ?_, ⟨hd.lk, hd.fa, hd.fb, hd.ka, hd.kb, hd.ba, hd.bb⟩⟩, ⟨_, hfew⟩, h.r, h.gl, h.gr, fun c hc' => ?_, fun c hc' => ?_⟩
      · have := hb.offer hwl [b]
        show Both _ _ _ _ (fun k => Ol k ++ sing ((P.l.off.set (i / 2) (P.l.off.getD (i / 2) [] ++ [b])).getD k [])) _ _ _ _ _
        rw [os_set hol]
        exact this
      · dsimp only
        rw [getD_set _ _ _ _ _ hol, getD_set _ _ _ _ _ hwl]
        obtain ⟨q1, q2⟩ := h.ol c hc'
        by_cases e : i / 2 = c
        · rw [if_pos e, if_pos e, List.length_append, List.length_append, l1, l2, if_pos (by omega)]; exact ⟨rfl, rfl⟩
        · rw [if_neg e, if_neg e, q1, q2]
          by_cases h2 : 2 * c < i
          · rw [if_pos h2, if_pos (by omega)]; exact ⟨rfl, rfl⟩
          · rw [if_neg h2, if_neg (by omega)]; exact ⟨rfl, rfl⟩
      · obtain ⟨q1, q2⟩ := h.or' c hc'
        rw [show (if 2 * c + 1 < i + 1 then 1 else 0) = if 2 * c + 1 < i then 1 else 0 by
          by_cases h2 : 2 * c + 1 < i
          · rw [if_pos h2, if_pos (by omega)]
          · rw [if_neg h2, if_neg (by omega)]]
        exact ⟨q1, q2⟩
  · rw [if_neg hs]
    obtain ⟨l1, l2⟩ := h.or' (i / 2) hc
    rw [if_neg (by omega)] at l1 l2
    obtain ⟨kf, hfew⟩ := h.r
    have hfew := hfew.offer ok.r hc b
    rcases offer_cases ok.r hc b with ⟨x, _⟩ | ⟨_, e⟩
    · omega
    · rw [e] at hfew ⊢
      have hwl : i / 2 < P.r.prt.waiting.length := by rw [ok.r.ok.wl, ok.r.two]; exact hc
      have hol : i / 2 < P.r.off.length := by rw [ok.r.o2]; exact hc
      refine ⟨⟨wa, wb, Ol, Gl, Or, Gr, da, db, ea, eb, ?_, ⟨hd.lk, hd.fa, hd.fb, hd.ka, hd.kb, hd.ba, hd.bb⟩⟩, h.l, ⟨_, hfew⟩, h.gl, h.gr, fun c hc' => ?_, fun c hc' => ?_⟩
      · have := (hb.swap.offer hwl [b]).swap
        show Both _ _ _ _ _ _ (fun k => Or k ++ sing ((P.r.off.set (i / 2) (P.r.off.getD (i / 2) [] ++ [b])).getD k [])) _ _ _
        rw [os_set hol]
        exact this
      · obtain ⟨q1, q2⟩ := h.ol c hc'
        rw [show (if 2 * c < i + 1 then 1 else 0) = if 2 * c < i then 1 else 0 by
          by_cases h2 : 2 * c < i
          · rw [if_pos h2, if_pos (by omega)]
          · rw [if_neg h2, if_neg (by omega)]]
        exact ⟨q1, q2⟩
      · dsimp only
        rw [getD_set _ _ _ _ _ hol, getD_set _ _ _ _ _ hwl]
        obtain ⟨q1, q2⟩ := h.or' c hc'
        by_cases e : i / 2 = c
        · rw [if_pos e, if_pos e, List.length_append, List.length_append, l1, l2, if_pos (by omega)]; exact ⟨rfl, rfl⟩
        · rw [if_neg e, if_neg e, q1, q2]
          by_cases h2 : 2 * c + 1 < i
          · rw [if_pos h2, if_pos (by omega)]; exact ⟨rfl, rfl⟩
          · rw [if_neg h2, if_neg (by omega)]; exact ⟨rfl, rfl⟩
/-- the three frames of each class arrive -/
theorem stage_done (h : Stage P 3 0) (ok : P.Ok N) (hN : N ≤ 100000000) {n : Nat} (hn : 66 ≤ n) :
    (∀ c, c < 2 → (serves P n).r.got.getD c [] = (serves P n).l.off.getD c [] ∧ (serves P n).l.got.getD c [] = (serves P n).r.off.getD c []) ∧ (∀ c, c < 2 → ((serves P n).l.off.getD c []).length = 3 ∧ ((serves P n).r.off.getD c []).length = 3) ∧
      (serves P n).l.prt.side.state = 2 ∧ (serves P n).r.prt.side.state = 2 ∧ (serves P n).l.prt.overflows = 0 ∧ (serves P n).r.prt.overflows = 0 := by
  obtain ⟨wa, wb, Ol, Gl, Or, Gr, da, db, ea, eb, hb, hd⟩ := h.way
  obtain ⟨kl, fl⟩ := h.l
  obtain ⟨kr, fr⟩ := h.r
  obtain ⟨ml, cl, _⟩ := fl.cons
  obtain ⟨mr, cr, _⟩ := fr.cons
  have hol : ∀ c, c < 2 → (P.l.off.getD c []).length = 3 ∧ (P.l.prt.waiting.getD c []).length = 3 := fun c hc => by have := h.ol c hc; rwa [if_neg (by omega)] at this
  have hor : ∀ c, c < 2 → (P.r.off.getD c []).length = 3 ∧ (P.r.prt.waiting.getD c []).length = 3 := fun c hc => by have := h.or' c hc; rwa [if_neg (by omega)] at this
  obtain ⟨F, hg⟩ := pair_after ea eb hb hd ok hN cl cr fl.tmo fr.tmo fl.dead fr.dead fl.room fr.room (fun c => by rw [h.gl, nil2]) (fun c => by rw [h.gr, nil2]) hol hor hn
  obtain ⟨o1, o2⟩ := serves_off ok n
  obtain ⟨_, _, _, _, hbn⟩ := serves_goodG (P := P) (Ol := Ol) (Gl := Gl) (Or := Or) (Gr := Gr) (da := da) (db := db) ⟨wa, wb, ea, eb, hb⟩ ok n
  rw [o1, o2]
  exact ⟨hg, fun c hc => ⟨(hol c hc).1, (hor c hc).1⟩, F.ua, F.ub, hbn.over.1, hbn.over.2⟩
end
end Go.Proofs.Ytcocnfbhileheaa
