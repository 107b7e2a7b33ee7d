/- The bounds of a port are kept by what is done to it. No program in sight but for the names of things. -/
import Derived.Test.YtcocnfbhileheaaPorX
namespace Go.Proofs.Ytcocnfbhileheaa

theorem mem_set {α : Type} {P : α → Prop} {l : List α} {i : Nat} {v : α} (h : ∀ x ∈ l, P x) (hv : P v) : ∀ x ∈ l.set i v, P x := fun x hx => by
  rcases List.mem_or_eq_of_mem_set hx with hx | rfl
  · exact h x hx
  · exact hv
theorem getD_all {α : Type} {P : α → Prop} {l : List α} {d : α} (h : ∀ x ∈ l, P x) (hd : P d) (i : Nat) : P (l.getD i d) := by
  rw [List.getD]
  cases hx : l[i]? with
  | none => exact hd
  | some x => exact h x (List.mem_of_getElem? hx)
theorem Prt.Ok.mono {N M : Nat} {p : Prt} (h : p.Ok N) (hm : N ≤ M) : p.Ok M :=
  ⟨h.n1, h.n4, h.rm, h.i1, h.i2, h.w1, h.w2, h.t1, h.t2, h.d1, h.d2, h.side, h.arb, h.wl, h.bl, h.tl, h.gl, h.sl, h.al, h.rl, h.kl, h.peer, h.snd, h.win, (Nat.le_trans h.tot hm), (Nat.le_trans h.rcv hm), h.kept, h.kcl, h.wsz, (fun x hx => Nat.le_trans (h.wln x hx) hm), h.bsz, (fun x hx => Nat.le_trans (h.bln x hx) hm), h.tak, (fun g hg => ⟨(h.giv g hg).1, (h.giv g hg).2.1, Nat.le_trans (h.giv g hg).2.2 hm⟩), (fun x hx => Nat.le_trans (h.bas x hx) hm), (fun x hx => Nat.le_trans (h.acn x hx) hm), (fun x hx => Nat.le_trans (h.ren x hx) hm), (fun x hx => Nat.le_trans (h.tan x hx) hm), (Nat.le_trans h.ovn hm)⟩
theorem Prt.Ok.small {N : Nat} {p : Prt} (h : p.Ok N) : ∀ f ∈ p.kept, f.2.length ≤ 64 := fun f hf => h.snd.small _ (by rw [← h.kept]; exact List.mem_map.2 ⟨f, hf, rfl⟩)
theorem Prt.Ok.begin {N : Nat} {p : Prt} (h : p.Ok N) {peer : Nat} (hp : peer ≤ 1099511627775) : (p.begin peer).Ok (N + 128) := by
  have k := h.mono (show N ≤ N + 128 by omega)
  have hkl := h.beg.kl
  refine ⟨k.n1, k.n4, k.rm, k.i1, k.i2, k.w1, k.w2, k.t1, k.t2, k.d1, k.d2, k.side, k.arb, (by simp [Prt.begin, h.wl]), k.bl, (by simp [Prt.begin]), (by simp [Prt.begin]), (by simp [Prt.begin, h.bl]), k.al, k.rl, k.kl, (hp), (newSnd_ok h.w1 h.w2 h.t1 h.t2), (rfl), (by simp [Prt.begin, newSnd, Snd.total]), (Nat.zero_le _), (rfl), (fun f hf => by cases hf), ?_, ?_, k.bsz, k.bln, ?_, ?_, ?_, k.acn, k.ren, k.tan, k.ovn⟩
  · intro l hl d hd
    obtain ⟨c, hc, rfl⟩ := List.mem_map.1 hl
    rcases List.mem_append.1 hd with hd | hd
    · obtain ⟨f, hf, rfl⟩ := List.mem_map.1 hd
      exact h.small f (List.mem_filter.1 hf).1
    · exact getD_all (P := fun l : List Bytes => ∀ d ∈ l, d.length ≤ 64) h.wsz (by simp) c d hd
  · intro l hl
    obtain ⟨c, hc, rfl⟩ := List.mem_map.1 hl
    have h1 := again_le p.kept c
    have h2 := getD_all (P := fun l : List Bytes => l.length ≤ N) (d := []) h.wln (Nat.zero_le _) c
    unfold again at h1
    rw [List.length_append]
    omega
  · intro t ht
    obtain ⟨_, rfl⟩ := List.mem_replicate.1 ht
    exact ⟨Nat.le_refl _, Nat.zero_le _⟩
  · intro g hg
    obtain ⟨c, hc, rfl⟩ := List.mem_map.1 hg
    have h1 := getD_all (P := fun l : List Bytes => l.length ≤ N) (d := []) h.bln (Nat.zero_le _) c
    have h2 : p.rooms.getD c 0 ≤ 64 := getD_all (P := fun x : Nat => x ≤ 64) (fun x hx => (h.rm x hx).2) (Nat.zero_le _) c
    rw [held_eq]
    exact ⟨h2, Nat.zero_le _, by dsimp only; omega⟩
  · intro x hx
    obtain ⟨l, hl, rfl⟩ := List.mem_map.1 hx
    exact k.bln l hl
theorem Side.receive_peer {s : Side} (h : s.Ok) (m y : Int) : (s.receive m y).peer ≤ 1099511627775 := by
  have := h.receive m y; have := this.peer; have := (h.receive m y).seen; omega
theorem Prt.Ok.greet {N : Nat} {p : Prt} (h : p.Ok N) (x : Pt) : (p.greet x).Ok (N + 200) := by
  have k := h.mono (show N ≤ N + 200 by omega)
  have h1 : ({ p with side := p.side.receive x.number x.value } : Prt).Ok N := ⟨h.n1, h.n4, h.rm, h.i1, h.i2, h.w1, h.w2, h.t1, h.t2, h.d1, h.d2, (h.side.receive _ _), h.arb, h.wl, h.bl, h.tl, h.gl, h.sl, h.al, h.rl, h.kl, h.peer, h.snd, h.win, h.tot, h.rcv, h.kept, h.kcl, h.wsz, h.wln, h.bsz, h.bln, h.tak, h.giv, h.bas, h.acn, h.ren, h.tan, h.ovn⟩
  unfold Prt.greet
  dsimp only
  split
  · exact (h1.begin (Side.receive_peer h.side _ _)).mono (by omega)
  · exact h1.mono (by omega)
theorem Prt.Ok.receive {N : Nat} {p : Prt} (h : p.Ok N) (x : Pt) (hx : x.pay.length ≤ 1000) : (p.receive x).Ok (N + 200) := by
  have k := h.mono (show N ≤ N + 200 by omega)
  have hr := h.rcv; have ho := h.ovn
  unfold Prt.receive
  split
  · exact k
  · dsimp only
    split
    · exact ⟨k.n1, k.n4, k.rm, k.i1, k.i2, k.w1, k.w2, k.t1, k.t2, k.d1, k.d2, k.side, k.arb, k.wl, k.bl, k.tl, k.gl, k.sl, k.al, k.rl, k.kl, k.peer, k.snd, k.win, k.tot, (by dsimp only; omega), k.kept, k.kcl, k.wsz, k.wln, k.bsz, k.bln, k.tak, k.giv, k.bas, k.acn, k.ren, k.tan, (by dsimp only; omega)⟩
    · exact ⟨k.n1, k.n4, k.rm, k.i1, k.i2, k.w1, k.w2, k.t1, k.t2, k.d1, k.d2, k.side, k.arb, k.wl, (by simp [h.bl]), k.tl, (by simp [h.gl]), k.sl, k.al, (by simp [h.rl]), k.kl, k.peer, k.snd, k.win, k.tot, (by dsimp only; omega), k.kept, k.kcl, k.wsz, k.wln, (mem_set k.bsz (fun d hd => by
        rcases List.mem_append.1 hd with hd | hd
        · exact getD_all (P := fun l : List Bytes => ∀ d ∈ l, d.length ≤ 1000) k.bsz (by simp) _ d hd
        · rw [List.mem_singleton.1 hd]; exact hx)), (mem_set k.bln (by
        have := getD_all (P := fun l : List Bytes => l.length ≤ N) (d := []) h.bln (Nat.zero_le _) x.cls.toNat
        rw [List.length_append, List.length_singleton]; omega)), k.tak, (mem_set k.giv (by
        have h0 := getD_all (P := fun g : Giv => g.room ≤ 64 ∧ g.freed ≤ g.received ∧ g.received ≤ N) (d := ⟨0, 0, 0⟩) h.giv ⟨Nat.zero_le _, Nat.le_refl _, Nat.zero_le _⟩ x.cls.toNat
        unfold Giv.receive
        split
        · exact ⟨h0.1, h0.2.1, Nat.le_trans h0.2.2 (by omega)⟩
        · exact ⟨h0.1, by dsimp only; omega, by dsimp only; omega⟩)), k.bas, k.acn, (mem_set k.ren (by
        have := getD_all (P := fun x : Nat => x ≤ N) (d := 0) h.ren (Nat.zero_le _) x.cls.toNat
        omega)), k.tan, k.ovn⟩
theorem Prt.Ok.acknowledge {N : Nat} {p : Prt} (h : p.Ok N) (x : Pt) : (p.acknowledge x).Ok (N + 200) := by
  have k := h.mono (show N ≤ N + 200 by omega)
  have hkl := h.beg.kl
  have hak := ack_le h.snd x.number
  have hkk := h.keptl
  unfold Prt.acknowledge
  have hw : (p.snd.ack x.number).2.window = p.snd.window := by
    unfold Snd.ack Snd.accept
    cases p.snd.count x.number with
    | none => rfl
    | some k => unfold Snd.drop; dsimp only; split <;> rfl
  have hkd : (p.snd.ack x.number).2.kept = p.snd.kept.drop (p.snd.ack x.number).1 := by
    unfold Snd.ack Snd.accept
    cases p.snd.count x.number with
    | none => simp
    | some k => unfold Snd.drop; dsimp only; split
                · rename_i h0; subst h0; simp
                · rfl
  exact ⟨k.n1, k.n4, k.rm, k.i1, k.i2, k.w1, k.w2, k.t1, k.t2, k.d1, k.d2, k.side, k.arb, k.wl, k.bl, k.tl, k.gl, k.sl, (by rw [tally_length]; exact h.al), k.rl, k.kl, k.peer, (ack_ok h.snd _), (by rw [hw]; exact h.win), (by have := accept_total h.snd x.number; show (p.snd.accept x.number).2.total ≤ _; rw [this]; exact k.tot), k.rcv, (by rw [hkd, ← h.kept, List.map_drop]), (fun f hf => h.kcl f (List.mem_of_mem_drop hf)), k.wsz, k.wln, k.bsz, k.bln, k.tak, k.giv, k.bas, (fun y hy => by have := tally_le _ h.acn y hy; rw [List.length_take] at this; omega), k.ren, k.tan, k.ovn⟩
theorem Tak.raise_ok {t : Tak} (h : t.sent ≤ t.limit ∧ t.limit ≤ 1099511627776) (l : Int) : (t.raise l).sent ≤ (t.raise l).limit ∧ (t.raise l).limit ≤ 1099511627776 := by
  unfold Tak.raise
  split
  · exact h
  · dsimp only; omega
theorem Prt.Ok.raise {N : Nat} {p : Prt} (h : p.Ok N) (x : Pt) : (p.raise x).Ok (N + 200) := by
  have k := h.mono (show N ≤ N + 200 by omega)
  unfold Prt.raise
  split
  · exact ⟨k.n1, k.n4, k.rm, k.i1, k.i2, k.w1, k.w2, k.t1, k.t2, k.d1, k.d2, k.side, k.arb, k.wl, k.bl, (by simp [h.tl]), k.gl, k.sl, k.al, k.rl, k.kl, k.peer, k.snd, k.win, k.tot, k.rcv, k.kept, k.kcl, k.wsz, k.wln, k.bsz, k.bln, (mem_set k.tak (Tak.raise_ok (getD_all (P := fun t : Tak => t.sent ≤ t.limit ∧ t.limit ≤ 1099511627776) k.tak ⟨Nat.le_refl _, Nat.zero_le _⟩ _) _)), k.giv, k.bas, k.acn, k.ren, k.tan, k.ovn⟩
  · exact k
theorem Prt.Ok.handle {N : Nat} {p : Prt} (h : p.Ok N) (x : Pt) (hx : x.pay.length ≤ 1000) : (p.handle x).Ok (N + 200) := by
  have k := h.mono (show N ≤ N + 200 by omega)
  unfold Prt.handle
  split
  · exact h.greet x
  · split
    · exact k
    · split
      · exact h.receive x hx
      · split
        · exact h.acknowledge x
        · split
          · exact h.raise x
          · exact k
theorem Prt.Ok.handles {N : Nat} {p : Prt} (h : p.Ok N) : ∀ (l : List Pt), (∀ x ∈ l, x.pay.length ≤ 1000) → (l.foldl Prt.handle p).Ok (N + 200 * l.length)
  | [], _ => h
  | x :: l, hl => by
    rw [List.foldl_cons, List.length_cons]
    exact ((h.handle x (hl x List.mem_cons_self)).handles l fun y hy => hl y (List.mem_cons_of_mem _ hy)).mono (by omega)
theorem Prt.Ok.sideTick {N : Nat} {p : Prt} (h : p.Ok N) : ({ p with side := p.side.tick } : Prt).Ok N := ⟨h.n1, h.n4, h.rm, h.i1, h.i2, h.w1, h.w2, h.t1, h.t2, h.d1, h.d2, (h.side.tick), h.arb, h.wl, h.bl, h.tl, h.gl, h.sl, h.al, h.rl, h.kl, h.peer, h.snd, h.win, h.tot, h.rcv, h.kept, h.kcl, h.wsz, h.wln, h.bsz, h.bln, h.tak, h.giv, h.bas, h.acn, h.ren, h.tan, h.ovn⟩
/-- a frame that is chosen is taken by the sender -/
theorem offer_takes {s : Snd} {d : Bytes} (h1 : d.length ≤ 64) (h2 : s.kept.length < s.window) : s.offer d = (0, { s with kept := s.kept ++ [d] }) := by
  unfold Snd.offer; rw [if_neg (by omega), if_neg (by omega)]
theorem Prt.pick_some {N : Nat} {p : Prt} (h : p.Ok N) {c : Nat} (hc : (p.arb.pick p.requests).1 = some c) : c < p.rooms.length ∧ 0 < (p.waiting.getD c []).length ∧ (p.tak.getD c ⟨0, 0⟩).sent < (p.tak.getD c ⟨0, 0⟩).limit := by
  have hl : p.requests.length = p.rooms.length := by unfold Prt.requests; simp [h.wl]
  have hf := firstReq_lt (req := p.requests) (ptr := p.arb.ptr) (n := p.requests.length) (by rw [hl]; exact h.n1) (k := p.requests.length) (i := 0) (c := c) hc
  have hcl : c < p.rooms.length := by rw [← hl]; exact hf.1
  have := hf.2
  unfold Prt.requests at this
  rw [List.getD, List.getElem?_map, List.getElem?_range (by rw [h.wl]; exact hcl)] at this
  have h3 : (decide (0 < (p.waiting.getD c []).length) && decide ((p.tak.getD c ⟨0, 0⟩).sent < (p.tak.getD c ⟨0, 0⟩).limit)) = true := this
  rw [Bool.and_eq_true] at h3
  exact ⟨hcl, of_decide_eq_true h3.1, of_decide_eq_true h3.2⟩
theorem Prt.Ok.choose {N : Nat} {p : Prt} (h : p.Ok N) : p.choose.Ok (N + 1) := by
  have k := h.mono (show N ≤ N + 1 by omega)
  have hrl : p.requests.length = p.rooms.length := by unfold Prt.requests; simp [h.wl]
  have harb : (p.arb.pick p.requests).2.Ok p.rooms.length := by
    have := h.arb; rw [← hrl] at this ⊢; exact this.pick
  unfold Prt.choose
  split
  · exact k
  · rename_i hroom
    split
    · exact ⟨k.n1, k.n4, k.rm, k.i1, k.i2, k.w1, k.w2, k.t1, k.t2, k.d1, k.d2, k.side, (harb), k.wl, k.bl, k.tl, k.gl, k.sl, k.al, k.rl, k.kl, k.peer, k.snd, k.win, k.tot, k.rcv, k.kept, k.kcl, k.wsz, k.wln, k.bsz, k.bln, k.tak, k.giv, k.bas, k.acn, k.ren, k.tan, k.ovn⟩
    · rename_i c hc
      obtain ⟨q1, q2, q3⟩ := Prt.pick_some h hc
      obtain ⟨d, l, hdl⟩ : ∃ d l, p.waiting.getD c [] = d :: l := by
        cases hw : p.waiting.getD c [] with
        | nil => rw [hw] at q2; simp at q2
        | cons d l => exact ⟨d, l, rfl⟩
      have hm : d :: l ∈ p.waiting := by rw [← hdl]; exact List.mem_of_getElem? (getD_of (by rw [h.wl]; exact q1))
      have hd := h.wsz _ hm d List.mem_cons_self
      have hln := h.wln _ hm
      have hot := h.tot
      rw [hdl]
      have hof := offer_takes (s := p.snd) (d := d) hd (by rw [h.win]; omega)
      show Prt.Ok (N + 1) { p with arb := _, waiting := p.waiting.set c l, tak := _, snd := (p.snd.offer d).2, kept := p.kept ++ [(c, d)] }
      rw [hof]
      have hoo : ({ p.snd with kept := p.snd.kept ++ [d] } : Snd).Ok := by have := offer_ok h.snd d; rwa [hof] at this
      exact ⟨k.n1, k.n4, k.rm, k.i1, k.i2, k.w1, k.w2, k.t1, k.t2, k.d1, k.d2, k.side, (harb), (by simp [h.wl]), k.bl, (by simp [h.tl]), k.gl, k.sl, k.al, k.rl, k.kl, k.peer, (hoo), (h.win), (by simp only [Snd.total, List.length_append, List.length_singleton] at hot ⊢; omega), k.rcv, (by rw [List.map_append, h.kept]; rfl), (fun f hf => by
        rcases List.mem_append.1 hf with hf | hf
        · exact h.kcl f hf
        · rw [List.mem_singleton.1 hf]; exact q1), (mem_set k.wsz fun e he => h.wsz _ hm e (List.mem_cons_of_mem _ he)), (mem_set k.wln (by rw [List.length_cons] at hln; omega)), k.bsz, k.bln, (mem_set k.tak (by
        have := getD_all (P := fun t : Tak => t.sent ≤ t.limit ∧ t.limit ≤ 1099511627776) (d := ⟨0, 0⟩) k.tak ⟨Nat.le_refl _, Nat.zero_le _⟩ c
        unfold Tak.take
        split
        · exact this
        · dsimp only; omega)), k.giv, k.bas, k.acn, k.ren, k.tan, k.ovn⟩
theorem snd_tick_kept (s : Snd) : s.tick.2.kept = s.kept ∧ s.tick.2.window = s.window := by
  unfold Snd.tick
  split
  · exact ⟨rfl, rfl⟩
  · split
    · split <;> exact ⟨rfl, rfl⟩
    · exact ⟨rfl, rfl⟩
theorem Prt.Ok.sndTick {N : Nat} {p : Prt} (h : p.Ok N) : ({ p with snd := p.snd.tick.2 } : Prt).Ok N := by
  have h1 := snd_tick_kept p.snd
  exact ⟨h.n1, h.n4, h.rm, h.i1, h.i2, h.w1, h.w2, h.t1, h.t2, h.d1, h.d2, h.side, h.arb, h.wl, h.bl, h.tl, h.gl, h.sl, h.al, h.rl, h.kl, h.peer, (tick_ok h.snd), (by rw [h1.2]; exact h.win), (by rw [tick_total]; exact h.tot), h.rcv, (by rw [h1.1]; exact h.kept), h.kcl, h.wsz, h.wln, h.bsz, h.bln, h.tak, h.giv, h.bas, h.acn, h.ren, h.tan, h.ovn⟩
theorem Prt.Ok.tick {N : Nat} {p : Prt} (h : p.Ok N) {l : List Pt} (hl : ∀ x ∈ l, x.pay.length ≤ 1000) : (p.tick l).2.Ok (N + 200 * l.length + 1) := by
  have h1 := (h.handles l hl).sideTick
  unfold Prt.tick
  dsimp only
  split
  · exact h1.mono (by omega)
  · have h2 := h1.choose.sndTick
    cases ht : (Prt.choose { l.foldl Prt.handle p with side := (l.foldl Prt.handle p).side.tick }).snd.tick with
    | mk o s =>
      rw [ht] at h2
      cases o with
      | none => exact h2
      | some nd => exact h2
theorem Prt.Ok.offer {N : Nat} {p : Prt} (h : p.Ok N) (c : Int) (d : Bytes) : (p.offer c d).2.Ok (N + 65) := by
  have k := h.mono (show N ≤ N + 65 by omega)
  unfold Prt.offer
  split
  · exact k
  · rename_i h0
    split
    · exact k
    · rename_i h1
      have hc : 0 ≤ c ∧ c < p.rooms.length := Decidable.byContradiction fun hc => h0 (.inl hc)
      have hd : d.length ≤ 64 := Nat.le_of_not_lt fun hc => h0 (.inr hc)
      have hm : p.waiting.getD c.toNat [] ∈ p.waiting := List.mem_of_getElem? (getD_of (by rw [h.wl]; omega))
      exact ⟨k.n1, k.n4, k.rm, k.i1, k.i2, k.w1, k.w2, k.t1, k.t2, k.d1, k.d2, k.side, k.arb, (by simp [h.wl]), k.bl, k.tl, k.gl, k.sl, k.al, k.rl, k.kl, k.peer, k.snd, k.win, k.tot, k.rcv, k.kept, k.kcl, (mem_set k.wsz fun e he => by
        rcases List.mem_append.1 he with he | he
        · exact h.wsz _ hm e he
        · rw [List.mem_singleton.1 he]; exact hd), (mem_set k.wln (by rw [List.length_append, List.length_singleton]; omega)), k.bsz, k.bln, k.tak, k.giv, k.bas, k.acn, k.ren, k.tan, k.ovn⟩
theorem Giv.free_ok {g : Giv} {N : Nat} (h : g.room ≤ 64 ∧ g.freed ≤ g.received ∧ g.received ≤ N) : g.free.room ≤ 64 ∧ g.free.freed ≤ g.free.received ∧ g.free.received ≤ N := by
  unfold Giv.free
  split
  · exact h
  · dsimp only; omega
theorem Prt.Ok.take {N : Nat} {p : Prt} (h : p.Ok N) (c : Int) : (p.take c).2.Ok (N + 1) := by
  have k := h.mono (show N ≤ N + 1 by omega)
  unfold Prt.take
  split
  · exact k
  · rename_i d hd
    have hc : p.has c := by
      unfold Prt.peek at hd
      split at hd
      · assumption
      · cases hd
    have hc' : 0 ≤ c ∧ c < p.rooms.length := hc
    have hm : p.buffer.getD c.toNat [] ∈ p.buffer := List.mem_of_getElem? (getD_of (by rw [h.bl]; omega))
    have hg : p.giv.getD c.toNat ⟨0, 0, 0⟩ ∈ p.giv := List.mem_of_getElem? (getD_of (by rw [h.gl]; omega))
    have ht : p.taken.getD c.toNat 0 ∈ p.taken := List.mem_of_getElem? (getD_of (by rw [h.kl]; omega))
    have ht' := h.tan _ ht
    exact ⟨k.n1, k.n4, k.rm, k.i1, k.i2, k.w1, k.w2, k.t1, k.t2, k.d1, k.d2, k.side, k.arb, k.wl, (by simp [h.bl]), k.tl, (by simp [h.gl]), k.sl, k.al, k.rl, (by simp [h.kl]), k.peer, k.snd, k.win, k.tot, k.rcv, k.kept, k.kcl, k.wsz, k.wln, (mem_set k.bsz fun e he => h.bsz _ hm e (List.mem_of_mem_drop he)), (mem_set k.bln (by have := h.bln _ hm; rw [List.length_drop]; omega)), k.tak, (mem_set k.giv (Giv.free_ok (k.giv _ hg))), k.bas, k.acn, k.ren, (mem_set k.tan (by omega)), k.ovn⟩
theorem newPrt_ok {inc wi ti de : Nat} {rooms : List Nat} (n1 : 1 ≤ rooms.length) (n4 : rooms.length ≤ 4) (rm : ∀ x ∈ rooms, 1 ≤ x ∧ x ≤ 64) (i1 : 1 ≤ inc) (i2 : inc ≤ 1099511627775) (w1 : 1 ≤ wi) (w2 : wi ≤ 128) (t1 : 1 ≤ ti) (t2 : ti ≤ 1000) (d1 : 1 ≤ de) (d2 : de ≤ 1000) :
    (newPrt inc rooms wi ti de).Ok 200 := by
  have hr0 : ∀ x ∈ List.replicate rooms.length (0 : Nat), x ≤ 0 := fun x hx => by rw [(List.mem_replicate.1 hx).2]; exact Nat.le_refl _
  have h : Prt.Ok 0 ⟨inc, rooms, wi, ti, de, newSide inc de, newArb rooms.length, List.replicate rooms.length [], List.replicate rooms.length [], 0, newSnd wi ti, 0, List.replicate rooms.length ⟨0, 0⟩, List.replicate rooms.length ⟨0, 0, 0⟩, List.replicate rooms.length 0, [], List.replicate rooms.length 0, List.replicate rooms.length 0, List.replicate rooms.length 0, 0⟩ :=
    ⟨(n1), (n4), (rm), (i1), (i2), (w1), (w2), (t1), (t2), (d1), (d2), (newSide_ok i1 i2 d1 d2), (newArb_ok n1 (by omega)), (by simp), (by simp), (by simp), (by simp), (by simp), (by simp), (by simp), (by simp), (Nat.zero_le _), (newSnd_ok w1 w2 t1 t2), (rfl), (Nat.le_refl _), (Nat.le_refl _), (rfl), (fun f hf => by cases hf), (fun l hl => by rw [(List.mem_replicate.1 hl).2]; simp), (fun l hl => by rw [(List.mem_replicate.1 hl).2]; exact Nat.le_refl _), (fun l hl => by rw [(List.mem_replicate.1 hl).2]; simp), (fun l hl => by rw [(List.mem_replicate.1 hl).2]; exact Nat.le_refl _), (fun t ht => by rw [(List.mem_replicate.1 ht).2]; exact ⟨Nat.le_refl _, Nat.zero_le _⟩), (fun t ht => by rw [(List.mem_replicate.1 ht).2]; exact ⟨Nat.zero_le _, Nat.le_refl _, Nat.le_refl _⟩), (hr0), (hr0), (hr0), (hr0), (Nat.le_refl _)⟩
  have := (h.begin (peer := 0) (by omega)).mono (show 0 + 128 ≤ 200 by omega)
  exact this
end Go.Proofs.Ytcocnfbhileheaa
