/- Layer 11 (port) in plain words, with the layers under it: the side of a link, the arbiter, credits. No program in sight. -/
import Derived.Test.YtcocnfbhileheaaRetM
namespace Go.Proofs.Ytcocnfbhileheaa

/-- a side of a link (the count of changes left out: no statement of this part reads it) -/
structure Side where
  mine : Nat
  dead : Nat
  peer : Nat
  seen : Nat
  state : Nat
  silent : Nat
def newSide (mine dead : Nat) : Side := ⟨mine, dead, 0, 0, 0, 0⟩
def Side.tick (s : Side) : Side :=
  if s.peer = 0 then s else if s.dead ≤ s.silent + 1 then { s with state := 0, peer := 0, silent := 0 } else { s with silent := s.silent + 1 }
def Side.receive (s : Side) (mine yours : Int) : Side :=
  if mine < 1 ∨ 1099511627775 < mine ∨ mine < s.seen then s
  else { s with seen := mine.toNat, silent := 0, peer := mine.toNat, state := if yours = s.mine then 2 else 1 }
structure Side.Ok (s : Side) : Prop where
  m1 : 1 ≤ s.mine
  m2 : s.mine ≤ 1099511627775
  d1 : 1 ≤ s.dead
  d2 : s.dead ≤ 1000
  seen : s.seen ≤ 1099511627775
  peer : s.peer ≤ s.seen
  state : s.state ≤ 2
  zero : s.peer = 0 ↔ s.state = 0
  silent : s.silent < s.dead
theorem newSide_ok {a b : Nat} (h1 : 1 ≤ a) (h2 : a ≤ 1099511627775) (h3 : 1 ≤ b) (h4 : b ≤ 1000) : (newSide a b).Ok :=
  ⟨h1, h2, h3, h4, by simp [newSide], by simp [newSide], by simp [newSide], by simp [newSide], h3⟩
theorem Side.Ok.tick {s : Side} (h : s.Ok) : s.tick.Ok := by
  obtain ⟨a1, a2, a3, a4, a5, a6, a7, a8, a9⟩ := h
  unfold Side.tick
  split
  · exact ⟨a1, a2, a3, a4, a5, a6, a7, a8, a9⟩
  · split
    · exact ⟨a1, a2, a3, a4, a5, Nat.zero_le _, Nat.zero_le _, Iff.rfl, a3⟩
    · exact ⟨a1, a2, a3, a4, a5, a6, a7, a8, by dsimp only; omega⟩
theorem Side.Ok.receive {s : Side} (h : s.Ok) (m y : Int) : (s.receive m y).Ok := by
  obtain ⟨a1, a2, a3, a4, a5, a6, a7, a8, a9⟩ := h
  unfold Side.receive
  split
  · exact ⟨a1, a2, a3, a4, a5, a6, a7, a8, a9⟩
  · refine ⟨a1, a2, a3, a4, by dsimp only; omega, by dsimp only; omega, ?_, ?_, a3⟩
    · dsimp only; split <;> omega
    · dsimp only; split <;> omega

/-- the arbiter -/
structure Arb where
  ptr : Nat
  ages : List Nat
def newArb (n : Nat) : Arb := ⟨0, List.replicate n 0⟩
/-- the first request among the k places from the pointer on -/
def firstReq (req : List Bool) (ptr n : Nat) : Nat → Nat → Option Nat
  | _, 0 => none
  | i, k + 1 => if req.getD ((ptr + i) % n) false then some ((ptr + i) % n) else firstReq req ptr n (i + 1) k
def Arb.choice (a : Arb) (req : List Bool) : Option Nat := firstReq req a.ptr req.length 0 req.length
def Arb.pick (a : Arb) (req : List Bool) : Option Nat × Arb :=
  (a.choice req, ⟨match a.choice req with | some c => (c + 1) % req.length | none => a.ptr,
    (List.range req.length).map fun i => if req.getD i false = true ∧ some i ≠ a.choice req then min (a.ages.getD i 0 + 1) 1073741824 else 0⟩)

/-- credits -/
structure Giv where
  room : Nat
  received : Nat
  freed : Nat
structure Tak where
  sent : Nat
  limit : Nat
def Giv.limit (g : Giv) : Nat := g.room + g.freed
def Giv.receive (g : Giv) : Bool × Giv := if g.limit ≤ g.received then (false, g) else (true, { g with received := g.received + 1 })
def Giv.free (g : Giv) : Giv := if g.received ≤ g.freed then g else { g with freed := g.freed + 1 }
def Tak.raise (t : Tak) (l : Int) : Tak := if l < 0 ∨ 1099511627776 < l then t else { t with limit := max t.limit l.toNat }
def Tak.take (t : Tak) : Tak := if t.limit ≤ t.sent then t else { t with sent := t.sent + 1 }

/-- a packet of a port -/
structure Pt where
  kind : BitVec 8
  cls : Int
  number : Int
  value : Int
  pay : Bytes
/-- a port -/
structure Prt where
  inc : Nat
  rooms : List Nat
  window : Nat
  timeout : Nat
  dead : Nat
  side : Side
  arb : Arb
  waiting : List (List Bytes)
  buffer : List (List Bytes)
  peer : Nat
  snd : Snd
  rcv : Nat
  tak : List Tak
  giv : List Giv
  base : List Nat
  kept : List (Nat × Bytes)
  acked : List Nat
  received : List Nat
  taken : List Nat
  overflows : Nat
/-- k frames are counted as received -/
def Giv.held (g : Giv) : Nat → Giv
  | 0 => g
  | k + 1 => (g.held k).receive.2
def Prt.begin (p : Prt) (peer : Nat) : Prt :=
  { p with
    waiting := (List.range p.waiting.length).map fun c => ((p.kept.filter fun f => f.1 == c).map (·.2)) ++ p.waiting.getD c []
    kept := []
    peer := peer
    snd := newSnd p.window p.timeout
    rcv := 0
    tak := List.replicate p.rooms.length ⟨0, 0⟩
    giv := (List.range p.rooms.length).map fun c => Giv.held ⟨p.rooms.getD c 0, 0, 0⟩ (p.buffer.getD c []).length
    base := p.buffer.map List.length }
def newPrt (inc : Nat) (rooms : List Nat) (window timeout dead : Nat) : Prt :=
  Prt.begin ⟨inc, rooms, window, timeout, dead, newSide inc dead, newArb rooms.length, List.replicate rooms.length [], List.replicate rooms.length [], 0, newSnd window timeout, 0,
    [], [], List.replicate rooms.length 0, [], List.replicate rooms.length 0, List.replicate rooms.length 0, List.replicate rooms.length 0, 0⟩ 0
def Prt.has (p : Prt) (c : Int) : Prop := 0 ≤ c ∧ c < p.rooms.length
instance (p : Prt) (c : Int) : Decidable (p.has c) := by unfold Prt.has; infer_instance
/-- answers: 0 done, 2 out of range, 5 full -/
def Prt.offer (p : Prt) (c : Int) (d : Bytes) : Nat × Prt :=
  if ¬ p.has c ∨ 64 < d.length then (2, p)
  else if 64 ≤ (p.waiting.getD c.toNat []).length then (5, p)
  else (0, { p with waiting := p.waiting.set c.toNat (p.waiting.getD c.toNat [] ++ [d]) })
def Prt.greet (p : Prt) (x : Pt) : Prt :=
  let q := { p with side := p.side.receive x.number x.value }
  if q.side.peer ≠ 0 ∧ q.side.peer ≠ q.peer then q.begin q.side.peer else q
def Prt.receive (p : Prt) (x : Pt) : Prt :=
  if ¬ p.has x.cls ∨ x.number ≠ (p.rcv % 256 : Nat) then p
  else
    let g := p.giv.getD x.cls.toNat ⟨0, 0, 0⟩
    if g.receive.1 = false then { p with rcv := p.rcv + 1, overflows := p.overflows + 1 }
    else { p with
      rcv := p.rcv + 1
      giv := p.giv.set x.cls.toNat g.receive.2
      buffer := p.buffer.set x.cls.toNat (p.buffer.getD x.cls.toNat [] ++ [x.pay])
      received := p.received.set x.cls.toNat (p.received.getD x.cls.toNat 0 + 1) }
/-- one more of each class named is counted -/
def tally (l : List Nat) (ks : List (Nat × Bytes)) : List Nat := ks.foldl (fun l f => l.set f.1 (l.getD f.1 0 + 1)) l
def Prt.acknowledge (p : Prt) (x : Pt) : Prt :=
  { p with snd := (p.snd.ack x.number).2, acked := tally p.acked (p.kept.take (p.snd.ack x.number).1), kept := p.kept.drop (p.snd.ack x.number).1 }
def Prt.raise (p : Prt) (x : Pt) : Prt :=
  if p.has x.cls then { p with tak := p.tak.set x.cls.toNat ((p.tak.getD x.cls.toNat ⟨0, 0⟩).raise x.number) } else p
def Prt.handle (p : Prt) (x : Pt) : Prt :=
  if x.kind = 1#8 then p.greet x
  else if ¬ (p.side.state = 2 ∧ p.side.peer ≠ 0 ∧ (p.side.peer : Int) = x.value) then p
  else if x.kind = 2#8 then p.receive x
  else if x.kind = 3#8 then p.acknowledge x
  else if x.kind = 4#8 then p.raise x
  else p
def Prt.requests (p : Prt) : List Bool := (List.range p.waiting.length).map fun c => decide (0 < (p.waiting.getD c []).length) && decide ((p.tak.getD c ⟨0, 0⟩).sent < (p.tak.getD c ⟨0, 0⟩).limit)
def Prt.choose (p : Prt) : Prt :=
  if p.window ≤ p.snd.kept.length then p
  else
    match (p.arb.pick p.requests).1 with
    | none => { p with arb := (p.arb.pick p.requests).2 }
    | some c => { p with
        arb := (p.arb.pick p.requests).2
        waiting := p.waiting.set c ((p.waiting.getD c []).drop 1)
        tak := p.tak.set c (p.tak.getD c ⟨0, 0⟩).take
        snd := (p.snd.offer ((p.waiting.getD c []).getD 0 [])).2
        kept := p.kept ++ [(c, (p.waiting.getD c []).getD 0 [])] }
def Prt.classOf (p : Prt) (number : Nat) : Nat := (p.kept.getD ((number + 256 - p.snd.acked % 256) % 256) (0, [])).1
def Prt.tick (p : Prt) (arrived : List Pt) : List Pt × Prt :=
  let p := arrived.foldl Prt.handle p
  let p := { p with side := p.side.tick }
  let hail : Pt := ⟨1#8, 0, p.inc, p.side.peer, []⟩
  if p.side.state ≠ 2 then ([hail], p)
  else
    let sent := hail :: ⟨3#8, 0, (p.rcv % 256 : Nat), p.inc, []⟩ :: ((List.range p.base.length).map fun (c : Nat) => (⟨4#8, (c : Int), ((p.giv.getD c ⟨0, 0, 0⟩).limit : Int) - ((p.base.getD c 0 : Nat) : Int), p.inc, []⟩ : Pt))
    let p := p.choose
    match p.snd.tick with
    | (some (n, d), s) => (sent ++ [⟨2#8, (Prt.classOf { p with snd := s } n : Nat), n, p.inc, d⟩], { p with snd := s })
    | (none, s) => (sent, { p with snd := s })
def Prt.peek (p : Prt) (c : Int) : Option Bytes := if p.has c then (p.buffer.getD c.toNat []).head? else none
def Prt.take (p : Prt) (c : Int) : Option Bytes × Prt :=
  match p.peek c with
  | none => (none, p)
  | some d => (some d, { p with
      buffer := p.buffer.set c.toNat ((p.buffer.getD c.toNat []).drop 1)
      giv := p.giv.set c.toNat (p.giv.getD c.toNat ⟨0, 0, 0⟩).free
      taken := p.taken.set c.toNat (p.taken.getD c.toNat 0 + 1) })
def Prt.restart (p : Prt) (inc : Int) : Nat × Prt :=
  if inc ≤ p.inc ∨ 1099511627775 < inc then (2, p) else (0, newPrt inc.toNat p.rooms p.window p.timeout p.dead)
end Go.Proofs.Ytcocnfbhileheaa
