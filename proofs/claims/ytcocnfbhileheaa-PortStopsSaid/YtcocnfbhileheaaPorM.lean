/- A port in memory; its bounds; exists, Up, Overflows. -/
import Derived.Test.YtcocnfbhileheaaMgF
import Derived.Test.YtcocnfbhileheaaMgE
import Derived.Test.YtcocnfbhileheaaMgD
namespace Go.Proofs.Ytcocnfbhileheaa
open Go.RowKit

def tSide (p : Nat) (s : Side) : Th := ⟨fun w F _ => F p ∧ SideAt w p s, fun h _ hk => by
    obtain ⟨f, ch, h⟩ := h
    have hl := lt_of_block h
    exact ⟨⟨f, hl⟩, ch, (hk p (.inl f) hl).trans h⟩, fun h hF _ => ⟨hF _ h.1, h.2⟩⟩
def tSnd (p : Nat) (s : Snd) : Th := tOld (SnO.thing p s)
abbrev rcvRow (n : Nat) : Obj := .cells #[.int .i64 (n : Int)] 143
def tRcv (p n : Nat) : Th := tBlk p (rcvRow n)
def eKept : El (Nat × List (BitVec 8)) := eProd eNat eBy
/-- where the parts of a port lie -/
structure PV where
  rv : Value
  sp : Nat
  ap : Nat
  wv : Value
  bv : Value
  snp : Nat
  rcp : Nat
  tkp : Nat
  gvp : Nat
  bsv : Value
  kv : Value
  acv : Value
  rev : Value
  tav : Value
abbrev portRow (a : Prt) (x : PV) : Obj :=
  .cells #[.int .i64 (a.inc : Int), x.rv, .int .i64 (a.window : Int), .int .i64 (a.timeout : Int), .int .i64 (a.dead : Int), .pointer (some ⟨x.sp, 0, none⟩), .pointer (some ⟨x.ap, 0, none⟩), x.wv, x.bv, .int .i64 (a.peer : Int),
    .pointer (some ⟨x.snp, 0, none⟩), .pointer (some ⟨x.rcp, 0, none⟩), .pointer (some ⟨x.tkp, 0, none⟩), .pointer (some ⟨x.gvp, 0, none⟩), x.bsv, x.kv, x.acv, x.rev, x.tav, .int .i64 (a.overflows : Int)] 101
/-- the parts -/
abbrev portThs (p : Nat) (a : Prt) (x : PV) : List Th :=
  [tBlk p (portRow a x), tSq eNat 3 x.rv a.rooms, tSide x.sp a.side, tArb x.ap a.arb, tSq (eSq eBy 31) 48 x.wv a.waiting, tSq (eSq eBy 31) 48 x.bv a.buffer,
    tSnd x.snp a.snd, tRcv x.rcp a.rcv, tTak x.tkp a.tak, tGiv x.gvp a.giv, tSq eNat 3 x.bsv a.base, tSq eKept 134 x.kv a.kept, tSq eNat 3 x.acv a.acked, tSq eNat 3 x.rev a.received, tSq eNat 3 x.tav a.taken]
/-- a port -/
def tPort (p : Nat) (a : Prt) : Th := tEx (portThs p a)
/-- the bounds of a port -/
structure Prt.Ok (N : Nat) (p : Prt) : Prop where
  n1 : 1 ≤ p.rooms.length
  n4 : p.rooms.length ≤ 4
  rm : ∀ x ∈ p.rooms, 1 ≤ x ∧ x ≤ 64
  i1 : 1 ≤ p.inc
  i2 : p.inc ≤ 1099511627775
  w1 : 1 ≤ p.window
  w2 : p.window ≤ 128
  t1 : 1 ≤ p.timeout
  t2 : p.timeout ≤ 1000
  d1 : 1 ≤ p.dead
  d2 : p.dead ≤ 1000
  side : p.side.Ok
  arb : p.arb.Ok p.rooms.length
  wl : p.waiting.length = p.rooms.length
  bl : p.buffer.length = p.rooms.length
  tl : p.tak.length = p.rooms.length
  gl : p.giv.length = p.rooms.length
  sl : p.base.length = p.rooms.length
  al : p.acked.length = p.rooms.length
  rl : p.received.length = p.rooms.length
  kl : p.taken.length = p.rooms.length
  peer : p.peer ≤ 1099511627775
  snd : p.snd.Ok
  win : p.snd.window = p.window
  tot : p.snd.total ≤ N
  rcv : p.rcv ≤ N
  kept : p.kept.map (·.2) = p.snd.kept
  kcl : ∀ f ∈ p.kept, f.1 < p.rooms.length
  wsz : ∀ l ∈ p.waiting, ∀ d ∈ l, d.length ≤ 64
  wln : ∀ l ∈ p.waiting, l.length ≤ N
  bsz : ∀ l ∈ p.buffer, ∀ d ∈ l, d.length ≤ 1000
  bln : ∀ l ∈ p.buffer, l.length ≤ N
  tak : ∀ t ∈ p.tak, t.sent ≤ t.limit ∧ t.limit ≤ 1099511627776
  giv : ∀ g ∈ p.giv, g.room ≤ 64 ∧ g.freed ≤ g.received ∧ g.received ≤ N
  bas : ∀ x ∈ p.base, x ≤ N
  acn : ∀ x ∈ p.acked, x ≤ N
  ren : ∀ x ∈ p.received, x ≤ N
  tan : ∀ x ∈ p.taken, x ≤ N
  ovn : p.overflows ≤ N
section
variable {w : World} {F Z : BS} {W : World} {ts : List Th} {p : Nat} {a : Prt} {x : PV}
theorem port_cells (h : w.heap[p]? = some (portRow a x)) :
    w.cell? ⟨p, 0, none⟩ = some (.int .i64 (a.inc : Int)) ∧ w.cell? ⟨p, 1, none⟩ = some x.rv ∧ w.cell? ⟨p, 2, none⟩ = some (.int .i64 (a.window : Int)) ∧ w.cell? ⟨p, 3, none⟩ = some (.int .i64 (a.timeout : Int)) ∧ w.cell? ⟨p, 4, none⟩ = some (.int .i64 (a.dead : Int)) ∧
    w.cell? ⟨p, 5, none⟩ = some (.pointer (some ⟨x.sp, 0, none⟩)) ∧ w.cell? ⟨p, 6, none⟩ = some (.pointer (some ⟨x.ap, 0, none⟩)) ∧ w.cell? ⟨p, 7, none⟩ = some x.wv ∧ w.cell? ⟨p, 8, none⟩ = some x.bv ∧ w.cell? ⟨p, 9, none⟩ = some (.int .i64 (a.peer : Int)) ∧
    w.cell? ⟨p, 10, none⟩ = some (.pointer (some ⟨x.snp, 0, none⟩)) ∧ w.cell? ⟨p, 11, none⟩ = some (.pointer (some ⟨x.rcp, 0, none⟩)) ∧ w.cell? ⟨p, 12, none⟩ = some (.pointer (some ⟨x.tkp, 0, none⟩)) ∧ w.cell? ⟨p, 13, none⟩ = some (.pointer (some ⟨x.gvp, 0, none⟩)) ∧
    w.cell? ⟨p, 14, none⟩ = some x.bsv ∧ w.cell? ⟨p, 15, none⟩ = some x.kv ∧ w.cell? ⟨p, 16, none⟩ = some x.acv ∧ w.cell? ⟨p, 17, none⟩ = some x.rev ∧ w.cell? ⟨p, 18, none⟩ = some x.tav ∧ w.cell? ⟨p, 19, none⟩ = some (.int .i64 (a.overflows : Int)) :=
  ⟨blk_cell h rfl, blk_cell h rfl, blk_cell h rfl, blk_cell h rfl, blk_cell h rfl, blk_cell h rfl, blk_cell h rfl, blk_cell h rfl, blk_cell h rfl, blk_cell h rfl, blk_cell h rfl, blk_cell h rfl, blk_cell h rfl, blk_cell h rfl, blk_cell h rfl, blk_cell h rfl, blk_cell h rfl, blk_cell h rfl, blk_cell h rfl, blk_cell h rfl⟩
theorem Held.port {G Y : BS} (h : (tPort p a).on w G Y) (hd : Dj G Y) : ∃ x, Held G Y w (portThs p a x) w := by
  obtain ⟨x, h⟩ := Held.opens (Held.start1 h hd)
  exact ⟨x, by simpa using h⟩
theorem Held.port_did {G Y : BS} {w0 : World} (h : Held G Y w0 (portThs p a x) w) : Did w0 G Y [tPort p a] w := (Held.shut (f := portThs p a) (ts := []) (by simpa using h)).did
/-- is there such a class -/
def hasC (n : Nat) (c : Int) : Bool := decide (0 ≤ c ∧ c < n)
theorem exists_yes {n : Nat} (c : Nat) (ra : Option Addr) (rc : Nat) (hc : c < n) (h1 : w.cell? ⟨p, 1, none⟩ = some (.slice ra n rc)) :
    Calls Try.prog 43 #[.pointer (some ⟨p, 0, none⟩), .int .i64 (c : Int)] w fun e w' => e = .returned (.bool true) ∧ w = w' := by
  go_enter Try.func43, Try.ntmps43
  go_wp2_with fail
  go_ret
  exact ⟨by simp, rfl⟩
theorem exists_no {n : Nat} (c : Int) (ra : Option Addr) (rc : Nat) (hc : c < 0 ∨ (n : Int) ≤ c) (h1 : w.cell? ⟨p, 1, none⟩ = some (.slice ra n rc)) :
    Calls Try.prog 43 #[.pointer (some ⟨p, 0, none⟩), .int .i64 c] w fun e w' => e = .returned (.bool false) ∧ w = w' := by
  have hc' : c < 0 ∨ (0 ≤ c ∧ (n : Int) ≤ c) := by omega
  clear hc
  rcases hc' with h0 | ⟨h0, h2⟩
  all_goals
    go_enter Try.func43, Try.ntmps43
    go_wp2_with fail
    go_ret
    exact ⟨by first | rfl | simp; try omega, rfl⟩
theorem exists_nil (c : Int) : Calls Try.prog 43 #[.pointer none, .int .i64 c] w fun e w' => e = .returned (.bool false) ∧ w = w' := by
  go_enter Try.func43, Try.ntmps43
  go_wp2_with fail
  go_ret
  exact ⟨rfl, rfl⟩
theorem up_any (h : Held F Z W ts w) (i : Nat) (hi : ts[i]? = some (tPort p a)) : Calls Try.prog 16 #[.pointer (some ⟨p, 0, none⟩)] w fun e w' => e = .returned (.bool (decide (a.side.state = 2))) ∧ w = w' := by
  obtain ⟨G, Y, x, hst⟩ := h.get i hi
  have c5 := (port_cells (hst.get (i := 0) rfl).1).2.2.2.2.2.1
  have hs := (hst.get (i := 2) rfl).2
  have HQ := Lib.hid (state_any x.sp a.side w hs)
  have hb : ((a.side.state : Int) == 2) = decide (a.side.state = 2) := by rw [Bool.eq_iff_iff]; simp; omega
  rw [← hb]
  clear hst hs hi h hb
  go_enter Try.func16, Try.ntmps16
  go_wp2_with (go_at_call 47; refine HQ.out.mono ?_; rintro e w' ⟨rfl, rfl⟩)
  go_ret
  exact ⟨rfl, rfl⟩
theorem up_nil : Calls Try.prog 16 #[.pointer none] w fun e w' => e = .returned (.bool false) ∧ w = w' := by
  go_enter Try.func16, Try.ntmps16
  go_wp2_with fail
  go_ret
  exact ⟨rfl, rfl⟩
theorem overflows_any (h : Held F Z W ts w) (i : Nat) (hi : ts[i]? = some (tPort p a)) : Calls Try.prog 28 #[.pointer (some ⟨p, 0, none⟩)] w fun e w' => e = .returned (.int .i64 (a.overflows : Int)) ∧ w = w' := by
  obtain ⟨G, Y, x, hst⟩ := h.get i hi
  have c19 := (port_cells (hst.get (i := 0) rfl).1).2.2.2.2.2.2.2.2.2.2.2.2.2.2.2.2.2.2.2
  clear hst hi h
  go_enter Try.func28, Try.ntmps28
  go_wp2_with fail
  go_ret
  exact ⟨rfl, rfl⟩
theorem overflows_nil : Calls Try.prog 28 #[.pointer none] w fun e w' => e = .returned (.int .i64 0) ∧ w = w' := by
  go_enter Try.func28, Try.ntmps28
  go_wp2_with fail
  go_ret
  exact ⟨rfl, rfl⟩
end
end Go.Proofs.Ytcocnfbhileheaa
