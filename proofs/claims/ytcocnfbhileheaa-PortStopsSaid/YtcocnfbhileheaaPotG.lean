/- A port in memory: Restart. -/
import Derived.Test.YtcocnfbhileheaaPotW
import Derived.Great.BuildSlice
namespace Go.Proofs.Ytcocnfbhileheaa
open Go.RowKit

theorem restart_nil (c : Int) (w : World) : Calls Try.prog 27 #[.pointer none, .int .i64 c] w fun e w' => e = .returned (.int .i64 1) ∧ w = w' := by
  go_enter Try.func27, Try.ntmps27
  go_wp2_with fail
  go_ret
  exact ⟨rfl, rfl⟩
section
variable {F Z : BS} {W w : World} {ts : List Th} {p N : Nat} {a : Prt}
theorem restart_low (h : Held F Z W ts w) (i : Nat) (hi : ts[i]? = some (tPort p a)) (c : Int) (hc : c ≤ a.inc) :
    Calls Try.prog 27 #[.pointer (some ⟨p, 0, none⟩), .int .i64 c] w fun e w' => e = .returned (.int .i64 2) ∧ w = w' := by
  obtain ⟨G, Y, x, hst⟩ := h.get i hi
  have c0 := (port_cells (hst.get (i := 0) rfl).1).1
  clear hst hi h
  go_enter Try.func27, Try.ntmps27
  go_wp2_with fail
  go_ret
  exact ⟨rfl, rfl⟩
theorem nat_at {w : World} {F Z : BS} {T : TypeId} {a : Option Addr} {n c : Nat} {l : List Nat} (h : Sq eNat T w F Z (.slice a n c) l) {i : Nat} {x : Nat} (hi : l[i]? = some x) : ∃ b off, a = some ⟨b, off, none⟩ ∧ w.cell? ⟨b, off + i, none⟩ = some (.int .i64 (x : Int)) := by
  obtain ⟨b, off, cs, A, e, _, hr, _, hc⟩ := h.at (by decide) hi
  have h1 : cs = [.int .i64 (x : Int)] := hr
  subst h1
  refine ⟨b, off, e, ?_⟩
  have := hc 0 _ rfl
  rw [show off + i * eNat.size + 0 = off + i by show off + i * 1 + 0 = _; omega] at this
  exact this
theorem rooms_nums {T : TypeId} {w : World} {F Z : BS} {b off n cap : Nat} {l : List Nat} (h : Sq eNat T w F Z (.slice (some ⟨b, off, none⟩) n cap) l) : ∀ (k x : Nat), l[k]? = some x → w.cell? ⟨b, off + k, none⟩ = some (.int .i64 (x : Int)) := fun k x hk => by
  obtain ⟨b', off', e, hc⟩ := nat_at h hk
  obtain ⟨rfl, rfl⟩ : b = b' ∧ off = off' := by simpa using e
  exact hc
/-- the configuration of a port that is as it should be -/
theorem Prt.Ok.cfg (h : a.Ok N) {c : Int} (h1 : (a.inc : Int) < c) (h2 : c ≤ 1099511627775) : CfgOk c (a.rooms.map fun (x : Nat) => (x : Int)) a.window a.timeout a.dead := by
  have i1 := h.i1; have w1 := h.w1; have w2 := h.w2; have t1 := h.t1; have t2 := h.t2; have d1 := h.d1; have d2 := h.d2
  refine ⟨by rw [List.length_map]; exact h.n1, by rw [List.length_map]; exact h.n4, fun x hx => ?_, by omega, h2, by omega, by omega, by omega, by omega, by omega, by omega⟩
  obtain ⟨y, hy, rfl⟩ := List.mem_map.1 hx
  have := h.rm y hy
  omega
set_option maxRecDepth 100000 in
set_option maxHeartbeats 8000000 in
theorem restart_yes (h : Held F Z W ts w) (i : Nat) (hi : ts[i]? = some (tPort p a)) (hok : a.Ok N) (c : Nat) (h1 : a.inc < c) (h2 : c ≤ 1099511627775) :
    Calls Try.prog 27 #[.pointer (some ⟨p, 0, none⟩), .int .i64 (c : Int)] w fun e w' => e = .returned (.int .i64 0) ∧ Held F Z W (ts.set i (tPort p (newPrt c a.rooms a.window a.timeout a.dead))) w' := by
  have HCF := Lib.hid (hok.cfg (c := (c : Int)) (by omega) (by omega))
  obtain ⟨G, Y, hon, hd, _, _, hback⟩ := h.use i hi
  suffices hs : Calls Try.prog 27 #[.pointer (some ⟨p, 0, none⟩), .int .i64 (c : Int)] w fun e w' => e = .returned (.int .i64 0) ∧ Held G Y w [tPort p (newPrt c a.rooms a.window a.timeout a.dead)] w' by
    refine hs.mono fun e w' ⟨he, hh⟩ => ⟨he, ?_⟩
    have := hback w' _ [] hh.did
    rwa [List.append_nil] at this
  clear hback h
  obtain ⟨x, hst⟩ := Held.port hon hd
  obtain ⟨rv, sp, ap, wv, bv, snp, rcp, tkp, gvp, bsv, kv, acv, rev, tav⟩ := x
  have n1 := hok.n1
  obtain ⟨_, _, hr⟩ := hst.get 1 rfl
  obtain ⟨rb, ro, rc, rfl, m1, m1'⟩ := sq_some (show Sq eNat 3 w _ _ rv a.rooms from hr) n1
  have hrow := hst.blk 0 rfl
  obtain ⟨c0, c1, c2, c3, c4, _⟩ := port_cells hrow
  dsimp only at c0 c1 c2 c3 c4
  have HN := Lib.hid (rooms_nums (show Sq eNat 3 w _ _ (.slice (some ⟨rb, ro, none⟩) a.rooms.length rc) a.rooms from hr))
  have HST := Lib.hid (hst.new (.cells #[.int .i64 (c : Int), .slice (some ⟨rb, ro, none⟩) a.rooms.length rc, .int .i64 (a.window : Int), .int .i64 (a.timeout : Int), .int .i64 (a.dead : Int)] 26))
  clear hst hrow hr hon hd hi hok
  go_enter Try.func27, Try.ntmps27
  go_wp2_with fail
  refine (pnew_any (inc := c) (rooms := a.rooms) (wi := a.window) (ti := a.timeout) (de := a.dead) (rb := rb) (ro := ro) (rc := rc) _ HCF.out m1 m1' (fun k x hk => ?_)).mono ?_
  · have := HN.out k x hk
    exact (World.cell?_of_block ((below_alloc w _).block rb (World.block_lt_of_cell? w _ this))).trans this
  rintro e w2 ⟨fp, rfl, hm⟩
  obtain ⟨q, hq⟩ : ∃ q, q = newPrt c a.rooms a.window a.timeout a.dead := ⟨_, rfl⟩
  have HQ := Lib.hid hq
  rw [← hq] at hm
  clear hq
  obtain ⟨y, h2⟩ := ((HST.out.made hm).pick [16, 0] [tPort fp q, tBlk p (portRow a ⟨.slice (some ⟨rb, ro, none⟩) a.rooms.length rc, sp, ap, wv, bv, snp, rcp, tkp, gvp, bsv, kv, acv, rev, tav⟩)] (by decide) rfl).port'
  obtain ⟨rv', sp', ap', wv', bv', snp', rcp', tkp', gvp', bsv', kv', acv', rev', tav'⟩ := y
  obtain ⟨_, _, g1⟩ := h2.get 1 rfl
  obtain ⟨_, _, g2⟩ := h2.get 4 rfl
  obtain ⟨_, _, g3⟩ := h2.get 5 rfl
  obtain ⟨_, _, g4⟩ := h2.get 10 rfl
  obtain ⟨_, _, g5⟩ := h2.get 11 rfl
  obtain ⟨_, _, g6⟩ := h2.get 12 rfl
  obtain ⟨_, _, g7⟩ := h2.get 13 rfl
  obtain ⟨_, _, g8⟩ := h2.get 14 rfl
  obtain ⟨u1, k1, e1⟩ := Sq.shape (show Sq eNat 3 _ _ _ rv' q.rooms from g1)
  obtain ⟨u2, k2, e2⟩ := Sq.shape (show Sq (eSq eBy 31) 48 _ _ _ wv' q.waiting from g2)
  obtain ⟨u3, k3, e3⟩ := Sq.shape (show Sq (eSq eBy 31) 48 _ _ _ bv' q.buffer from g3)
  obtain ⟨u4, k4, e4⟩ := Sq.shape (show Sq eNat 3 _ _ _ bsv' q.base from g4)
  obtain ⟨u5, k5, e5⟩ := Sq.shape (show Sq eKept 134 _ _ _ kv' q.kept from g5)
  obtain ⟨u6, k6, e6⟩ := Sq.shape (show Sq eNat 3 _ _ _ acv' q.acked from g6)
  obtain ⟨u7, k7, e7⟩ := Sq.shape (show Sq eNat 3 _ _ _ rev' q.received from g7)
  obtain ⟨u8, k8, e8⟩ := Sq.shape (show Sq eNat 3 _ _ _ tav' q.taken from g8)
  have HC1 := Lib.hid (show #[Value.int .i64 (q.inc : Int), rv', .int .i64 (q.window : Int), .int .i64 (q.timeout : Int), .int .i64 (q.dead : Int), .pointer (some ⟨sp', 0, none⟩), .pointer (some ⟨ap', 0, none⟩), wv', bv', .int .i64 (q.peer : Int),
        .pointer (some ⟨snp', 0, none⟩), .pointer (some ⟨rcp', 0, none⟩), .pointer (some ⟨tkp', 0, none⟩), .pointer (some ⟨gvp', 0, none⟩), bsv', kv', acv', rev', tav', .int .i64 (q.overflows : Int)].all (·.oneCell') = true by
    rw [e1, e2, e3, e4, e5, e6, e7, e8]; simp [Value.oneCell'])
  clear g1 g2 g3 g4 g5 g6 g7 g8 e1 e2 e3 e4 e5 e6 e7 e8
  have hrow := h2.blk 0 rfl
  have hrow2 := h2.blk 15 rfl
  have H2 := Lib.hid h2
  have HF := Lib.hid hrow
  have HR := Lib.hid hrow2
  clear HST HN HCF hm h2 hrow hrow2 c0 c1 c2 c3 c4
  go_wp2_with (first
    | (refine wpList_load_row rfl 101 _ rfl fp (by rfl) 101 _ (0, 0) _ HF.out Try.underlying101 rfl (by kernel_rfl) ?_)
    | (refine wpList_store_rowTo rfl 101 _ _ rfl rfl p #[.int .i64 (q.inc : Int), rv', .int .i64 (q.window : Int), .int .i64 (q.timeout : Int), .int .i64 (q.dead : Int), .pointer (some ⟨sp', 0, none⟩), .pointer (some ⟨ap', 0, none⟩), wv', bv', .int .i64 (q.peer : Int),
        .pointer (some ⟨snp', 0, none⟩), .pointer (some ⟨rcp', 0, none⟩), .pointer (some ⟨tkp', 0, none⟩), .pointer (some ⟨gvp', 0, none⟩), bsv', kv', acv', rev', tav', .int .i64 (q.overflows : Int)] (by rfl) (by rfl) 101 _ HR.out (by kernel_rfl) (by rfl) HC1.out ?_))
  go_ret
  refine ⟨rfl, ?_⟩
  have hfr : Fr (fun k => k = p) w2 (w2.setRow p #[.int .i64 (q.inc : Int), rv', .int .i64 (q.window : Int), .int .i64 (q.timeout : Int), .int .i64 (q.dead : Int), .pointer (some ⟨sp', 0, none⟩), .pointer (some ⟨ap', 0, none⟩), wv', bv', .int .i64 (q.peer : Int),
        .pointer (some ⟨snp', 0, none⟩), .pointer (some ⟨rcp', 0, none⟩), .pointer (some ⟨tkp', 0, none⟩), .pointer (some ⟨gvp', 0, none⟩), bsv', kv', acv', rev', tav', .int .i64 (q.overflows : Int)]) := ⟨rfl, rfl, rfl, by simp, fun k _ hk => setRow_other w2 p k _ hk⟩
  have h3 := H2.out.set 15 rfl (portRow q ⟨rv', sp', ap', wv', bv', snp', rcp', tkp', gvp', bsv', kv', acv', rev', tav'⟩) hfr (setRow_heap w2 p _ _ _ _ HR.out)
  rw [← HQ.out]
  exact Held.shut (f := portThs p q) (ts := []) (h3.pick [15, 1, 2, 3, 4, 5, 6, 7, 8, 9, 10, 11, 12, 13, 14] (portThs p q ⟨rv', sp', ap', wv', bv', snp', rcp', tkp', gvp', bsv', kv', acv', rev', tav'⟩) (by decide) rfl)
end
end Go.Proofs.Ytcocnfbhileheaa
