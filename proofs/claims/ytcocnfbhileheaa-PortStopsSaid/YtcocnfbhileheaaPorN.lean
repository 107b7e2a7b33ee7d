/- A port in memory: Counts, Peek. -/
import Derived.Test.YtcocnfbhileheaaPorM
namespace Go.Proofs.Ytcocnfbhileheaa
open Go.RowKit

theorem sqsq_at {α : Type} {E : El α} {T1 T2 : TypeId} {w : World} {F Z : BS} {b off n cap : Nat} {xss : List (List α)} {xs : List α} {c : Nat} (h : Sq (eSq E T1) T2 w F Z (.slice (some ⟨b, off, none⟩) n cap) xss) (hc : xss[c]? = some xs) :
    ∃ v A, w.cell? ⟨b, off + c, none⟩ = some v ∧ Sq E T1 w A Z v xs ∧ ∀ k, A k → F k := by
  obtain ⟨b', off', cs, A, e, _, ⟨v, rfl, h2⟩, h3, h4⟩ := h.at (by decide : 0 < 1) hc
  obtain ⟨rfl, rfl⟩ : b = b' ∧ off = off' := by simpa using e
  exact ⟨v, A, by simpa [eSq] using h4 0 v rfl, h2, h3⟩
theorem sqby_at {T : TypeId} {w : World} {F Z : BS} {b off n cap : Nat} {xs : List (List (BitVec 8))} {d : List (BitVec 8)} {i : Nat} (h : Sq eBy T w F Z (.slice (some ⟨b, off, none⟩) n cap) xs) (hi : xs[i]? = some d) :
    ∃ v, w.cell? ⟨b, off + i, none⟩ = some v ∧ ByZ w Z v d := by
  obtain ⟨b', off', cs, A, e, _, ⟨v, rfl, h2⟩, _, h4⟩ := h.at (by decide : 0 < 1) hi
  obtain ⟨rfl, rfl⟩ : b = b' ∧ off = off' := by simpa using e
  exact ⟨v, by simpa [eBy] using h4 0 v rfl, h2⟩
theorem Ow.byZ {T : TypeId} {w : World} {base : Nat} {v : Value} {bs : List (BitVec 8)} (h : Ow T w base v bs) : ByZ w (fun k => base ≤ k) v bs := ⟨h.by, fun _ b hb => (h.byD.2 b hb).1⟩
theorem getD_of {α : Type} {l : List α} {i : Nat} {d : α} (h : i < l.length) : l[i]? = some (l.getD i d) := by simp [List.getD, h]
section
variable {w : World} {F Z : BS} {W : World} {ts : List Th} {p : Nat} {a : Prt}
theorem counts_any {N : Nat} (h : Held F Z W ts w) (i : Nat) (hi : ts[i]? = some (tPort p a)) (hok : a.Ok N) (_ : N ≤ 1000000000) (c : Nat) (hc : c < a.rooms.length) :
    Calls Try.prog 18 #[.pointer (some ⟨p, 0, none⟩), .int .i64 (c : Int)] w fun e w' => e = .returned (.tuple #[.int .i64 ((a.acked.getD c 0 : Nat) : Int), .int .i64 ((a.received.getD c 0 : Nat) : Int), .int .i64 ((a.taken.getD c 0 : Nat) : Int)]) ∧ Held F Z W ts w' := by
  obtain ⟨G, Y, x, hst⟩ := h.get i hi
  obtain ⟨rv, sp, ap, wv, bv, snp, rcp, tkp, gvp, bsv, kv, acv, rev, tav⟩ := x
  have hrow := (hst.get (i := 0) rfl).1
  obtain ⟨_, c1, _, _, _, _, _, _, _, _, _, _, _, _, _, _, c16, c17, c18, _⟩ := port_cells hrow
  have hr := hst.get (i := 1) rfl
  have h16 := hst.get (i := 12) rfl
  have h17 := hst.get (i := 13) rfl
  have h18 := hst.get (i := 14) rfl
  dsimp only at *
  have n1 := hok.n1; have n4 := hok.n4; have al := hok.al; have rl := hok.rl; have kl := hok.kl
  obtain ⟨rb, ro, rc, rfl, _, _⟩ := sq_some hr n1
  obtain ⟨b1, o1, k1, rfl, m1, m1'⟩ := sq_some h16 (by omega)
  obtain ⟨b2, o2, k2, rfl, m2, m2'⟩ := sq_some h17 (by omega)
  obtain ⟨b3, o3, k3, rfl, m3, m3'⟩ := sq_some h18 (by omega)
  have e1 := nat_cell h16 (getD_of (d := 0) (show c < a.acked.length by omega))
  have e2 := nat_cell h17 (getD_of (d := 0) (show c < a.received.length by omega))
  have e3 := nat_cell h18 (getD_of (d := 0) (show c < a.taken.length by omega))
  rw [al] at c16; rw [rl] at c17; rw [kl] at c18
  have HH := Lib.hid h
  have HQ := Lib.hid (exists_yes (p := p) (w := w) c (some ⟨rb, ro, none⟩) rc hc c1)
  clear hst hrow hr h16 h17 h18 hi h hok al rl kl c1 m1 m2 m3 m1' m2' m3'
  go_enter Try.func18, Try.ntmps18
  go_wp2_with (go_at_call 43; refine HQ.out.mono ?_; rintro e w' ⟨rfl, rfl⟩)
  go_quiet (fail)
  go_wp2_with fail
  go_ret3
  exact ⟨rfl, HH.out.drewN _⟩
theorem counts_no {n : Nat} (c : Int) (ra : Option Addr) (rc : Nat) (hc : c < 0 ∨ (n : Int) ≤ c) (h1 : w.cell? ⟨p, 1, none⟩ = some (.slice ra n rc)) :
    Calls Try.prog 18 #[.pointer (some ⟨p, 0, none⟩), .int .i64 c] w fun e w' => e = .returned (.tuple #[.int .i64 0, .int .i64 0, .int .i64 0]) ∧ w = w' := by
  have HQ := Lib.hid (exists_no (p := p) (w := w) c ra rc hc h1)
  clear h1 hc
  go_enter Try.func18, Try.ntmps18
  go_wp2_with (go_at_call 43; refine HQ.out.mono ?_; rintro e w' ⟨rfl, rfl⟩)
  go_ret3
  exact ⟨rfl, rfl⟩
theorem counts_nil (c : Int) : Calls Try.prog 18 #[.pointer none, .int .i64 c] w fun e w' => e = .returned (.tuple #[.int .i64 0, .int .i64 0, .int .i64 0]) ∧ w = w' := by
  have HQ := Lib.hid (exists_nil (w := w) c)
  go_enter Try.func18, Try.ntmps18
  go_wp2_with (go_at_call 43; refine HQ.out.mono ?_; rintro e w' ⟨rfl, rfl⟩)
  go_ret3
  exact ⟨rfl, rfl⟩
/-- Peek where there is nothing -/
theorem peek_no {N : Nat} (h : Held F Z W ts w) (i : Nat) (hi : ts[i]? = some (tPort p a)) (hok : a.Ok N) (c : Int) (hc : a.peek c = none) :
    Calls Try.prog 29 #[.pointer (some ⟨p, 0, none⟩), .int .i64 c] w fun e w' => e = .returned (.tuple #[.slice none 0 0, .bool false]) ∧ w = w' := by
  obtain ⟨G, Y, x, hst⟩ := h.get i hi
  obtain ⟨rv, sp, ap, wv, bv, snp, rcp, tkp, gvp, bsv, kv, acv, rev, tav⟩ := x
  have hrow := (hst.get (i := 0) rfl).1
  obtain ⟨_, c1, _, _, _, _, _, _, c8, _⟩ := port_cells hrow
  have hr := hst.get (i := 1) rfl
  have hb := hst.get (i := 5) rfl
  dsimp only at *
  have n1 := hok.n1; have n4 := hok.n4; have bl := hok.bl
  obtain ⟨rb, ro, rc, rfl, _, _⟩ := sq_some hr n1
  by_cases h0 : 0 ≤ c ∧ c < a.rooms.length
  · obtain ⟨m, rfl⟩ : ∃ m : Nat, c = (m : Int) := ⟨c.toNat, by omega⟩
    have hm : m < a.rooms.length := by omega
    obtain ⟨b1, o1, k1, rfl, m1, m1'⟩ := sq_some hb (by omega)
    have hx := getD_of (d := []) (show m < a.buffer.length by omega)
    have he : a.buffer.getD m [] = [] := by
      unfold Prt.peek at hc
      rw [if_pos (show a.has m from h0)] at hc
      simpa using hc
    rw [he] at hx
    obtain ⟨v, A, hv, hsq, _⟩ := sqsq_at hb hx
    obtain ⟨av, cv, rfl⟩ := hsq.shape
    rw [show ([] : List (List (BitVec 8))).length = 0 from rfl] at hv
    rw [bl] at c8
    have HQ := Lib.hid (exists_yes (p := p) (w := w) m (some ⟨rb, ro, none⟩) rc hm c1)
    clear hst hrow hr hb hi h hok bl c1 m1 m1' hsq hx he hc h0
    go_enter Try.func29, Try.ntmps29
    go_wp2_with (go_at_call 43; refine HQ.out.mono ?_; rintro e w' ⟨rfl, rfl⟩)
    go_ret2
    exact ⟨rfl, rfl⟩
  · have HQ := Lib.hid (exists_no (p := p) (w := w) c (some ⟨rb, ro, none⟩) rc (n := a.rooms.length) (by omega) c1)
    clear hst hrow hr hb hi h hok bl c1 hc h0
    go_enter Try.func29, Try.ntmps29
    go_wp2_with (go_at_call 43; refine HQ.out.mono ?_; rintro e w' ⟨rfl, rfl⟩)
    go_ret2
    exact ⟨rfl, rfl⟩
theorem peek_nil (c : Int) : Calls Try.prog 29 #[.pointer none, .int .i64 c] w fun e w' => e = .returned (.tuple #[.slice none 0 0, .bool false]) ∧ w = w' := by
  have HQ := Lib.hid (exists_nil (w := w) c)
  go_enter Try.func29, Try.ntmps29
  go_wp2_with (go_at_call 43; refine HQ.out.mono ?_; rintro e w' ⟨rfl, rfl⟩)
  go_ret2
  exact ⟨rfl, rfl⟩
theorem peek_yes {N : Nat} (h : Held F Z W ts w) (i : Nat) (hi : ts[i]? = some (tPort p a)) (hok : a.Ok N) (_ : N ≤ 1000000000) (m : Nat) (hm : m < a.rooms.length) (d : Bytes) (l : List Bytes) (hl : a.buffer.getD m [] = d :: l) :
    Calls Try.prog 29 #[.pointer (some ⟨p, 0, none⟩), .int .i64 (m : Int)] w fun e w' => ∃ v, e = .returned (.tuple #[v, .bool true]) ∧ Held F Z W (ts ++ [tBy v d]) w' := by
  obtain ⟨G, Y, x, hst⟩ := h.get i hi
  obtain ⟨rv, sp, ap, wv, bv, snp, rcp, tkp, gvp, bsv, kv, acv, rev, tav⟩ := x
  have hrow := (hst.get (i := 0) rfl).1
  obtain ⟨_, c1, _, _, _, _, _, _, c8, _⟩ := port_cells hrow
  have hr := hst.get (i := 1) rfl
  have hb := hst.get (i := 5) rfl
  dsimp only at *
  have n1 := hok.n1; have n4 := hok.n4; have bl := hok.bl
  obtain ⟨rb, ro, rc, rfl, _, _⟩ := sq_some hr n1
  obtain ⟨b1, o1, k1, rfl, m1, m1'⟩ := sq_some hb (by omega)
  have hx := getD_of (d := []) (show m < a.buffer.length by omega)
  have hln := hok.bln _ (List.mem_of_getElem? hx)
  have hds := hok.bsz _ (List.mem_of_getElem? hx) d
  rw [hl] at hx hln hds
  obtain ⟨v, A, hv, hsq, _⟩ := sqsq_at hb hx
  obtain ⟨b2, o2, k2, rfl, m2, m2'⟩ := sq_some hsq (by simp)
  obtain ⟨v2, hv2, hby⟩ := sqby_at hsq (i := 0) (d := d) rfl
  rw [Nat.add_zero] at hv2
  rw [show (d :: l).length = l.length + 1 from rfl] at hv m2 hln
  rw [bl] at c8 m1
  have hd := hds List.mem_cons_self
  have HQ := Lib.hid (exists_yes (p := p) (w := w) m (some ⟨rb, ro, none⟩) rc hm c1)
  have HC := Lib.hid (clone_any v2 d w hby.1 (by omega))
  have HH := Lib.hid h
  clear hst hrow hr hb hi h hok bl c1 m1 m1' hsq hx hl hds hby
  go_enter Try.func29, Try.ntmps29
  go_wp2_with (first
    | (go_at_call 43; refine HQ.out.mono ?_; rintro e w' ⟨rfl, rfl⟩)
    | (go_at_call 44; refine HC.out.mono ?_; rintro e w1 ⟨v1, rfl, ho, hb⟩; have HO := Lib.hid ho; have HB := Lib.hid hb; clear ho hb))
  go_ret2
  exact ⟨_, rfl, HH.out.addZ HB.out (T := tBy v1 d) HO.out.byZ⟩
end
end Go.Proofs.Ytcocnfbhileheaa
