/- A port in memory: greet, raise. -/
import Derived.Test.YtcocnfbhileheaaPorT
namespace Go.Proofs.Ytcocnfbhileheaa
open Go.RowKit

abbrev ptCells (x : Pt) (pv : Value) : Obj := .cells #[.int .u8 (U x.kind), .int .i64 x.cls, .int .i64 x.number, .int .i64 x.value, pv] 33
abbrev ptV (x : Pt) (pv : Value) : Value := .agg #[.int .u8 (U x.kind), .int .i64 x.cls, .int .i64 x.number, .int .i64 x.value, pv]
theorem pt_cells {w : World} {b : Nat} {x : Pt} {pv : Value} (h : w.heap[b]? = some (ptCells x pv)) : w.cell? ⟨b, 0, none⟩ = some (.int .u8 (U x.kind)) ∧ w.cell? ⟨b, 1, none⟩ = some (.int .i64 x.cls) ∧ w.cell? ⟨b, 2, none⟩ = some (.int .i64 x.number) ∧ w.cell? ⟨b, 3, none⟩ = some (.int .i64 x.value) ∧ w.cell? ⟨b, 4, none⟩ = some pv :=
  ⟨blk_cell h rfl, blk_cell h rfl, blk_cell h rfl, blk_cell h rfl, blk_cell h rfl⟩
theorem Prt.Ok.beg {N : Nat} {p : Prt} (h : p.Ok N) : p.Beg N :=
  ⟨h.n1, h.n4, h.rm, h.w1, h.w2, h.t1, h.t2, h.wl, h.bl, h.sl, by
    have h1 := congrArg List.length h.kept
    rw [List.length_map] at h1
    have := h.snd.kept; have := h.snd.w2; omega, h.wln, h.bln⟩
theorem Held.port' {F Z : BS} {W w : World} {ts : List Th} {p : Nat} {a : Prt} (h : Held F Z W (tPort p a :: ts) w) : ∃ x, Held F Z W (portThs p a x ++ ts) w := Held.opens h
theorem Held.port_shut {F Z : BS} {W w : World} {ts : List Th} {p : Nat} {a : Prt} {x : PV} (h : Held F Z W (portThs p a x ++ ts) w) : Held F Z W (tPort p a :: ts) w := Held.shut (f := portThs p a) h
theorem Held.dropLast {F Z : BS} {W w : World} {us ts : List Th} {T : Th} (h : Held F Z W (us ++ (ts ++ [T])) w) : Held F Z W (us ++ ts) w := by
  rw [← List.append_assoc] at h
  exact h.front.tail
set_option maxRecDepth 100000 in
set_option maxHeartbeats 8000000 in
theorem greet_c {F Z : BS} {W w : World} {ts : List Th} {p N : Nat} {a : Prt} (x : Pt) (pa : Option Addr) (pn pc : Nat) (hok : a.Ok N) (hN : N ≤ 1000000000) (h : Held F Z W (tPort p a :: ts) w) :
    Calls Try.prog 73 #[.pointer (some ⟨p, 0, none⟩), ptV x (.slice pa pn pc)] w fun e w' => e = .returned (.tuple #[]) ∧ Held F Z W (tPort p (a.greet x) :: ts) w' := by
  obtain ⟨y, hst⟩ := h.port'
  have h1 := (hst.new (ptCells x (.slice pa pn pc)))
  obtain ⟨rv, sp, ap, wv, bv, snp, rcp, tkp, gvp, bsv, kv, acv, rev, tav⟩ := y
  have H1 := Lib.hid (show Held F Z W (portThs p a ⟨rv, sp, ap, wv, bv, snp, rcp, tkp, gvp, bsv, kv, acv, rev, tav⟩ ++ (ts ++ [tBlk w.heap.size (ptCells x (.slice pa pn pc))])) (w.alloc (ptCells x (.slice pa pn pc))) by rw [← List.append_assoc]; exact h1)
  have hrow := h1.blk 0 rfl
  obtain ⟨_, _, _, _, _, c5, _⟩ := port_cells hrow
  obtain ⟨k0, k1, k2, k3, _⟩ := pt_cells (heap_alloc_new w (ptCells x (.slice pa pn pc)))
  have hside := (show ∃ G Y, (tSide sp a.side).on _ G Y from h1.get 2 rfl)
  obtain ⟨_, _, hside⟩ := hside
  have HSD := Lib.hid hside.2
  have HOK := Lib.hid hok
  dsimp only at c5
  clear hst h1 hrow h hok hside
  go_enter Try.func73, Try.ntmps73
  go_wp2_with fail
  generalize w.alloc (ptCells x (.slice pa pn pc)) = w1 at *
  refine wp_region_still_tail 9 (by kernel_rfl) (by kernel_rfl) ?_
  simp only [List.take_succ_cons, List.take_zero, List.drop_succ_cons, List.drop_zero]
  change wpStill _ _ (World.drew _) (fun a' => wpList _ _ _ _ a' (World.drew _)) _ _
  repeat still_step
  refine wpStill_nil ?_
  go_wp2_with fail
  refine (sideReceive_any sp a.side w1.drew x.number x.value HSD.out).mono ?_
  rintro e w2 ⟨⟨c, rfl⟩, hs2, hf2⟩
  have H2 := Lib.hid (show Held F Z W (portThs p { a with side := a.side.receive x.number x.value } ⟨rv, sp, ap, wv, bv, snp, rcp, tkp, gvp, bsv, kv, acv, rev, tav⟩ ++ (ts ++ [tBlk w.heap.size (ptCells x (.slice pa pn pc))])) w2 from
    H1.out.drew.upd 2 rfl (T' := tSide sp (a.side.receive x.number x.value)) fun G Y hon _ => ⟨⟨hon.1, hs2⟩, hf2.mono fun k hk => by subst hk; exact hon.1⟩)
  have HSD2 := Lib.hid hs2
  clear H1 hs2 hf2 c5 k0 k1 k2 k3 HSD
  have hrow := H2.out.blk 0 rfl
  obtain ⟨_, _, _, _, _, c5, _, _, _, c9, _⟩ := port_cells hrow
  dsimp only at c5 c9
  obtain ⟨s2, hsd⟩ : ∃ s2, s2 = a.side.receive x.number x.value := ⟨_, rfl⟩
  have HS2 := Lib.hid hsd
  rw [← hsd] at H2 HSD2
  clear hrow hsd
  go_wp2_with fail
  refine (peer_any sp s2 w2 HSD2.out).mono ?_
  rintro e w' ⟨rfl, rfl⟩
  by_cases h0 : s2.peer = 0
  · have b0 : ((s2.peer : Int) != 0) = false := by simp [h0]
    have HG := Lib.hid (show a.greet x = { a with side := s2 } by
      unfold Prt.greet; dsimp only; rw [← HS2.out, if_neg (fun h => h.1 h0)])
    clear h0
    go_wp2_with fail
    go_end0
    refine ⟨rfl, ?_⟩
    rw [HG.out]
    exact H2.out.dropLast.port_shut
  · have b0 : ((s2.peer : Int) != 0) = true := by simp; omega
    by_cases h1 : s2.peer = a.peer
    · have b1 : ((s2.peer : Int) != (a.peer : Int)) = false := by simp [h1]
      have HG := Lib.hid (show a.greet x = { a with side := s2 } by
        unfold Prt.greet; dsimp only; rw [← HS2.out, if_neg (fun h => h.2 h1)])
      clear h0 h1
      go_wp2_with fail
      go_end0
      refine ⟨rfl, ?_⟩
      rw [HG.out]
      exact H2.out.dropLast.port_shut
    · have b1 : ((s2.peer : Int) != (a.peer : Int)) = true := by simp; omega
      have HG := Lib.hid (show a.greet x = ({ a with side := s2 } : Prt).begin s2.peer by
        unfold Prt.greet; dsimp only; rw [← HS2.out, if_pos ⟨h0, h1⟩])
      have HB := Lib.hid (show Held F Z W (begThs p { a with side := s2 } ⟨rv, sp, ap, wv, bv, snp, rcp, tkp, gvp, bsv, kv, acv, rev, tav⟩ (.pointer (some ⟨snp, 0, none⟩)) (.pointer (some ⟨rcp, 0, none⟩)) (.pointer (some ⟨tkp, 0, none⟩)) (.pointer (some ⟨gvp, 0, none⟩)) ++
          ([tSide sp s2, tArb ap a.arb, tSnd snp a.snd, tRcv rcp a.rcv, tTak tkp a.tak, tGiv gvp a.giv, tSq eNat 3 acv a.acked, tSq eNat 3 rev a.received, tSq eNat 3 tav a.taken] ++ (ts ++ [tBlk w.heap.size (ptCells x (.slice pa pn pc))]))) w2 by
        rw [← List.append_assoc]
        exact H2.out.pickL [0, 1, 4, 5, 10, 11, 2, 3, 6, 7, 8, 9, 12, 13, 14] (by decide) rfl)
      have HBG := Lib.hid (begin_h (a := { a with side := s2 }) (N := N) (by have := HOK.out.beg; exact ⟨this.1, this.2, this.3, this.4, this.5, this.6, this.7, this.8, this.9, this.10, this.11, this.12, this.13⟩) hN s2.peer HB.out)
      clear h0 h1 HB H2
      go_wp2_with fail
      refine HBG.out.mono ?_
      rintro e w' ⟨rfl, sq, rq, tq, gq, hh⟩
      rw [← List.append_assoc] at hh
      have HH := Lib.hid (hh.pickL (vs := portThs p (({ a with side := s2 } : Prt).begin s2.peer) ⟨rv, sp, ap, wv, bv, sq, rq, tq, gq, bsv, .slice none 0 0, acv, rev, tav⟩) [0, 1, 10, 11, 2, 3, 6, 7, 8, 9, 4, 5, 16, 17, 18] (by decide) rfl)
      clear hh HBG
      go_wp2_with fail
      go_end0
      refine ⟨rfl, ?_⟩
      rw [HG.out]
      exact HH.out.dropLast.port_shut
set_option maxRecDepth 100000 in
set_option maxHeartbeats 8000000 in
theorem raise_c {F Z : BS} {W w : World} {ts : List Th} {p N : Nat} {a : Prt} (x : Pt) (pa : Option Addr) (pn pc : Nat) (hok : a.Ok N) (h : Held F Z W (tPort p a :: ts) w) :
    Calls Try.prog 76 #[.pointer (some ⟨p, 0, none⟩), ptV x (.slice pa pn pc)] w fun e w' => e = .returned (.tuple #[]) ∧ Held F Z W (tPort p (a.raise x) :: ts) w' := by
  obtain ⟨y, hst⟩ := h.port'
  have h1 := (hst.new (ptCells x (.slice pa pn pc)))
  obtain ⟨rv, sp, ap, wv, bv, snp, rcp, tkp, gvp, bsv, kv, acv, rev, tav⟩ := y
  have H1 := Lib.hid (show Held F Z W (portThs p a ⟨rv, sp, ap, wv, bv, snp, rcp, tkp, gvp, bsv, kv, acv, rev, tav⟩ ++ (ts ++ [tBlk w.heap.size (ptCells x (.slice pa pn pc))])) (w.alloc (ptCells x (.slice pa pn pc))) by rw [← List.append_assoc]; exact h1)
  have hrow := h1.blk 0 rfl
  obtain ⟨_, c1, _, _, _, _, _, _, _, _, _, _, c12, _⟩ := port_cells hrow
  obtain ⟨k0, k1, k2, k3, _⟩ := pt_cells (heap_alloc_new w (ptCells x (.slice pa pn pc)))
  obtain ⟨_, _, hr⟩ := h1.get 1 rfl
  obtain ⟨rb, ro, rc, e1, _, _⟩ := sq_some (show Sq eNat 3 _ _ _ rv a.rooms from hr) hok.n1
  subst e1
  have HOK := Lib.hid hok
  have n4 := hok.n4
  dsimp only at c1 c12
  clear hst h1 hrow h hok hr
  go_enter Try.func76, Try.ntmps76
  go_wp2_with fail
  generalize w.alloc (ptCells x (.slice pa pn pc)) = w1 at *
  by_cases hc : 0 ≤ x.cls ∧ x.cls < a.rooms.length
  · obtain ⟨c, hcc⟩ : ∃ c : Nat, x.cls = (c : Int) := ⟨x.cls.toNat, by omega⟩
    have hcl : c < a.rooms.length := by omega
    have HG := Lib.hid (show a.raise x = { a with tak := a.tak.set c ((a.tak.getD c ⟨0, 0⟩).raise x.number) } by
      unfold Prt.raise
      rw [if_pos (show a.has x.cls from hc), hcc]; rfl)
    have HQ := Lib.hid (exists_yes (p := p) (w := w1) c (some ⟨rb, ro, none⟩) rc hcl c1)
    have hg := getD_of (d := (⟨0, 0⟩ : Tak)) (show c < a.tak.length by rw [HOK.out.tl]; exact hcl)
    have HR := Lib.hid (raise_h H1.out.drew 8 rfl (by rw [HOK.out.tl]; exact n4) hg x.number)
    rw [hcc] at k1 ⊢
    clear hc hg hcc
    refine HQ.out.mono ?_
    rintro e w' ⟨rfl, rfl⟩
    go_wp2_with fail
    refine wp_region_still_tail 8 (by kernel_rfl) (by kernel_rfl) ?_
    simp only [List.take_succ_cons, List.take_zero, List.drop_succ_cons, List.drop_zero]
    change wpStill _ _ (World.drew _) (fun a' => wpList _ _ _ _ a' (World.drew _)) _ _
    repeat still_step
    refine wpStill_nil ?_
    go_wp2_with fail
    refine HR.out.mono ?_
    rintro e w2 ⟨⟨_, rfl⟩, hh⟩
    have HH := Lib.hid (show Held F Z W (portThs p { a with tak := a.tak.set c ((a.tak.getD c ⟨0, 0⟩).raise x.number) } ⟨.slice (some ⟨rb, ro, none⟩) a.rooms.length rc, sp, ap, wv, bv, snp, rcp, tkp, gvp, bsv, kv, acv, rev, tav⟩ ++ (ts ++ [tBlk w.heap.size (ptCells x (.slice pa pn pc))])) w2 from hh)
    clear hh HR
    go_wp2_with fail
    go_end0
    refine ⟨rfl, ?_⟩
    rw [HG.out]
    exact HH.out.dropLast.port_shut
  · have HG := Lib.hid (show a.raise x = a by
      unfold Prt.raise
      rw [if_neg (show ¬ a.has x.cls from hc)])
    have HQ := Lib.hid (exists_no (p := p) (w := w1) x.cls (some ⟨rb, ro, none⟩) rc (n := a.rooms.length) (by omega) c1)
    clear hc
    refine HQ.out.mono ?_
    rintro e w' ⟨rfl, rfl⟩
    go_wp2_with fail
    go_end0
    refine ⟨rfl, ?_⟩
    rw [HG.out]
    exact H1.out.dropLast.port_shut
end Go.Proofs.Ytcocnfbhileheaa
