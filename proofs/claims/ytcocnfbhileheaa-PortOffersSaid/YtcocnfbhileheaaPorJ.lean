/- Credits in memory: the methods of a giver and of a taker that are held. -/
import Derived.Test.YtcocnfbhileheaaPorI
namespace Go.Proofs.Ytcocnfbhileheaa
open Go.RowKit

theorem set_same' {α : Type} {l : List α} {c : Nat} {a : α} (h : l[c]? = some a) : l.set c a = l := by
  apply List.ext_getElem?
  intro i
  rw [List.getElem?_set]
  split
  · rename_i e; subst e; rw [if_pos (lt_of_get h), h]
  · rfl
section
variable {F Z : BS} {W w : World} {ts : List Th} {p : Nat}
theorem giv_open {G Y : BS} {gs : List Giv} (h : (tGiv p gs).on w G Y) (hd : Dj G Y) {c : Nat} {g : Giv} (hc : gs[c]? = some g) : ∃ b off cap, Held G Y w [tBlk p (.cells #[.slice (some ⟨b, off, none⟩) gs.length cap] 165), tSq eGiv 155 (.slice (some ⟨b, off, none⟩) gs.length cap) gs] w ∧
    w.heap[p]? = some (.cells #[.slice (some ⟨b, off, none⟩) gs.length cap] 165) ∧ (w.cell? ⟨b, off + c * 3, none⟩ = some (.int .i64 (g.room : Int)) ∧ w.cell? ⟨b, off + c * 3 + 1, none⟩ = some (.int .i64 (g.received : Int)) ∧ w.cell? ⟨b, off + c * 3 + 2, none⟩ = some (.int .i64 (g.freed : Int))) ∧ ∀ j, w.frozen? ⟨b, j, none⟩ = false := by
  obtain ⟨v, hh⟩ := Held.opens (Held.start1 h hd)
  obtain ⟨_, _, hsq⟩ := hh.get 1 rfl
  obtain ⟨b, off, cap, rfl, _, _⟩ := sq_some hsq (by have := lt_of_get hc; omega)
  exact ⟨b, off, cap, hh, hh.blk 0 rfl, giv_cells hsq hc, (Sq.free hsq).2.2.2⟩
theorem giv_did {G Y : BS} {gs : List Giv} {b off n cap : Nat} (h : Held G Y w [tBlk p (.cells #[.slice (some ⟨b, off, none⟩) n cap] 165), tSq eGiv 155 (.slice (some ⟨b, off, none⟩) n cap) gs] w) {w1 : World} (hb : Below w.heap.size w w1) {c j : Nat} {g g' : Giv} {u : Value} (hc : gs[c]? = some g) (hj : j < 3) (he : (givC g).set j u = givC g') :
    Did w G Y [tGiv p (gs.set c g')] (w1.setCell ⟨b, off + (c * 3 + j), none⟩ u) :=
  (Held.shut (f := fun v : Value => [tBlk p (.cells #[v] 165), tSq eGiv 155 v (gs.set c g')]) (ts := []) ((h.own hb).put pure_giv 1 rfl hc hj he)).did
theorem giv_did0 {G Y : BS} {gs : List Giv} {v : Value} (h : Held G Y w [tBlk p (.cells #[v] 165), tSq eGiv 155 v gs] w) {w1 : World} (hb : Below w.heap.size w w1) : Did w G Y [tGiv p gs] w1 :=
  (Held.shut (f := fun v : Value => [tBlk p (.cells #[v] 165), tSq eGiv 155 v gs]) (ts := []) (h.own hb)).did
theorem tak_open {G Y : BS} {gs : List Tak} (h : (tTak p gs).on w G Y) (hd : Dj G Y) {c : Nat} {g : Tak} (hc : gs[c]? = some g) : ∃ b off cap, Held G Y w [tBlk p (.cells #[.slice (some ⟨b, off, none⟩) gs.length cap] 162), tSq eTak 172 (.slice (some ⟨b, off, none⟩) gs.length cap) gs] w ∧
    w.heap[p]? = some (.cells #[.slice (some ⟨b, off, none⟩) gs.length cap] 162) ∧ (w.cell? ⟨b, off + c * 2, none⟩ = some (.int .i64 (g.sent : Int)) ∧ w.cell? ⟨b, off + c * 2 + 1, none⟩ = some (.int .i64 (g.limit : Int))) ∧ ∀ j, w.frozen? ⟨b, j, none⟩ = false := by
  obtain ⟨v, hh⟩ := Held.opens (Held.start1 h hd)
  obtain ⟨_, _, hsq⟩ := hh.get 1 rfl
  obtain ⟨b, off, cap, rfl, _, _⟩ := sq_some hsq (by have := lt_of_get hc; omega)
  exact ⟨b, off, cap, hh, hh.blk 0 rfl, tak_cells hsq hc, (Sq.free hsq).2.2.2⟩
theorem tak_did {G Y : BS} {gs : List Tak} {b off n cap : Nat} (h : Held G Y w [tBlk p (.cells #[.slice (some ⟨b, off, none⟩) n cap] 162), tSq eTak 172 (.slice (some ⟨b, off, none⟩) n cap) gs] w) {w1 : World} (hb : Below w.heap.size w w1) {c j : Nat} {g g' : Tak} {u : Value} (hc : gs[c]? = some g) (hj : j < 2) (he : (takC g).set j u = takC g') :
    Did w G Y [tTak p (gs.set c g')] (w1.setCell ⟨b, off + (c * 2 + j), none⟩ u) :=
  (Held.shut (f := fun v : Value => [tBlk p (.cells #[v] 162), tSq eTak 172 v (gs.set c g')]) (ts := []) ((h.own hb).put pure_tak 1 rfl hc hj he)).did
theorem tak_did0 {G Y : BS} {gs : List Tak} {v : Value} (h : Held G Y w [tBlk p (.cells #[v] 162), tSq eTak 172 v gs] w) {w1 : World} (hb : Below w.heap.size w w1) : Did w G Y [tTak p gs] w1 :=
  (Held.shut (f := fun v : Value => [tBlk p (.cells #[v] 162), tSq eTak 172 v gs]) (ts := []) (h.own hb)).did
set_option maxRecDepth 100000 in
theorem receiveG_h {gs : List Giv} (h : Held F Z W ts w) (i : Nat) (hi : ts[i]? = some (tGiv p gs)) (hgs : gs.length ≤ 4) {c : Nat} {g : Giv} (hc : gs[c]? = some g) (h1 : g.room ≤ 4000000000000) (h2 : g.freed ≤ 4000000000000) (h3 : g.received ≤ 4000000000000) :
    Calls Try.prog 71 #[.pointer (some ⟨p, 0, none⟩), .int .i64 (c : Int)] w fun e w' => e = .returned (.int .i64 (if g.receive.1 then 0 else 5)) ∧ Held F Z W (ts.set i (tGiv p (gs.set c g.receive.2))) w' := by
  refine h.act i hi fun G Y hd hon => ?_
  obtain ⟨b, off, cap, hh, hrow, ⟨g0, g1, g2⟩, gf⟩ := giv_open hon hd hc
  have hlt := lt_of_get hc
  by_cases hr : g.received < g.room + g.freed
  · have hg : g.receive = (true, { g with received := g.received + 1 }) := by unfold Giv.receive; rw [if_neg (by unfold Giv.limit; omega)]
    rw [hg]
    have HQ := Lib.hid (withG_any p b off gs.length cap c 95 #[] w _ hrow hlt hgs (fun _ _ => rfl) (receiveC_yes b (off + c * 3) g.room g.received g.freed w g0 g1 g2 gf h1 h2 h3 hr))
    have HH := Lib.hid hh
    clear hg hrow g0 g1 g2 gf hh hon h hi hd
    go_enter Try.func71, Try.ntmps71
    go_wp2_with fail
    refine HQ.out.mono ?_
    rintro e w' ⟨m, rfl, rfl, w1, hb, rfl⟩
    have HB := Lib.hid hb
    clear hb
    go_wp2_with fail
    go_ret
    exact ⟨rfl, giv_did HH.out HB.out hc (j := 1) (by decide) rfl⟩
  · have hg : g.receive = (false, g) := by unfold Giv.receive; rw [if_pos (by unfold Giv.limit; omega)]
    rw [hg]
    have HQ := Lib.hid (withG_any p b off gs.length cap c 95 #[] w _ hrow hlt hgs (fun _ _ => rfl) (receiveC_no b (off + c * 3) g.room g.received g.freed w g0 g1 g2 h1 h2 hr))
    have HH := Lib.hid hh
    clear hg hrow g0 g1 g2 gf hh hon h hi hd
    go_enter Try.func71, Try.ntmps71
    go_wp2_with fail
    refine HQ.out.mono ?_
    rintro e w' ⟨m, rfl, rfl, hb⟩
    have HB := Lib.hid hb
    clear hb
    go_wp2_with fail
    go_ret
    refine ⟨rfl, ?_⟩
    rw [set_same' hc]
    exact giv_did0 HH.out HB.out
set_option maxRecDepth 100000 in
theorem freeG_h {gs : List Giv} (h : Held F Z W ts w) (i : Nat) (hi : ts[i]? = some (tGiv p gs)) (hgs : gs.length ≤ 4) {c : Nat} {g : Giv} (hc : gs[c]? = some g) (h3 : g.received ≤ 4000000000000) :
    Calls Try.prog 54 #[.pointer (some ⟨p, 0, none⟩), .int .i64 (c : Int)] w fun e w' => (∃ m, e = .returned (.int .i64 m)) ∧ Held F Z W (ts.set i (tGiv p (gs.set c g.free))) w' := by
  refine h.act i hi fun G Y hd hon => ?_
  obtain ⟨b, off, cap, hh, hrow, ⟨g0, g1, g2⟩, gf⟩ := giv_open hon hd hc
  have hlt := lt_of_get hc
  by_cases hr : g.freed < g.received
  · have hg : g.free = { g with freed := g.freed + 1 } := by unfold Giv.free; rw [if_neg (by omega)]
    rw [hg]
    have HQ := Lib.hid (withG_any p b off gs.length cap c 87 #[] w _ hrow hlt hgs (fun _ _ => rfl) (freeC_yes b (off + c * 3) g.received g.freed w g1 g2 gf h3 hr))
    have HH := Lib.hid hh
    clear hg hrow g0 g1 g2 gf hh hon h hi hd
    go_enter Try.func54, Try.ntmps54
    go_wp2_with fail
    refine HQ.out.mono ?_
    rintro e w' ⟨m, rfl, rfl, w1, hb, rfl⟩
    have HB := Lib.hid hb
    clear hb
    go_wp2_with fail
    go_ret
    exact ⟨⟨_, rfl⟩, giv_did HH.out HB.out hc (j := 2) (by decide) rfl⟩
  · have hg : g.free = g := by unfold Giv.free; rw [if_pos (by omega)]
    rw [hg]
    have HQ := Lib.hid (withG_any p b off gs.length cap c 87 #[] w _ hrow hlt hgs (fun _ _ => rfl) (freeC_no b (off + c * 3) g.received g.freed w g1 g2 hr))
    have HH := Lib.hid hh
    clear hg hrow g0 g1 g2 gf hh hon h hi hd
    go_enter Try.func54, Try.ntmps54
    go_wp2_with fail
    refine HQ.out.mono ?_
    rintro e w' ⟨m, rfl, rfl, hb⟩
    have HB := Lib.hid hb
    clear hb
    go_wp2_with fail
    go_ret
    refine ⟨⟨_, rfl⟩, ?_⟩
    rw [set_same' hc]
    exact giv_did0 HH.out HB.out
set_option maxRecDepth 100000 in
theorem takeT_h {gs : List Tak} (h : Held F Z W ts w) (i : Nat) (hi : ts[i]? = some (tTak p gs)) (hgs : gs.length ≤ 4) {c : Nat} {g : Tak} (hc : gs[c]? = some g) (h3 : g.limit ≤ 4000000000000) :
    Calls Try.prog 84 #[.pointer (some ⟨p, 0, none⟩), .int .i64 (c : Int)] w fun e w' => (∃ m, e = .returned (.int .i64 m)) ∧ Held F Z W (ts.set i (tTak p (gs.set c g.take))) w' := by
  refine h.act i hi fun G Y hd hon => ?_
  obtain ⟨b, off, cap, hh, hrow, ⟨g0, g1⟩, gf⟩ := tak_open hon hd hc
  have hlt := lt_of_get hc
  by_cases hr : g.sent < g.limit
  · have hg : g.take = { g with sent := g.sent + 1 } := by unfold Tak.take; rw [if_neg (by omega)]
    rw [hg]
    have HQ := Lib.hid (withT_any p b off gs.length cap c 103 #[] w _ hrow hlt hgs (fun _ _ => rfl) (takeC_yes b (off + c * 2) g.sent g.limit w g0 g1 gf h3 hr))
    have HH := Lib.hid hh
    clear hg hrow g0 g1 gf hh hon h hi hd
    go_enter Try.func84, Try.ntmps84
    go_wp2_with fail
    refine HQ.out.mono ?_
    rintro e w' ⟨m, rfl, rfl, w1, hb, rfl⟩
    have HB := Lib.hid hb
    clear hb
    go_wp2_with fail
    go_ret
    exact ⟨⟨_, rfl⟩, tak_did HH.out HB.out hc (j := 0) (by decide) rfl⟩
  · have hg : g.take = g := by unfold Tak.take; rw [if_pos (by omega)]
    rw [hg]
    have HQ := Lib.hid (withT_any p b off gs.length cap c 103 #[] w _ hrow hlt hgs (fun _ _ => rfl) (takeC_no b (off + c * 2) g.sent g.limit w g0 g1 hr))
    have HH := Lib.hid hh
    clear hg hrow g0 g1 gf hh hon h hi hd
    go_enter Try.func84, Try.ntmps84
    go_wp2_with fail
    refine HQ.out.mono ?_
    rintro e w' ⟨m, rfl, rfl, hb⟩
    have HB := Lib.hid hb
    clear hb
    go_wp2_with fail
    go_ret
    refine ⟨⟨_, rfl⟩, ?_⟩
    rw [set_same' hc]
    exact tak_did0 HH.out HB.out
end
end Go.Proofs.Ytcocnfbhileheaa
