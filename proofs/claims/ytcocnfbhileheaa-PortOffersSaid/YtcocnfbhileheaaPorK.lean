/- Credits in memory: Raise, Left; NewTaker, NewGiver. -/
import Derived.Test.YtcocnfbhileheaaPorJ
namespace Go.Proofs.Ytcocnfbhileheaa
open Go.RowKit

theorem slGiv : SlT Try.prog 163 155 (.agg #[.int .i64 0, .int .i64 0, .int .i64 0]) 3 24 := ⟨Try.underlying163, info_parts (by kernel_rfl), rfl, by decide⟩
theorem slTak : SlT Try.prog 160 172 (.agg #[.int .i64 0, .int .i64 0]) 2 16 := ⟨Try.underlying160, info_parts (by kernel_rfl), rfl, by decide⟩
section
variable {F Z : BS} {W w : World} {ts : List Th} {p : Nat}
set_option maxRecDepth 100000 in
theorem raise_h {gs : List Tak} (h : Held F Z W ts w) (i : Nat) (hi : ts[i]? = some (tTak p gs)) (hgs : gs.length ≤ 4) {c : Nat} {g : Tak} (hc : gs[c]? = some g) (l : Int) :
    Calls Try.prog 100 #[.pointer (some ⟨p, 0, none⟩), .int .i64 (c : Int), .int .i64 l] w fun e w' => (∃ m, e = .returned (.int .i64 m)) ∧ Held F Z W (ts.set i (tTak p (gs.set c (g.raise l)))) w' := by
  have hmf : ∀ (fn : Fn) (first cap : Array Value) (w : World), (Instr.makeFunc fn first cap).run Try.prog w = .ok (.func fn first cap) w := fun _ _ _ _ => rfl
  refine h.act i hi fun G Y hd hon => ?_
  obtain ⟨b, off, cap, hh, hrow, ⟨g0, g1⟩, gf⟩ := tak_open hon hd hc
  have hlt := lt_of_get hc
  have hbl : b < w.heap.size := World.block_lt_of_cell? w _ g0
  have hba := below_alloc w (.cells #[.int .i64 l] 3)
  have hrow' := (hba.block p (lt_of_block hrow)).trans hrow
  have g1' := (World.cell?_of_block (hba.block b hbl)).trans g1
  by_cases hr : l < 0 ∨ 1099511627776 < l
  · have hg : g.raise l = g := by unfold Tak.raise; rw [if_pos hr]
    rw [hg]
    have HQ := Lib.hid (withT_any p b off gs.length cap c 106 #[.pointer (some ⟨w.heap.size, 0, none⟩)] (w.alloc (.cells #[.int .i64 l] 3)) _ hrow' hlt hgs (fun _ _ => rfl) (raiseC_no b (off + c * 2) w.heap.size l _ (heap_alloc_new w _) hr))
    have HH := Lib.hid hh
    have HBA := Lib.hid hba
    clear hg hrow g0 g1 gf hh hon h hi hd g1' hrow' hba hr
    go_enter Try.func100, Try.ntmps100
    go_wp2_with fail
    refine HQ.out.mono ?_
    rintro e w' ⟨m, rfl, rfl, hb⟩
    have HB := Lib.hid (HBA.out.trans (hb.mono HBA.out.size))
    clear hb
    go_wp2_with fail
    go_ret
    refine ⟨⟨_, rfl⟩, ?_⟩
    rw [set_same' hc]
    exact tak_did0 HH.out HB.out
  · obtain ⟨n, rfl⟩ : ∃ n : Nat, l = (n : Int) := ⟨l.toNat, by omega⟩
    have hg : g.raise n = { g with limit := max g.limit n } := by unfold Tak.raise; rw [if_neg hr]; rfl
    rw [hg]
    have HQ := Lib.hid (withT_any p b off gs.length cap c 106 #[.pointer (some ⟨w.heap.size, 0, none⟩)] (w.alloc (.cells #[.int .i64 (n : Int)] 3)) _ hrow' hlt hgs (fun _ _ => rfl)
      (raiseC_yes b (off + c * 2) w.heap.size g.limit n _ g1' (fun j => (hba.frozen (p := ⟨b, j, none⟩) hbl).trans (gf j)) (heap_alloc_new w _) (by omega)))
    have HH := Lib.hid hh
    have HBA := Lib.hid hba
    clear hg hrow g0 g1 gf hh hon h hi hd g1' hrow' hba hr
    go_enter Try.func100, Try.ntmps100
    go_wp2_with fail
    refine HQ.out.mono ?_
    rintro e w' ⟨m, rfl, rfl, w1, hb, rfl⟩
    have HB := Lib.hid (HBA.out.trans (hb.mono HBA.out.size))
    clear hb
    go_wp2_with fail
    go_ret
    exact ⟨⟨_, rfl⟩, tak_did HH.out HB.out hc (j := 1) (by decide) rfl⟩
set_option maxRecDepth 100000 in
theorem left_h {gs : List Tak} (h : Held F Z W ts w) (i : Nat) (hi : ts[i]? = some (tTak p gs)) (hgs : gs.length ≤ 4) {c : Nat} {g : Tak} (hc : gs[c]? = some g) (h1 : g.sent ≤ 4000000000000) (h2 : g.limit ≤ 4000000000000) :
    Calls Try.prog 82 #[.pointer (some ⟨p, 0, none⟩), .int .i64 (c : Int)] w fun e w' => e = .returned (.int .i64 ((g.limit : Int) - (g.sent : Int))) ∧ Held F Z W ts w' := by
  have hmf : ∀ (fn : Fn) (first cap : Array Value) (w : World), (Instr.makeFunc fn first cap).run Try.prog w = .ok (.func fn first cap) w := fun _ _ _ _ => rfl
  obtain ⟨G, Y, hon, hd, _⟩ := h.use i hi
  obtain ⟨b, off, cap, hh, hrow, ⟨g0, g1⟩, gf⟩ := tak_open hon hd hc
  have hlt := lt_of_get hc
  have hbl : b < w.heap.size := World.block_lt_of_cell? w _ g0
  have hba := below_alloc w (.cells #[.int .i64 0] 3)
  have hrow' := (hba.block p (lt_of_block hrow)).trans hrow
  have g0' := (World.cell?_of_block (hba.block b hbl)).trans g0
  have g1' := (World.cell?_of_block (hba.block b hbl)).trans g1
  have HQ := Lib.hid (withT_any p b off gs.length cap c 102 #[.pointer (some ⟨w.heap.size, 0, none⟩)] (w.alloc (.cells #[.int .i64 0] 3)) _ hrow' hlt hgs (fun _ _ => rfl) (leftC_any b (off + c * 2) w.heap.size g.sent g.limit _ g0' g1' (heap_alloc_new w _) h1 h2))
  have HH := Lib.hid h
  have HBA := Lib.hid hba
  clear hrow g0 g1 gf hh hon h hi hd g1' g0' hrow' hba
  go_enter Try.func82, Try.ntmps82
  go_wp2_with fail
  refine HQ.out.mono ?_
  rintro e w1 ⟨m, rfl, hx1, hf⟩
  have HB := Lib.hid (show Below w.heap.size w w1 from ((Fr.refl _ _).of_below HBA.out |>.trans hf fun k hk => .inl hk).below (B := w.heap.size) (Nat.le_refl _) fun k hk => by have hk' : k = w.heap.size := hk; omega)
  have c0 := blk_cell (i := 0) hx1 rfl
  clear hx1 hf
  go_wp2_with fail
  go_ret
  exact ⟨rfl, HH.out.own HB.out⟩
end
theorem newTak_any (n : Nat) (w : World) (h1 : 1 ≤ n) (h2 : n ≤ 4) :
    Calls Try.prog 69 #[.int .i64 (n : Int)] w fun e w' => ∃ p, e = .returned (.tuple #[.pointer (some ⟨p, 0, none⟩), .int .i64 0]) ∧ Made w (tTak p (List.replicate n ⟨0, 0⟩)) w' := by
  go_enter Try.func69, Try.ntmps69
  go_wp2_with (at_make; refine wpList_mkH (E := eTak) slTak rfl (u := .int .i64 0) (a0 := ⟨0, 0⟩) (fun _ _ => rfl) rfl _ _ rfl n rfl rfl (by omega) (by unfold maxLen; omega) ?_; intro w1 hb1 hs1; have HB1 := Lib.hid hb1; have HS1 := Lib.hid hs1; clear hb1 hs1)
  go_ret2
  refine ⟨w1.heap.size, rfl, Made.of ?_⟩
  have h0 := (Held.start0 (fun _ => False) (fun _ => False) (fun _ f => f.elim) w).add HB1.out (T := tSq eTak 172 (.slice (some ⟨w.heap.size, 0, none⟩) n n) (List.replicate n ⟨0, 0⟩)) HS1.out
  exact Held.shut (f := fun v : Value => [tBlk w1.heap.size (.cells #[v] 162), tSq eTak 172 v (List.replicate n ⟨0, 0⟩)]) (ts := []) ((h0.new (.cells #[.slice (some ⟨w.heap.size, 0, none⟩) n n] 162)).pick [1, 0] _ (by simp) rfl)
end Go.Proofs.Ytcocnfbhileheaa
