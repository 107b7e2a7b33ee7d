/- Credits in memory: the giver's Limit, Receive, Free. -/
import Derived.Test.YtcocnfbhileheaaPorG
import Derived.Deep.RegionHeld3
namespace Go.Proofs.Ytcocnfbhileheaa
open Go.RowKit

set_option maxRecDepth 100000 in
set_option maxHeartbeats 4000000 in
theorem limitC_any (b o x a d f : Nat) (w : World) (g0 : w.cell? ⟨b, o, none⟩ = some (.int .i64 (a : Int))) (g1 : w.cell? ⟨b, o + 1, none⟩ = some (.int .i64 (d : Int))) (g2 : w.cell? ⟨b, o + 2, none⟩ = some (.int .i64 (f : Int)))
    (h1 : a ≤ 4000000000000) (h2 : f ≤ 4000000000000) (hx : w.heap[x]? = some (.cells #[.int .i64 0] 3)) :
    Calls Try.prog 79 #[.pointer (some ⟨b, o, none⟩), .pointer (some ⟨x, 0, none⟩)] w fun e w' => ∃ m, e = .returned (.int .i64 m) ∧ w'.heap[x]? = some (.cells #[.int .i64 ((a : Int) + (f : Int))] 3) ∧ Fr (fun k => k = x) w w' := by
  have HX := Lib.hid hx
  clear hx
  go_enter Try.func79, Try.ntmps79
  go_wp2_with fail
  refine (limF_any a d f w h1 h2).mono ?_
  rintro e w1 ⟨rfl, hb⟩
  have hx1 := (hb.block x (lt_of_block HX.out)).trans HX.out
  have HB := Lib.hid hb
  have c0 := blk_cell (i := 0) hx1 rfl
  have cf := fun j => blk_free hx1 j
  have HX1 := Lib.hid hx1
  clear hb hx1 g0 g1 g2
  go_wp2_with fail
  go_ret
  exact ⟨_, rfl, by (apply row_trans; focus (repeat (first | (with_reducible exact HX1.out) | (with_reducible apply row_set) | (with_reducible apply row_drewN) | (with_reducible apply row_drew)))); rfl, Fr.setCell (F := fun k => k = x) (p := ⟨x, 0, none⟩) (Fr.of_below (Fr.refl _ _) HB.out) (Or.inl rfl) _⟩
set_option maxRecDepth 100000 in
set_option maxHeartbeats 4000000 in
theorem limit_any {w : World} {G Y : BS} {p : Nat} {gs : List Giv} (h : (tGiv p gs).on w G Y) (hgs : gs.length ≤ 4) {c : Nat} {g : Giv} (hc : gs[c]? = some g) (h1 : g.room ≤ 4000000000000) (h2 : g.freed ≤ 4000000000000) :
    Calls Try.prog 49 #[.pointer (some ⟨p, 0, none⟩), .int .i64 (c : Int)] w fun e w' => e = .returned (.int .i64 ((g.room : Int) + (g.freed : Int))) ∧ Below w.heap.size w w' := by
  have hmf : ∀ (fn : Fn) (first cap : Array Value) (w : World), (Instr.makeFunc fn first cap).run Try.prog w = .ok (.func fn first cap) w := fun _ _ _ _ => rfl
  have hlt := lt_of_get hc
  obtain ⟨v, hst⟩ := h
  have hrow := (hst.get (i := 0) rfl).1
  have hsq := hst.get (i := 1) rfl
  obtain ⟨b, off, cap, rfl, hcap, hcm⟩ := sq_some hsq (by omega)
  obtain ⟨g0, g1, g2⟩ := giv_cells hsq hc
  have hpl := lt_of_block hrow
  have hbl := (Sq.free hsq).2.2.1
  have HROW := Lib.hid hrow
  clear hst hsq hrow hc
  go_enter Try.func49, Try.ntmps49
  go_wp2_with fail
  have hba := below_alloc w (.cells #[.int .i64 0] 3)
  refine (withG_any p b off gs.length cap c 79 #[.pointer (some ⟨w.heap.size, 0, none⟩)] _ _ ((hba.block p hpl).trans HROW.out) hlt hgs (fun _ _ => rfl)
    (limitC_any b (off + c * 3) w.heap.size g.room g.received g.freed _ ((World.cell?_of_block (hba.block b hbl)).trans g0) ((World.cell?_of_block (hba.block b hbl)).trans g1) ((World.cell?_of_block (hba.block b hbl)).trans g2) h1 h2 (heap_alloc_new w _))).mono ?_
  rintro e w1 ⟨m, rfl, hx1, hf⟩
  have HB := Lib.hid (show Below w.heap.size w w1 from ((Fr.refl _ _).of_below hba |>.trans hf fun k hk => .inl hk).below (B := w.heap.size) (Nat.le_refl _) fun k hk => by have hk' : k = w.heap.size := hk; omega)
  have c0 := blk_cell (i := 0) hx1 rfl
  clear hx1 hf hba g0 g1 g2
  go_wp2_with fail
  go_ret
  exact ⟨rfl, HB.out⟩
/-- one cell written, and new blocks -/
def Put1 (b o : Nat) (u : Value) (w : World) (m : Int) (r : Int) (w' : World) : Prop := r = m ∧ ∃ w1, Below w.heap.size w w1 ∧ w' = w1.setCell ⟨b, o, none⟩ u
def Put0 (w : World) (m : Int) (r : Int) (w' : World) : Prop := r = m ∧ Below w.heap.size w w'
set_option maxRecDepth 100000 in
set_option maxHeartbeats 4000000 in
theorem receiveC_yes (b o a d f : Nat) (w : World) (g0 : w.cell? ⟨b, o, none⟩ = some (.int .i64 (a : Int))) (g1 : w.cell? ⟨b, o + 1, none⟩ = some (.int .i64 (d : Int))) (g2 : w.cell? ⟨b, o + 2, none⟩ = some (.int .i64 (f : Int))) (gf : ∀ j, w.frozen? ⟨b, j, none⟩ = false)
    (h1 : a ≤ 4000000000000) (h2 : f ≤ 4000000000000) (h3 : d ≤ 4000000000000) (hd : d < a + f) :
    Calls Try.prog 95 #[.pointer (some ⟨b, o, none⟩)] w fun e w' => ∃ m, e = .returned (.int .i64 m) ∧ Put1 b (o + 1) (.int .i64 ((d : Int) + 1)) w 0 m w' := by
  have hbl := World.block_lt_of_cell? w _ g0
  dsimp only at hbl
  have hlt : decide ((d : Int) ≥ (a : Int) + (f : Int)) = false := by simp; omega
  have hle : decide ((a : Int) + (f : Int) ≤ (d : Int)) = false := by simp; omega
  clear hd
  go_enter Try.func95, Try.ntmps95
  go_wp2_with fail
  go_region_held3 (fun w' => w'.cell? ⟨b, o, none⟩ = some (.int .i64 (a : Int)) ∧ w'.cell? ⟨b, o + 1, none⟩ = some (.int .i64 (d : Int)) ∧ w'.cell? ⟨b, o + 2, none⟩ = some (.int .i64 (f : Int))) (first | exact ⟨g0, g1, g2⟩ | exact HS1.out)
    ((go_at_call 80; refine (limF_any a d f _ h1 h2).mono ?_; rintro e w1 ⟨rfl, hb⟩; have HB := Lib.hid hb; have HS1 := Lib.hid (show w1.cell? ⟨b, o, none⟩ = some (.int .i64 (a : Int)) ∧ w1.cell? ⟨b, o + 1, none⟩ = some (.int .i64 (d : Int)) ∧ w1.cell? ⟨b, o + 2, none⟩ = some (.int .i64 (f : Int)) from ⟨(World.cell?_of_block (hb.block b hbl)).trans g0, (World.cell?_of_block (hb.block b hbl)).trans g1, (World.cell?_of_block (hb.block b hbl)).trans g2⟩); clear hb))
  clear g0 g1 g2
  obtain ⟨g0, g1, g2⟩ := HS1.out
  have gf1 : ∀ j, w1.frozen? ⟨b, j, none⟩ = false := fun j => (HB.out.frozen (p := ⟨b, j, none⟩) hbl).trans (gf j)
  clear gf
  go_wp2_with fail
  go_ret
  exact ⟨_, rfl, rfl, w1, (below_drew w 1).trans HB.out, rfl⟩
set_option maxRecDepth 100000 in
set_option maxHeartbeats 4000000 in
theorem receiveC_no (b o a d f : Nat) (w : World) (g0 : w.cell? ⟨b, o, none⟩ = some (.int .i64 (a : Int))) (g1 : w.cell? ⟨b, o + 1, none⟩ = some (.int .i64 (d : Int))) (g2 : w.cell? ⟨b, o + 2, none⟩ = some (.int .i64 (f : Int)))
    (h1 : a ≤ 4000000000000) (h2 : f ≤ 4000000000000) (hd : ¬ d < a + f) :
    Calls Try.prog 95 #[.pointer (some ⟨b, o, none⟩)] w fun e w' => ∃ m, e = .returned (.int .i64 m) ∧ Put0 w 5 m w' := by
  have hbl := World.block_lt_of_cell? w _ g0
  dsimp only at hbl
  have hlt : decide ((d : Int) ≥ (a : Int) + (f : Int)) = true := by simp; omega
  have hle : decide ((a : Int) + (f : Int) ≤ (d : Int)) = true := by simp; omega
  clear hd
  go_enter Try.func95, Try.ntmps95
  go_wp2_with fail
  go_region_held3 (fun w' => w'.cell? ⟨b, o, none⟩ = some (.int .i64 (a : Int)) ∧ w'.cell? ⟨b, o + 1, none⟩ = some (.int .i64 (d : Int)) ∧ w'.cell? ⟨b, o + 2, none⟩ = some (.int .i64 (f : Int))) (first | exact ⟨g0, g1, g2⟩ | exact HS1.out)
    ((go_at_call 80; refine (limF_any a d f _ h1 h2).mono ?_; rintro e w1 ⟨rfl, hb⟩; have HB := Lib.hid hb; have HS1 := Lib.hid (show w1.cell? ⟨b, o, none⟩ = some (.int .i64 (a : Int)) ∧ w1.cell? ⟨b, o + 1, none⟩ = some (.int .i64 (d : Int)) ∧ w1.cell? ⟨b, o + 2, none⟩ = some (.int .i64 (f : Int)) from ⟨(World.cell?_of_block (hb.block b hbl)).trans g0, (World.cell?_of_block (hb.block b hbl)).trans g1, (World.cell?_of_block (hb.block b hbl)).trans g2⟩); clear hb))
  clear g0 g1 g2
  go_wp2_with fail
  go_ret
  exact ⟨_, rfl, rfl, (below_drew w 1).trans HB.out⟩
set_option maxRecDepth 100000 in
theorem freeC_yes (b o d f : Nat) (w : World) (g1 : w.cell? ⟨b, o + 1, none⟩ = some (.int .i64 (d : Int))) (g2 : w.cell? ⟨b, o + 2, none⟩ = some (.int .i64 (f : Int))) (gf : ∀ j, w.frozen? ⟨b, j, none⟩ = false) (h3 : d ≤ 4000000000000) (hd : f < d) :
    Calls Try.prog 87 #[.pointer (some ⟨b, o, none⟩)] w fun e w' => ∃ m, e = .returned (.int .i64 m) ∧ Put1 b (o + 2) (.int .i64 ((f : Int) + 1)) w 0 m w' := by
  have hle : decide (d ≤ f) = false := by simp; omega
  go_enter Try.func87, Try.ntmps87
  go_wp2_with fail
  go_quiet (fail)
  go_wp2_with fail
  go_ret
  exact ⟨_, rfl, rfl, _, below_drew w _, rfl⟩
set_option maxRecDepth 100000 in
theorem freeC_no (b o d f : Nat) (w : World) (g1 : w.cell? ⟨b, o + 1, none⟩ = some (.int .i64 (d : Int))) (g2 : w.cell? ⟨b, o + 2, none⟩ = some (.int .i64 (f : Int))) (hd : ¬ f < d) :
    Calls Try.prog 87 #[.pointer (some ⟨b, o, none⟩)] w fun e w' => ∃ m, e = .returned (.int .i64 m) ∧ Put0 w 7 m w' := by
  have hle : decide (d ≤ f) = true := by simp; omega
  go_enter Try.func87, Try.ntmps87
  go_wp2_with fail
  go_quiet (fail)
  go_wp2_with fail
  go_ret
  exact ⟨_, rfl, rfl, below_drew w _⟩
end Go.Proofs.Ytcocnfbhileheaa
