/- The walk of KernelBefore. -/
import Derived.Test.YtococphklfbidaaKerL
import Derived.Test.YtococphklfbidaaRow
import Derived.Test.YtococphklfbidaaRd
namespace Go.Proofs.Ytococphklfbidaa
open Go.ChangeShapes Go.WideShapes Go.ChangeAt Go.RowKit Go.Maps

def IsEv (v : Value) : Prop := ∃ e : Ev, v = .agg #[.int .i64 e.at', .int .i64 e.kind, .int .i64 e.node, .int .i64 e.number, .int .i64 e.arg]
def rEv : R Ev := rMap (rPair rI (rPair rI (rPair rI (rPair rI rI)))) fun a => ⟨a.1, a.2.1, a.2.2.1, a.2.2.2.1, a.2.2.2.2⟩
theorem opensEv {H : Type} {enc : TypeId × Value → H} {W : World} : Opens enc Try.prog W 32 rEv :=
  opens_map (opens_struct Try.underlying32 (by kernel_rfl)
    (.cons (opens_int Try.underlying3 (by kernel_rfl)) rfl (.cons (opens_int Try.underlying3 (by kernel_rfl)) rfl (.cons (opens_int Try.underlying3 (by kernel_rfl)) rfl (.cons (opens_int Try.underlying3 (by kernel_rfl)) rfl (.one (opens_int Try.underlying3 (by kernel_rfl)) rfl)))))) _
theorem open_isEv {H : Type} {enc : TypeId × Value → H} {W : World} {base : Nat} {r : Reach} {v : Value} {d : DataW H} {ps : List MemPlace} (hval : Value.okWide Try.prog W r base 32 v) (hd : DataW.Trod enc Try.prog W 0 (fun _ => true) true 32 v d ps) : IsEv v := by
  unfold Value.okWide at hval
  rw [Try.underlying32] at hval
  obtain ⟨cs, rfl, _, _⟩ := hval
  obtain ⟨a, ⟨k, n, d, e, g⟩, ⟨c1, c2, e0, ⟨rfl, _⟩, c3, c4, rfl, ⟨rfl, _⟩, c5, c6, rfl, ⟨rfl, _⟩, c7, c8, rfl, ⟨rfl, _⟩, rfl, _⟩, _⟩ := open_isR opensEv hd
  obtain ⟨cs⟩ := cs
  refine ⟨⟨k, n, d, e, g⟩, ?_⟩
  have : cs = _ := e0
  rw [this]; rfl
/-- the three boxes at a world -/
def Boxes (W : World) (a b c : Ev) (w : World) : Prop := W.heap.size + 3 ≤ w.heap.size ∧ Below W.heap.size W w ∧ w.heap[W.heap.size]? = some (.cells #[.int .i64 a.at', .int .i64 a.kind, .int .i64 a.node, .int .i64 a.number, .int .i64 a.arg] 32) ∧ w.heap[W.heap.size + 1]? = some (.cells #[.int .i64 b.at', .int .i64 b.kind, .int .i64 b.node, .int .i64 b.number, .int .i64 b.arg] 32) ∧ w.heap[W.heap.size + 2]? = some (.cells #[.int .i64 c.at', .int .i64 c.kind, .int .i64 c.node, .int .i64 c.number, .int .i64 c.arg] 32)
theorem Boxes.later {W w w' : World} {a b c : Ev} (h : Boxes W a b c w) (hb : Below w.heap.size w w') : Boxes W a b c w' :=
  ⟨Nat.le_trans h.1 hb.size, h.2.1.trans (hb.mono (by have := h.1; omega)), (hb.block _ (lt_of_block h.2.2.1)).trans h.2.2.1, (hb.block _ (lt_of_block h.2.2.2.1)).trans h.2.2.2.1, (hb.block _ (lt_of_block h.2.2.2.2)).trans h.2.2.2.2⟩
theorem Boxes.drew {W w : World} {a b c : Ev} (h : Boxes W a b c w) : Boxes W a b c w.drew := h.later (below_drew w 1)
theorem Boxes.cells {W w : World} {a b c : Ev} (h : Boxes W a b c w) : w.cell? ⟨W.heap.size, 0, none⟩ = some (.int .i64 a.at') ∧ w.cell? ⟨W.heap.size, 1, none⟩ = some (.int .i64 a.kind) ∧ w.cell? ⟨W.heap.size, 2, none⟩ = some (.int .i64 a.node) ∧ w.cell? ⟨W.heap.size, 3, none⟩ = some (.int .i64 a.number) ∧ w.cell? ⟨W.heap.size, 4, none⟩ = some (.int .i64 a.arg) ∧ w.cell? ⟨W.heap.size + 1, 0, none⟩ = some (.int .i64 b.at') ∧ w.cell? ⟨W.heap.size + 1, 1, none⟩ = some (.int .i64 b.kind) ∧ w.cell? ⟨W.heap.size + 1, 2, none⟩ = some (.int .i64 b.node) ∧ w.cell? ⟨W.heap.size + 1, 3, none⟩ = some (.int .i64 b.number) ∧ w.cell? ⟨W.heap.size + 1, 4, none⟩ = some (.int .i64 b.arg) ∧ w.cell? ⟨W.heap.size + 2, 0, none⟩ = some (.int .i64 c.at') ∧ w.cell? ⟨W.heap.size + 2, 1, none⟩ = some (.int .i64 c.kind) ∧ w.cell? ⟨W.heap.size + 2, 2, none⟩ = some (.int .i64 c.node) ∧ w.cell? ⟨W.heap.size + 2, 3, none⟩ = some (.int .i64 c.number) ∧ w.cell? ⟨W.heap.size + 2, 4, none⟩ = some (.int .i64 c.arg) := by
  obtain ⟨_, _, h1, h2, h3⟩ := h
  exact ⟨blk_cell h1 rfl, blk_cell h1 rfl, blk_cell h1 rfl, blk_cell h1 rfl, blk_cell h1 rfl, blk_cell h2 rfl, blk_cell h2 rfl, blk_cell h2 rfl, blk_cell h2 rfl, blk_cell h2 rfl, blk_cell h3 rfl, blk_cell h3 rfl, blk_cell h3 rfl, blk_cell h3 rfl, blk_cell h3 rfl⟩
set_option maxRecDepth 100000 in
set_option maxHeartbeats 16000000 in
theorem walkKernelBefore (W : World) (v0 v1 v2 : Value) (o0 : IsEv v0) (o1 : IsEv v1) (o2 : IsEv v2) :
    Calls Try.prog 6 #[v0, v1, v2] W fun e w' => e = .returned (.bool true) ∧ Below W.heap.size W w' := by
  obtain ⟨a, rfl⟩ := o0
  obtain ⟨b, rfl⟩ := o1
  obtain ⟨c, rfl⟩ := o2
  have hb0 : Boxes W a b c (((W.alloc (.cells #[.int .i64 a.at', .int .i64 a.kind, .int .i64 a.node, .int .i64 a.number, .int .i64 a.arg] 32)).alloc (.cells #[.int .i64 b.at', .int .i64 b.kind, .int .i64 b.node, .int .i64 b.number, .int .i64 b.arg] 32)).alloc (.cells #[.int .i64 c.at', .int .i64 c.kind, .int .i64 c.node, .int .i64 c.number, .int .i64 c.arg] 32)) := by
    have e1 := heap_alloc_new W (.cells #[.int .i64 a.at', .int .i64 a.kind, .int .i64 a.node, .int .i64 a.number, .int .i64 a.arg] 32)
    have e2 := heap_alloc_new (W.alloc (.cells #[.int .i64 a.at', .int .i64 a.kind, .int .i64 a.node, .int .i64 a.number, .int .i64 a.arg] 32)) (.cells #[.int .i64 b.at', .int .i64 b.kind, .int .i64 b.node, .int .i64 b.number, .int .i64 b.arg] 32)
    have e3 := heap_alloc_new ((W.alloc (.cells #[.int .i64 a.at', .int .i64 a.kind, .int .i64 a.node, .int .i64 a.number, .int .i64 a.arg] 32)).alloc (.cells #[.int .i64 b.at', .int .i64 b.kind, .int .i64 b.node, .int .i64 b.number, .int .i64 b.arg] 32)) (.cells #[.int .i64 c.at', .int .i64 c.kind, .int .i64 c.node, .int .i64 c.number, .int .i64 c.arg] 32)
    rw [World.size_alloc] at e2
    rw [World.size_alloc, World.size_alloc] at e3
    exact ⟨by simp, by (repeat (first | (with_reducible exact Below.refl _ _) | (with_reducible refine Bw.alloc ?_ _) | (with_reducible refine Bw.drewN ?_ _) | (with_reducible refine Bw.drew ?_))), row_alloc _ (row_alloc _ e1), row_alloc _ e2, e3⟩
  have HB0 := Lib.hid hb0
  have hG := eqGuardEv
  have hAA := Lib.hid (ltB_false.2 (Lt.irrefl a))
  clear hb0
  go_enter Try.func6, Try.ntmps6
  go_wp2_with fail
  refine (awake_any _).mono ?_
  rintro e w1 ⟨rfl, hb⟩
  have HB1 := Lib.hid (HB0.out.later hb); clear hb
  have HBX := HB1; clear HB1
  obtain ⟨a0, a1, a2, a3, a4, b0, b1, b2, b3, b4, c0, c1, c2, c3, c4⟩ := HBX.out.cells
  have haa := hAA.out
  go_wp2_with fail
  go_region_held3 (fun w' => w'.cell? ⟨W.heap.size, 0, none⟩ = some (.int .i64 a.at') ∧ w'.cell? ⟨W.heap.size, 1, none⟩ = some (.int .i64 a.kind) ∧ w'.cell? ⟨W.heap.size, 2, none⟩ = some (.int .i64 a.node) ∧ w'.cell? ⟨W.heap.size, 3, none⟩ = some (.int .i64 a.number) ∧ w'.cell? ⟨W.heap.size, 4, none⟩ = some (.int .i64 a.arg) ∧ w'.cell? ⟨W.heap.size + 1, 0, none⟩ = some (.int .i64 b.at') ∧ w'.cell? ⟨W.heap.size + 1, 1, none⟩ = some (.int .i64 b.kind) ∧ w'.cell? ⟨W.heap.size + 1, 2, none⟩ = some (.int .i64 b.node) ∧ w'.cell? ⟨W.heap.size + 1, 3, none⟩ = some (.int .i64 b.number) ∧ w'.cell? ⟨W.heap.size + 1, 4, none⟩ = some (.int .i64 b.arg) ∧ w'.cell? ⟨W.heap.size + 2, 0, none⟩ = some (.int .i64 c.at') ∧ w'.cell? ⟨W.heap.size + 2, 1, none⟩ = some (.int .i64 c.kind) ∧ w'.cell? ⟨W.heap.size + 2, 2, none⟩ = some (.int .i64 c.node) ∧ w'.cell? ⟨W.heap.size + 2, 3, none⟩ = some (.int .i64 c.number) ∧ w'.cell? ⟨W.heap.size + 2, 4, none⟩ = some (.int .i64 c.arg)) (first | exact HBX.out.cells | exact HBX.out.drew.cells)
    (first
    | (go_at_call 16; refine (before_any _ _ _).mono ?_; rintro e w2 ⟨rfl, hb⟩; have HBX := Lib.hid ((show Boxes W a b c _ by first | exact HBX.out | exact HBX.out.drew).later hb); clear hb)
    | (go_at_call 19; refine (refBefore_any _ _ _).mono ?_; rintro e w2 ⟨rfl, hb⟩; have HBX := Lib.hid ((show Boxes W a b c _ by first | exact HBX.out | exact HBX.out.drew).later hb); clear hb)
    | (go_at_call 18; refine (key_any _ _).mono ?_; rintro e w2 ⟨rfl, hb⟩; have HBX := Lib.hid ((show Boxes W a b c _ by first | exact HBX.out | exact HBX.out.drew).later hb); clear hb))
  clear a0 a1 a2 a3 a4 b0 b1 b2 b3 b4 c0 c1 c2 c3 c4
  obtain ⟨a0, a1, a2, a3, a4, b0, b1, b2, b3, b4, c0, c1, c2, c3, c4⟩ := HBX.out.cells
  obtain ⟨kb, hkb⟩ : ∃ kb, kb = eqB ⟨a.at', a.kind, a.node, a.number, 0⟩ ⟨b.at', b.kind, b.node, b.number, 0⟩ := ⟨_, rfl⟩
  have hkey : ∀ w, (binOp .eql 32 (.agg #[.int .i64 a.at', .int .i64 a.kind, .int .i64 a.node, .int .i64 a.number, .int .i64 0]) (.agg #[.int .i64 b.at', .int .i64 b.kind, .int .i64 b.node, .int .i64 b.number, .int .i64 0])).run Try.prog w = .ok (.bool kb) w := fun w => by rw [hkb]; exact run_eqEv ⟨a.at', a.kind, a.node, a.number, 0⟩ ⟨b.at', b.kind, b.node, b.number, 0⟩ w
  have hcase : (kb = true ∧ ltB a b = false ∧ ltB b a = false) ∨ (kb = false ∧ ltB a b = true ∧ ltB b a = false) ∨ (kb = false ∧ ltB a b = false ∧ ltB b a = true) := by
    cases hk : kb with
    | true =>
      rw [hk] at hkb
      have := eqB_iff.1 hkb.symm
      simp at this
      exact .inl ⟨rfl, ltB_false.2 (by unfold Lt; omega), ltB_false.2 (by unfold Lt; omega)⟩
    | false =>
      refine .inr ?_
      by_cases h : Lt a b
      · exact .inl ⟨rfl, ltB_iff.2 h, ltB_false.2 h.asymm⟩
      · refine .inr ⟨rfl, ltB_false.2 h, ltB_iff.2 ?_⟩
        rw [hk] at hkb
        have hne : ¬ (a.at' = b.at' ∧ a.kind = b.kind ∧ a.node = b.node ∧ a.number = b.number) := fun ⟨h1, h2, h3, h4⟩ => by
          rw [h1, h2, h3, h4, eqB_self] at hkb; cases hkb
        unfold Lt at *; omega
  have hbc : ltB a b = true → ltB b c = true → ltB a c = true := fun h1 h2 => ltB_iff.2 ((ltB_iff.1 h1).trans (ltB_iff.1 h2))
  have HKEY := Lib.hid hkey; have HBC := Lib.hid hbc
  clear hkey hkb hbc haa
  rcases hcase with ⟨h1, h2, h3⟩ | ⟨h1, h2, h3⟩ | ⟨h1, h2, h3⟩
  · have hkey := HKEY.out
    go_wp2_with fail
    go_region_held3 (fun w' => w'.cell? ⟨W.heap.size, 0, none⟩ = some (.int .i64 a.at') ∧ w'.cell? ⟨W.heap.size, 1, none⟩ = some (.int .i64 a.kind) ∧ w'.cell? ⟨W.heap.size, 2, none⟩ = some (.int .i64 a.node) ∧ w'.cell? ⟨W.heap.size, 3, none⟩ = some (.int .i64 a.number) ∧ w'.cell? ⟨W.heap.size, 4, none⟩ = some (.int .i64 a.arg) ∧ w'.cell? ⟨W.heap.size + 1, 0, none⟩ = some (.int .i64 b.at') ∧ w'.cell? ⟨W.heap.size + 1, 1, none⟩ = some (.int .i64 b.kind) ∧ w'.cell? ⟨W.heap.size + 1, 2, none⟩ = some (.int .i64 b.node) ∧ w'.cell? ⟨W.heap.size + 1, 3, none⟩ = some (.int .i64 b.number) ∧ w'.cell? ⟨W.heap.size + 1, 4, none⟩ = some (.int .i64 b.arg) ∧ w'.cell? ⟨W.heap.size + 2, 0, none⟩ = some (.int .i64 c.at') ∧ w'.cell? ⟨W.heap.size + 2, 1, none⟩ = some (.int .i64 c.kind) ∧ w'.cell? ⟨W.heap.size + 2, 2, none⟩ = some (.int .i64 c.node) ∧ w'.cell? ⟨W.heap.size + 2, 3, none⟩ = some (.int .i64 c.number) ∧ w'.cell? ⟨W.heap.size + 2, 4, none⟩ = some (.int .i64 c.arg)) (first | exact HBX.out.cells | exact HBX.out.drew.cells)
      (first
    | (go_at_call 16; refine (before_any _ _ _).mono ?_; rintro e w2 ⟨rfl, hb⟩; have HBX := Lib.hid ((show Boxes W a b c _ by first | exact HBX.out | exact HBX.out.drew).later hb); clear hb)
    | (go_at_call 18; refine (key_any _ _).mono ?_; rintro e w2 ⟨rfl, hb⟩; have HBX := Lib.hid ((show Boxes W a b c _ by first | exact HBX.out | exact HBX.out.drew).later hb); clear hb))
    clear a0 a1 a2 a3 a4 b0 b1 b2 b3 b4 c0 c1 c2 c3 c4 hkey
    obtain ⟨a0, a1, a2, a3, a4, b0, b1, b2, b3, b4, c0, c1, c2, c3, c4⟩ := HBX.out.cells
    go_wp2_with (go_at_call 16; refine (before_any _ _ _).mono ?_; rintro e w2 ⟨rfl, hb⟩; have HBX := Lib.hid (HBX.out.later hb); clear hb; clear a0 a1 a2 a3 a4 b0 b1 b2 b3 b4 c0 c1 c2 c3 c4; obtain ⟨a0, a1, a2, a3, a4, b0, b1, b2, b3, b4, c0, c1, c2, c3, c4⟩ := HBX.out.cells)
    go_ret
    exact ⟨rfl, HBX.out.2.1⟩
  · have hkey := HKEY.out
    go_wp2_with fail
    go_region_held3 (fun w' => w'.cell? ⟨W.heap.size, 0, none⟩ = some (.int .i64 a.at') ∧ w'.cell? ⟨W.heap.size, 1, none⟩ = some (.int .i64 a.kind) ∧ w'.cell? ⟨W.heap.size, 2, none⟩ = some (.int .i64 a.node) ∧ w'.cell? ⟨W.heap.size, 3, none⟩ = some (.int .i64 a.number) ∧ w'.cell? ⟨W.heap.size, 4, none⟩ = some (.int .i64 a.arg) ∧ w'.cell? ⟨W.heap.size + 1, 0, none⟩ = some (.int .i64 b.at') ∧ w'.cell? ⟨W.heap.size + 1, 1, none⟩ = some (.int .i64 b.kind) ∧ w'.cell? ⟨W.heap.size + 1, 2, none⟩ = some (.int .i64 b.node) ∧ w'.cell? ⟨W.heap.size + 1, 3, none⟩ = some (.int .i64 b.number) ∧ w'.cell? ⟨W.heap.size + 1, 4, none⟩ = some (.int .i64 b.arg) ∧ w'.cell? ⟨W.heap.size + 2, 0, none⟩ = some (.int .i64 c.at') ∧ w'.cell? ⟨W.heap.size + 2, 1, none⟩ = some (.int .i64 c.kind) ∧ w'.cell? ⟨W.heap.size + 2, 2, none⟩ = some (.int .i64 c.node) ∧ w'.cell? ⟨W.heap.size + 2, 3, none⟩ = some (.int .i64 c.number) ∧ w'.cell? ⟨W.heap.size + 2, 4, none⟩ = some (.int .i64 c.arg)) (first | exact HBX.out.cells | exact HBX.out.drew.cells)
      (first
    | (go_at_call 16; refine (before_any _ _ _).mono ?_; rintro e w2 ⟨rfl, hb⟩; have HBX := Lib.hid ((show Boxes W a b c _ by first | exact HBX.out | exact HBX.out.drew).later hb); clear hb)
    | (go_at_call 18; refine (key_any _ _).mono ?_; rintro e w2 ⟨rfl, hb⟩; have HBX := Lib.hid ((show Boxes W a b c _ by first | exact HBX.out | exact HBX.out.drew).later hb); clear hb))
    clear a0 a1 a2 a3 a4 b0 b1 b2 b3 b4 c0 c1 c2 c3 c4 hkey
    obtain ⟨a0, a1, a2, a3, a4, b0, b1, b2, b3, b4, c0, c1, c2, c3, c4⟩ := HBX.out.cells
    go_wp2_with fail
    go_region_held3 (fun w' => w'.cell? ⟨W.heap.size, 0, none⟩ = some (.int .i64 a.at') ∧ w'.cell? ⟨W.heap.size, 1, none⟩ = some (.int .i64 a.kind) ∧ w'.cell? ⟨W.heap.size, 2, none⟩ = some (.int .i64 a.node) ∧ w'.cell? ⟨W.heap.size, 3, none⟩ = some (.int .i64 a.number) ∧ w'.cell? ⟨W.heap.size, 4, none⟩ = some (.int .i64 a.arg) ∧ w'.cell? ⟨W.heap.size + 1, 0, none⟩ = some (.int .i64 b.at') ∧ w'.cell? ⟨W.heap.size + 1, 1, none⟩ = some (.int .i64 b.kind) ∧ w'.cell? ⟨W.heap.size + 1, 2, none⟩ = some (.int .i64 b.node) ∧ w'.cell? ⟨W.heap.size + 1, 3, none⟩ = some (.int .i64 b.number) ∧ w'.cell? ⟨W.heap.size + 1, 4, none⟩ = some (.int .i64 b.arg) ∧ w'.cell? ⟨W.heap.size + 2, 0, none⟩ = some (.int .i64 c.at') ∧ w'.cell? ⟨W.heap.size + 2, 1, none⟩ = some (.int .i64 c.kind) ∧ w'.cell? ⟨W.heap.size + 2, 2, none⟩ = some (.int .i64 c.node) ∧ w'.cell? ⟨W.heap.size + 2, 3, none⟩ = some (.int .i64 c.number) ∧ w'.cell? ⟨W.heap.size + 2, 4, none⟩ = some (.int .i64 c.arg)) (first | exact HBX.out.cells | exact HBX.out.drew.cells)
      (first
    | (go_at_call 16; refine (before_any _ _ _).mono ?_; rintro e w2 ⟨rfl, hb⟩; have HBX := Lib.hid ((show Boxes W a b c _ by first | exact HBX.out | exact HBX.out.drew).later hb); clear hb)
    | (go_at_call 18; refine (key_any _ _).mono ?_; rintro e w2 ⟨rfl, hb⟩; have HBX := Lib.hid ((show Boxes W a b c _ by first | exact HBX.out | exact HBX.out.drew).later hb); clear hb))
    clear a0 a1 a2 a3 a4 b0 b1 b2 b3 b4 c0 c1 c2 c3 c4
    obtain ⟨a0, a1, a2, a3, a4, b0, b1, b2, b3, b4, c0, c1, c2, c3, c4⟩ := HBX.out.cells
    cases hbc : ltB b c with
    | false =>
      go_wp2_with (go_at_call 16; refine (before_any _ _ _).mono ?_; rintro e w2 ⟨rfl, hb⟩; have HBX := Lib.hid (HBX.out.later hb); clear hb; clear a0 a1 a2 a3 a4 b0 b1 b2 b3 b4 c0 c1 c2 c3 c4; obtain ⟨a0, a1, a2, a3, a4, b0, b1, b2, b3, b4, c0, c1, c2, c3, c4⟩ := HBX.out.cells)
      go_ret
      exact ⟨rfl, HBX.out.2.1⟩
    | true =>
      have hac := HBC.out h2 hbc
      go_wp2_with (go_at_call 16; refine (before_any _ _ _).mono ?_; rintro e w2 ⟨rfl, hb⟩; have HBX := Lib.hid (HBX.out.later hb); clear hb; clear a0 a1 a2 a3 a4 b0 b1 b2 b3 b4 c0 c1 c2 c3 c4; obtain ⟨a0, a1, a2, a3, a4, b0, b1, b2, b3, b4, c0, c1, c2, c3, c4⟩ := HBX.out.cells)
      go_ret
      exact ⟨rfl, HBX.out.2.1⟩
  · have hkey := HKEY.out
    go_wp2_with fail
    go_region_held3 (fun w' => w'.cell? ⟨W.heap.size, 0, none⟩ = some (.int .i64 a.at') ∧ w'.cell? ⟨W.heap.size, 1, none⟩ = some (.int .i64 a.kind) ∧ w'.cell? ⟨W.heap.size, 2, none⟩ = some (.int .i64 a.node) ∧ w'.cell? ⟨W.heap.size, 3, none⟩ = some (.int .i64 a.number) ∧ w'.cell? ⟨W.heap.size, 4, none⟩ = some (.int .i64 a.arg) ∧ w'.cell? ⟨W.heap.size + 1, 0, none⟩ = some (.int .i64 b.at') ∧ w'.cell? ⟨W.heap.size + 1, 1, none⟩ = some (.int .i64 b.kind) ∧ w'.cell? ⟨W.heap.size + 1, 2, none⟩ = some (.int .i64 b.node) ∧ w'.cell? ⟨W.heap.size + 1, 3, none⟩ = some (.int .i64 b.number) ∧ w'.cell? ⟨W.heap.size + 1, 4, none⟩ = some (.int .i64 b.arg) ∧ w'.cell? ⟨W.heap.size + 2, 0, none⟩ = some (.int .i64 c.at') ∧ w'.cell? ⟨W.heap.size + 2, 1, none⟩ = some (.int .i64 c.kind) ∧ w'.cell? ⟨W.heap.size + 2, 2, none⟩ = some (.int .i64 c.node) ∧ w'.cell? ⟨W.heap.size + 2, 3, none⟩ = some (.int .i64 c.number) ∧ w'.cell? ⟨W.heap.size + 2, 4, none⟩ = some (.int .i64 c.arg)) (first | exact HBX.out.cells | exact HBX.out.drew.cells)
      (first
    | (go_at_call 16; refine (before_any _ _ _).mono ?_; rintro e w2 ⟨rfl, hb⟩; have HBX := Lib.hid ((show Boxes W a b c _ by first | exact HBX.out | exact HBX.out.drew).later hb); clear hb)
    | (go_at_call 18; refine (key_any _ _).mono ?_; rintro e w2 ⟨rfl, hb⟩; have HBX := Lib.hid ((show Boxes W a b c _ by first | exact HBX.out | exact HBX.out.drew).later hb); clear hb))
    clear a0 a1 a2 a3 a4 b0 b1 b2 b3 b4 c0 c1 c2 c3 c4 hkey
    obtain ⟨a0, a1, a2, a3, a4, b0, b1, b2, b3, b4, c0, c1, c2, c3, c4⟩ := HBX.out.cells
    go_wp2_with fail
    go_region_held3 (fun w' => w'.cell? ⟨W.heap.size, 0, none⟩ = some (.int .i64 a.at') ∧ w'.cell? ⟨W.heap.size, 1, none⟩ = some (.int .i64 a.kind) ∧ w'.cell? ⟨W.heap.size, 2, none⟩ = some (.int .i64 a.node) ∧ w'.cell? ⟨W.heap.size, 3, none⟩ = some (.int .i64 a.number) ∧ w'.cell? ⟨W.heap.size, 4, none⟩ = some (.int .i64 a.arg) ∧ w'.cell? ⟨W.heap.size + 1, 0, none⟩ = some (.int .i64 b.at') ∧ w'.cell? ⟨W.heap.size + 1, 1, none⟩ = some (.int .i64 b.kind) ∧ w'.cell? ⟨W.heap.size + 1, 2, none⟩ = some (.int .i64 b.node) ∧ w'.cell? ⟨W.heap.size + 1, 3, none⟩ = some (.int .i64 b.number) ∧ w'.cell? ⟨W.heap.size + 1, 4, none⟩ = some (.int .i64 b.arg) ∧ w'.cell? ⟨W.heap.size + 2, 0, none⟩ = some (.int .i64 c.at') ∧ w'.cell? ⟨W.heap.size + 2, 1, none⟩ = some (.int .i64 c.kind) ∧ w'.cell? ⟨W.heap.size + 2, 2, none⟩ = some (.int .i64 c.node) ∧ w'.cell? ⟨W.heap.size + 2, 3, none⟩ = some (.int .i64 c.number) ∧ w'.cell? ⟨W.heap.size + 2, 4, none⟩ = some (.int .i64 c.arg)) (first | exact HBX.out.cells | exact HBX.out.drew.cells)
      (first
    | (go_at_call 16; refine (before_any _ _ _).mono ?_; rintro e w2 ⟨rfl, hb⟩; have HBX := Lib.hid ((show Boxes W a b c _ by first | exact HBX.out | exact HBX.out.drew).later hb); clear hb)
    | (go_at_call 18; refine (key_any _ _).mono ?_; rintro e w2 ⟨rfl, hb⟩; have HBX := Lib.hid ((show Boxes W a b c _ by first | exact HBX.out | exact HBX.out.drew).later hb); clear hb))
    clear a0 a1 a2 a3 a4 b0 b1 b2 b3 b4 c0 c1 c2 c3 c4
    obtain ⟨a0, a1, a2, a3, a4, b0, b1, b2, b3, b4, c0, c1, c2, c3, c4⟩ := HBX.out.cells
    go_wp2_with (go_at_call 16; refine (before_any _ _ _).mono ?_; rintro e w2 ⟨rfl, hb⟩; have HBX := Lib.hid (HBX.out.later hb); clear hb; clear a0 a1 a2 a3 a4 b0 b1 b2 b3 b4 c0 c1 c2 c3 c4; obtain ⟨a0, a1, a2, a3, a4, b0, b1, b2, b3, b4, c0, c1, c2, c3, c4⟩ := HBX.out.cells)
    go_ret
    exact ⟨rfl, HBX.out.2.1⟩
end Go.Proofs.Ytococphklfbidaa
