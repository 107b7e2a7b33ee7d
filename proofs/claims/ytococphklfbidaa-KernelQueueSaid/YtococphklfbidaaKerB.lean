/- Lists of events in memory; the search for a place. -/
import Derived.Test.YtococphklfbidaaKerA
import Derived.Deep.RegionHeld3
namespace Go.Proofs.Ytococphklfbidaa
open Go.RowKit

def evC (e : Ev) : List Value := [.int .i64 e.at', .int .i64 e.kind, .int .i64 e.node, .int .i64 e.number, .int .i64 e.arg]
def evCells (l : List Ev) : List Value := l.flatMap evC
theorem evCells_length : ∀ l : List Ev, (evCells l).length = l.length * 5
  | [] => rfl
  | e :: l => by unfold evCells; rw [List.flatMap_cons, List.length_append]; have := evCells_length l; unfold evCells at this; rw [this]; simp [evC]; omega
theorem evCells_app (a b : List Ev) : evCells (a ++ b) = evCells a ++ evCells b := by unfold evCells; rw [List.flatMap_append]
theorem evCells_cons (e : Ev) (l : List Ev) : evCells (e :: l) = evC e ++ evCells l := rfl
theorem evCells_one : ∀ {l : List Ev} {u : Value}, u ∈ evCells l → u.oneCell' = true := by
  intro l u hu
  obtain ⟨e, _, hu⟩ := List.mem_flatMap.1 hu
  simp [evC] at hu
  rcases hu with rfl | rfl | rfl | rfl | rfl <;> rfl
theorem evCells_drop : ∀ (l : List Ev) (k : Nat), (evCells l).drop (k * 5) = evCells (l.drop k)
  | [], k => by simp [evCells]
  | e :: l, 0 => by simp
  | e :: l, k + 1 => by
    rw [evCells_cons, List.drop_succ_cons, ← evCells_drop l k, show (k + 1) * 5 = (evC e).length + k * 5 by simp [evC]; omega, List.drop_append]
    simp
theorem evCells_take : ∀ (l : List Ev) (k : Nat), (evCells l).take (k * 5) = evCells (l.take k)
  | [], k => by simp [evCells]
  | e :: l, 0 => by simp [evCells]
  | e :: l, k + 1 => by
    rw [evCells_cons, List.take_succ_cons, evCells_cons, ← evCells_take l k, show (k + 1) * 5 = (evC e).length + k * 5 by simp [evC]; omega, List.take_append, List.take_of_length_le (by omega)]
    simp
theorem evCells_get {l : List Ev} {i : Nat} {e : Ev} (h : l[i]? = some e) {j : Nat} {u : Value} (hu : (evC e)[j]? = some u) : (evCells l)[i * 5 + j]? = some u := by
  have hj : j < 5 := lt_of_get hu
  have hil := lt_of_get h
  rw [← List.getElem?_drop, evCells_drop, List.drop_eq_getElem_cons hil, evCells_cons]
  rw [List.getElem?_eq_getElem hil] at h
  rw [Option.some.inj h, List.getElem?_append_left (by simp [evC]; omega)]
  exact hu
/-- a slice that reads as events -/
def EvR (w : World) (v : Value) (l : List Ev) : Prop := Rd w 5 v l.length (evCells l)
theorem EvR.below {w w' : World} {v : Value} {l : List Ev} (h : EvR w v l) (hb : Below w.heap.size w w') : EvR w' v l := Rd.below h hb
theorem EvR.shape {w : World} {v : Value} {l : List Ev} (h : EvR w v l) : ∃ a c, v = .slice a l.length c ∧ l.length ≤ c ∧ c ≤ maxLen ∧ (a = none → l.length = 0 ∧ c = 0) := by
  obtain ⟨_, a, c, e, h1, h2, h3, _⟩ := h; exact ⟨a, c, e, h1, h2, h3⟩
theorem ev_at {w : World} {a : Option Addr} {n c : Nat} {l : List Ev} (h : EvR w (.slice a n c) l) {i : Nat} {e : Ev} (hi : l[i]? = some e) :
    ∃ b off, a = some ⟨b, off, none⟩ ∧ w.cell? ⟨b, off + i * 5, none⟩ = some (.int .i64 e.at') ∧ w.cell? ⟨b, off + i * 5 + 1, none⟩ = some (.int .i64 e.kind) ∧ w.cell? ⟨b, off + i * 5 + 2, none⟩ = some (.int .i64 e.node) ∧
      w.cell? ⟨b, off + i * 5 + 3, none⟩ = some (.int .i64 e.number) ∧ w.cell? ⟨b, off + i * 5 + 4, none⟩ = some (.int .i64 e.arg) := by
  obtain ⟨_, a', c', e1, h1, h2, h3, h4⟩ := h
  obtain ⟨rfl, rfl, rfl⟩ : a = a' ∧ n = l.length ∧ c = c' := by simpa using e1
  have hil := lt_of_get hi
  cases a with
  | none => have := (h3 rfl).1; omega
  | some ad =>
    obtain ⟨b, off, spot⟩ := ad
    obtain rfl : spot = none := (h4 _ rfl _ _ (evCells_get hi (j := 0) rfl)).1
    refine ⟨b, off, rfl, ?_, ?_, ?_, ?_, ?_⟩
    · exact (h4 _ rfl _ _ (evCells_get hi (j := 0) rfl)).2
    · exact (h4 _ rfl _ _ (evCells_get hi (j := 1) rfl)).2
    · exact (h4 _ rfl _ _ (evCells_get hi (j := 2) rfl)).2
    · exact (h4 _ rfl _ _ (evCells_get hi (j := 3) rfl)).2
    · exact (h4 _ rfl _ _ (evCells_get hi (j := 4) rfl)).2
theorem els_ev {w : World} {Z : BS} : ∀ {F : BS} {us : List Value} {l : List Ev}, Els eEv w F Z us l → us = evCells l
  | _, us, [], h => h
  | _, us, e :: l, ⟨cs, rest, _, _, e1, _, _, _, h1, h2⟩ => by
    rw [e1, els_ev h2, show cs = evC e from h1]; rfl
theorem ev_els {w : World} {F Z : BS} : ∀ (l : List Ev), Els eEv w F Z (evCells l) l
  | [] => rfl
  | e :: l => ⟨evC e, evCells l, fun _ => False, F, rfl, fun _ f => f.elim, fun _ h => h, fun _ f => f.elim, rfl, ev_els l⟩
theorem Sq.evR {w : World} {F Z : BS} {T : TypeId} {v : Value} {l : List Ev} (h : Sq eEv T w F Z v l) : EvR w v l := by
  obtain ⟨K, D, us, _, _, _, h3, h4⟩ := h
  have := h3.rd
  rw [els_ev h4] at this
  exact this
/-- the place of e in a list in order: what is before it, what is not -/
def Low (l : List Ev) (t : Ev) (i : Nat) : Prop := i ≤ l.length ∧ (∀ (k : Nat) f, k < i → l[k]? = some f → Lt f t) ∧ (∀ (k : Nat) f, i ≤ k → l[k]? = some f → ¬ Lt f t)
def LowPost (w : World) (l : List Ev) (t : Ev) (e : Ending) (w' : World) : Prop := ∃ (i : Nat) (b : Bool), e = .returned (.tuple #[.int .i64 (i : Int), .bool b]) ∧ Low l t i ∧ Below w.heap.size w w'
theorem bel_cell {B : Nat} {w0 w1 : World} (hb : Below B w0 w1) {a : Addr} {v : Value} (ha : a.block < B) (h : w0.cell? a = some v) : w1.cell? a = some v := (hb.cell ha).trans h
set_option maxHeartbeats 4000000 in
theorem search_any (w : World) (v : Value) (l : List Ev) (h : EvR w v l) (hs : Srt l) (hl : l.length ≤ 1000000) (t : Ev) :
    Calls Try.prog 27 #[v, .agg #[.int .i64 t.at', .int .i64 t.kind, .int .i64 t.node, .int .i64 t.number, .int .i64 t.arg], .func (.func 28) #[] #[]] w (LowPost w l t) := by
  obtain ⟨a, c, rfl, hc1, hc2, _⟩ := h.shape
  have H := Lib.hid h
  have HA := Lib.hid hs
  clear h hs
  unfold maxLen at hc2
  have hbox := heap_alloc_new w (.cells #[.int .i64 t.at', .int .i64 t.kind, .int .i64 t.node, .int .i64 t.number, .int .i64 t.arg] 32)
  have HBOX := Lib.hid hbox
  clear hbox
  go_enter Try.func27, Try.ntmps27
  go_wp2_with fail
  go_loopw [9, 10] (fun x y wr => ∃ i j : Nat, x = .int .i64 i ∧ y = .int .i64 j ∧ i ≤ j ∧ j ≤ l.length ∧ Hid (∀ (k : Nat) f, k < i → l[k]? = some f → Lt f t) ∧ Hid (∀ (k : Nat) f, j ≤ k → l[k]? = some f → ¬ Lt f t) ∧ Hid (Below (w.heap.size + 1) (w.alloc (.cells #[.int .i64 t.at', .int .i64 t.kind, .int .i64 t.node, .int .i64 t.number, .int .i64 t.arg] 32)) wr)) (fun x y _ => (intOf y - intOf x).toNat)
  case atStart => exact ⟨0, l.length, rfl, rfl, by omega, by omega, Lib.hid fun k f hk => by omega, Lib.hid fun k f hk hf => by have := lt_of_get hf; omega, Lib.hid (Below.refl _ _)⟩
  case round =>
    obtain ⟨i, j, rfl, rfl, hij, hj, H1, H2, HB⟩ := hrel
    have hz := HB.out.size
    rw [World.size_alloc] at hz
    have HBW : Hid (Below w.heap.size w wr) := Lib.hid ((below_alloc w _).trans (HB.out.mono (by simp)))
    have hrow := (HB.out.block w.heap.size (by omega)).trans HBOX.out
    have HROW := Lib.hid hrow
    clear hrow
    have k0 := blk_cell (i := 0) HROW.out rfl; have k1 := blk_cell (i := 1) HROW.out rfl; have k2 := blk_cell (i := 2) HROW.out rfl; have k3 := blk_cell (i := 3) HROW.out rfl; have k4 := blk_cell (i := 4) HROW.out rfl
    by_cases hlt : i < j
    · have hsh : ((i : Int) + (j : Int)).toNat >>> 1 = (i + j) / 2 := by rw [Nat.shiftRight_eq_div_pow]; omega
      have hu : IntKind.u64.wrap ((i : Int) + (j : Int)) = ((i + j : Nat) : Int) := by unfold IntKind.wrap; simp [IntKind.bits, IntKind.signed]; omega
      obtain ⟨f, hf⟩ : ∃ f, l[(i + j) / 2]? = some f := ⟨l[(i + j) / 2], List.getElem?_eq_getElem (by omega)⟩
      obtain ⟨b, off, rfl, c0, c1, c2, c3, c4⟩ := ev_at (H.out.below HBW.out) hf
      have HF := Lib.hid hf
      clear hf
      have H1' := Lib.hid H1.out; have H2' := Lib.hid H2.out; clear H1 H2
      have HLT : Lt f t ∨ ¬ Lt f t := Classical.em _
      have hx1 : 0 ≤ ((i : Int) + (j : Int)) / 2 ∧ ((i : Int) + (j : Int)) / 2 < (l.length : Int) := by omega
      have hx2 : (((i : Int) + (j : Int)) / 2).toNat = (i + j) / 2 := by omega
      have HX1 := Lib.hid hx1; have HX2 := Lib.hid hx2; clear hx1 hx2
      rcases HLT with hft | hft
      · have hc : cmpE f t = -1 := cmpE_neg hft
        have HFT := Lib.hid hft
        clear hft
        go_wp2_with fail
        have hx1 := HX1.out; have hx2 := HX2.out
        refine wp_region_still_tail 6 (by kernel_rfl) (by kernel_rfl) ?_
        simp only [List.take_succ_cons, List.take_zero, List.drop_succ_cons, List.drop_zero]
        change wpStill _ _ (World.drew _) (fun a' => wpList _ _ _ _ a' (World.drew _)) _ _
        repeat still_step
        refine wpStill_nil ?_
        clear hx1 hx2
        go_wp2_with fail
        refine (compareE_any f t wr.drew).mono ?_
        rintro e w1 ⟨rfl, hb⟩
        have HB1 := Lib.hid (HB.out.trans ((show Below wr.heap.size wr w1 from (below_drew wr 1).trans hb).mono hz))
        clear hb
        go_wp2_with fail
        go_roundw
        case rel => exact ⟨(i + j) / 2 + 1, j, by go_num, rfl, by omega, hj, Lib.hid fun k g hk hg => by
            rcases Nat.lt_or_ge k ((i + j) / 2) with h | h
            · exact Lt.trans (Srt.get HA.out h hg HF.out) HFT.out
            · obtain rfl : k = (i + j) / 2 := by omega
              obtain rfl := Option.some.inj (HF.out.symm.trans hg)
              exact HFT.out, H2', HB1⟩
        case measure => simp [intOf]; omega
      · have hc0 : 0 ≤ cmpE f t := cmpE_nonneg hft
        have HFT := Lib.hid hft
        clear hft
        go_wp2_with fail
        have hx1 := HX1.out; have hx2 := HX2.out
        refine wp_region_still_tail 6 (by kernel_rfl) (by kernel_rfl) ?_
        simp only [List.take_succ_cons, List.take_zero, List.drop_succ_cons, List.drop_zero]
        change wpStill _ _ (World.drew _) (fun a' => wpList _ _ _ _ a' (World.drew _)) _ _
        repeat still_step
        refine wpStill_nil ?_
        clear hx1 hx2
        go_wp2_with fail
        refine (compareE_any f t wr.drew).mono ?_
        rintro e w1 ⟨rfl, hb⟩
        have HB1 := Lib.hid (HB.out.trans ((show Below wr.heap.size wr w1 from (below_drew wr 1).trans hb).mono hz))
        clear hb
        go_wp2_with fail
        go_roundw
        case rel => exact ⟨i, (i + j) / 2, rfl, by go_num, by omega, by omega, H1', Lib.hid fun k g hk hg => by
            rcases Nat.lt_or_ge ((i + j) / 2) k with h | h
            · exact fun hh => HFT.out (Lt.trans (Srt.get HA.out h HF.out hg) hh)
            · obtain rfl : k = (i + j) / 2 := by omega
              obtain rfl := Option.some.inj (HF.out.symm.trans hg)
              exact HFT.out, HB1⟩
        case measure => simp [intOf]; omega
    · obtain rfl : i = j := by omega
      by_cases hin : i < l.length
      · obtain ⟨f, hf⟩ : ∃ f, l[i]? = some f := ⟨l[i], List.getElem?_eq_getElem hin⟩
        obtain ⟨b, off, rfl, c0, c1, c2, c3, c4⟩ := ev_at (H.out.below HBW.out) hf
        clear hf
        go_wp2_with fail
        go_region_held3 (fun w' => w'.cell? ⟨w.heap.size, 0, none⟩ = some (.int .i64 t.at') ∧ w'.cell? ⟨w.heap.size, 1, none⟩ = some (.int .i64 t.kind) ∧ w'.cell? ⟨w.heap.size, 2, none⟩ = some (.int .i64 t.node) ∧ w'.cell? ⟨w.heap.size, 3, none⟩ = some (.int .i64 t.number) ∧ w'.cell? ⟨w.heap.size, 4, none⟩ = some (.int .i64 t.arg) ∧ w'.cell? ⟨b, off + i * 5, none⟩ = some (.int .i64 f.at') ∧ w'.cell? ⟨b, off + i * 5 + 1, none⟩ = some (.int .i64 f.kind) ∧ w'.cell? ⟨b, off + i * 5 + 2, none⟩ = some (.int .i64 f.node) ∧ w'.cell? ⟨b, off + i * 5 + 3, none⟩ = some (.int .i64 f.number) ∧ w'.cell? ⟨b, off + i * 5 + 4, none⟩ = some (.int .i64 f.arg)) (first | exact ⟨k0, k1, k2, k3, k4, c0, c1, c2, c3, c4⟩ | exact HS1.out)
          ((go_at_call 28; refine (compareE_any f t _).mono ?_; rintro e w1 ⟨rfl, hb⟩; have HS1 := Lib.hid (show w1.cell? ⟨w.heap.size, 0, none⟩ = some (.int .i64 t.at') ∧ w1.cell? ⟨w.heap.size, 1, none⟩ = some (.int .i64 t.kind) ∧ w1.cell? ⟨w.heap.size, 2, none⟩ = some (.int .i64 t.node) ∧ w1.cell? ⟨w.heap.size, 3, none⟩ = some (.int .i64 t.number) ∧ w1.cell? ⟨w.heap.size, 4, none⟩ = some (.int .i64 t.arg) ∧ w1.cell? ⟨b, off + i * 5, none⟩ = some (.int .i64 f.at') ∧ w1.cell? ⟨b, off + i * 5 + 1, none⟩ = some (.int .i64 f.kind) ∧ w1.cell? ⟨b, off + i * 5 + 2, none⟩ = some (.int .i64 f.node) ∧ w1.cell? ⟨b, off + i * 5 + 3, none⟩ = some (.int .i64 f.number) ∧ w1.cell? ⟨b, off + i * 5 + 4, none⟩ = some (.int .i64 f.arg) from ⟨cell_later hb k0, cell_later hb k1, cell_later hb k2, cell_later hb k3, cell_later hb k4, cell_later hb c0, cell_later hb c1, cell_later hb c2, cell_later hb c3, cell_later hb c4⟩); have HB1 := Lib.hid (HBW.out.trans ((show Below wr.heap.size wr w1 from (below_drew wr 1).trans hb).mono (by omega))); clear hb))
        all_goals go_wp2_with fail
        all_goals
          go_ret2
          exact ⟨i, _, rfl, ⟨by omega, H1.out, H2.out⟩, HB1.out⟩
      · go_wp2_with fail
        go_quiet (fail)
        go_wp2_with fail
        go_ret2
        exact ⟨i, _, rfl, ⟨by omega, H1.out, H2.out⟩, Bw.drewN HBW.out _⟩
end Go.Proofs.Ytococphklfbidaa
