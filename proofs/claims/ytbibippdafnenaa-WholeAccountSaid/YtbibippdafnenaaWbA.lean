/- A writer's New, Close, Counts; slices.Clone on bytes. -/
import Derived.Test.YtbibippdafnenaaWaA
import Derived.Test.YtbibippdafnenaaWaX
import Derived.Test.YtbibippdafnenaaMgB
import Derived.Test.YtbibippdafnenaaRgl
import Derived.Deep.QuietTactic
import Derived.Deep.CutBlock
import Derived.Lib.MinMax
import Derived.StillTailTactics
namespace Go.Proofs.Ytbibippdafnenaa
open Go.RowKit
set_option maxRecDepth 100000

@[go_sem high] theorem run_min_three {P : Program} (w : World) (ts : Array TypeId) (t : TypeId) (k k' k'' : IntKind) (x y z : Int) :
    (Builtin.min_ ts t #[.int k x, .int k' y, .int k'' z]).run P w = .ok (.int k (min (min x y) z)) w := by
  have e : ∀ x y : Int, (if y < x then y else x) = min x y := fun x y => by
    rw [Int.min_def]
    split <;> split <;> omega
  simp [Builtin.min_, Builtin.min2, e]
theorem newW_c (n : Nat) (h1 : 1 ≤ n) (h2 : n ≤ 1000) (w : World) : Calls Try.prog 6 #[.int .i64 (n : Int), .int .i64 2] w fun e w' => ∃ p, e = .returned (.tuple #[.pointer (some ⟨p, 0, none⟩), .int .i64 0]) ∧ Made w (tWr p (Wr.new n)) w' := by
  go_enter Try.func6, Try.ntmps6
  go_wp2_with fail
  have H1 := ((Held.start0 (fun _ => False) (fun _ => False) (fun _ f _ => f) w).new (wrRow (Wr.new n) (.slice none 0 0))).add (Below.refl _ _) (T := tSq eU8 5 (.slice none 0 0) []) (Sq.nil _ _ _ _ _)
  go_ret2
  exact ⟨w.heap.size, rfl, Made.of (Held.shut (f := wrThs w.heap.size (Wr.new n)) (i := .slice none 0 0) H1)⟩
section
variable {F Z : BS} {W w : World} {ts : List Th} {p : Nat} {x : Wr}
theorem wr_cells {v : Value} (h : w.heap[p]? = some (wrRow x v)) : w.cell? ⟨p, 0, none⟩ = some (.int .i64 (x.win : Int)) ∧ w.cell? ⟨p, 1, none⟩ = some (.int .i64 2) ∧ w.cell? ⟨p, 2, none⟩ = some v ∧ w.cell? ⟨p, 3, none⟩ = some (.int .i64 (x.all.length : Int)) ∧ w.cell? ⟨p, 4, none⟩ = some (.int .i64 (x.base : Int)) ∧ w.cell? ⟨p, 5, none⟩ = some (.int .i64 (x.next : Int)) ∧
    w.cell? ⟨p, 6, none⟩ = some (.int .i64 (x.top : Int)) ∧ w.cell? ⟨p, 7, none⟩ = some (.int .i64 (x.room : Int)) ∧ w.cell? ⟨p, 8, none⟩ = some (.int .i64 (x.idle : Int)) ∧ w.cell? ⟨p, 9, none⟩ = some (.bool x.closed) ∧ w.cell? ⟨p, 10, none⟩ = some (.bool x.ended) ∧ w.cell? ⟨p, 11, none⟩ = some (.bool x.marked) ∧ w.cell? ⟨p, 12, none⟩ = some (.bool x.done) :=
  ⟨blk_cell h rfl, blk_cell h rfl, blk_cell h rfl, blk_cell h rfl, blk_cell h rfl, blk_cell h rfl, blk_cell h rfl, blk_cell h rfl, blk_cell h rfl, blk_cell h rfl, blk_cell h rfl, blk_cell h rfl, blk_cell h rfl⟩
theorem closeW_c (h : Held F Z W (tWr p x :: ts) w) : Calls Try.prog 15 #[.pointer (some ⟨p, 0, none⟩)] w fun e w' => ∃ k : Int, e = .returned (.int .i64 k) ∧ Held F Z W (tWr p x.close :: ts) w' := by
  obtain ⟨v, h1⟩ := Held.opens h
  have H1 := Lib.hid h1
  obtain ⟨-, -, -, -, -, -, -, -, -, c9, -⟩ := wr_cells (h1.blk 0 rfl)
  have hup := blk_free (h1.blk 0 rfl)
  cases hc : x.closed
  · rw [hc] at c9
    have H2 := Lib.hid (H1.out.set 0 rfl (wrRow x.close v) ((Fr.refl (fun k => k = p) w).setCell (p := ⟨p, 9, none⟩) (.inl rfl) (.bool true)) (by have hr := H1.out.blk 0 rfl; rw [show wrRow x.close v = .cells #[.int .i64 (x.win : Int), .int .i64 2, v, .int .i64 (x.all.length : Int), .int .i64 (x.base : Int), .int .i64 (x.next : Int), .int .i64 (x.top : Int), .int .i64 (x.room : Int), .int .i64 (x.idle : Int), .bool true, .bool x.ended, .bool x.marked, .bool x.done] 76 from rfl]; (apply row_trans; focus (repeat (first | (with_reducible exact hr) | (with_reducible apply row_set) | (with_reducible apply row_drewN) | (with_reducible apply row_drew) | (with_reducible apply row_alloc) | (apply row_set_other (by first | omega | (simp <;> omega)))))); rfl))
    clear h h1 hc H1
    go_enter Try.func15, Try.ntmps15
    go_wp2_with fail
    go_ret
    exact ⟨0, rfl, Held.shut (f := wrThs p x.close) (i := v) H2.out⟩
  · rw [hc] at c9
    have e : x.close = x := by unfold Wr.close; rw [← hc]
    rw [e]
    have H2 := Lib.hid h
    clear h h1 hc H1
    go_enter Try.func15, Try.ntmps15
    go_wp2_with fail
    go_ret
    exact ⟨13, rfl, H2.out⟩
theorem countsW_c (h : Held F Z W (tWr p x :: ts) w) : Calls Try.prog 17 #[.pointer (some ⟨p, 0, none⟩)] w fun e w' => e = .returned (.tuple #[.int .i64 (x.all.length : Int), .int .i64 (x.base : Int), .bool x.done]) ∧ Held F Z W (tWr p x :: ts) w' := by
  obtain ⟨v, h1⟩ := Held.opens h
  obtain ⟨-, -, -, c3, c4, -, -, -, -, -, -, -, c12⟩ := wr_cells (h1.blk 0 rfl)
  have H := Lib.hid h
  obtain ⟨T, hT⟩ : ∃ T, T = x.all.length := ⟨_, rfl⟩
  rw [← hT] at c3 ⊢
  clear h h1 hT
  go_enter Try.func17, Try.ntmps17
  go_wp2_with fail
  go_quiet (fail)
  generalize hw3 : World.drewN _ _ = w3
  have H3 := Lib.hid (show Held F Z W (tWr p x :: ts) w3 by rw [← hw3]; exact H.out.drewN _)
  clear hw3
  go_wp2_with fail
  go_ret3
  exact ⟨rfl, H3.out⟩
/-- v[i:], as the model lays it -/
def subA (a : Option Addr) (c i : Nat) : Option Addr := if c = i then a else a.map fun ad => ad.add i
theorem by_sub {a : Option Addr} {n c : Nat} {bs : List (BitVec 8)} (h : By w (.slice a n c) bs) {i j : Nat} (hj : i + j ≤ n) : By w (.slice (subA a c i) j (c - i)) ((bs.drop i).take j) := by
  obtain ⟨_, a', c', e, h1, h2, h3, h4⟩ := h
  obtain ⟨rfl, rfl, rfl⟩ : a = a' ∧ n = bs.length ∧ c = c' := by simpa using e
  have hl : ((bs.drop i).take j).length = j := by rw [List.length_take, List.length_drop]; omega
  refine ⟨by rw [cu_length, hl, Nat.mul_one], _, c - i, by rw [hl], by omega, by omega, fun e => ?_, fun ad hb k u hk => ?_⟩
  · unfold subA at e
    cases a with
    | none => have := h3 rfl; rw [hl]; omega
    | some ad => split at e <;> cases e
  · have hkl : k < j := by have := lt_of_get hk; rw [cu_length, hl] at this; exact this
    unfold subA at hb
    rw [if_neg (by omega)] at hb
    cases a with
    | none => cases hb
    | some ad =>
      obtain rfl := Option.some.inj hb
      rw [cu, List.getElem?_map, List.getElem?_take, if_pos hkl, List.getElem?_drop] at hk
      obtain ⟨q1, q2⟩ := h4 ad rfl (i + k) u (by rw [cu, List.getElem?_map]; exact hk)
      show (ad.add i).spot = none ∧ w.cell? ⟨(ad.add i).block, (ad.add i).off + k, none⟩ = some u
      rw [← Nat.add_assoc] at q2
      unfold Addr.add
      by_cases h0 : i = 0
      · subst h0
        rw [if_pos rfl]
        exact ⟨q1, q2⟩
      · rw [if_neg h0]
        exact ⟨rfl, q2⟩
theorem cloneB_c {a : Option Addr} {n c : Nat} {bs : List (BitVec 8)} (h : Held F Z W ts w) (hb : By w (.slice a n c) bs) (hl : bs.length ≤ 100000) :
    Calls Try.prog 45 #[.slice a n c] w fun e w' => ∃ a' c', e = .returned (.slice a' n c') ∧ Held F Z W (ts ++ [tBy (.slice a' n c') bs]) w' := by
  have hsn := fun a n c n' c' => Lib.run_eql_slice_nil (P := Try.prog) w 30 5 a n c n' c' Try.underlying30
  have HB := Lib.hid hb
  obtain ⟨_, a0, c0, e, h1, h2, h3, _⟩ := hb
  obtain ⟨rfl, rfl, rfl⟩ : a = a0 ∧ n = bs.length ∧ c = c0 := by simpa using e
  cases a with
  | none =>
    obtain ⟨h4, h5⟩ := h3 rfl
    have hx : bs = [] := List.eq_nil_of_length_eq_zero h4
    subst hx
    subst h5
    have H1 := Lib.hid (h.add (Below.refl _ _) (T := tBy (.slice none 0 0) []) (ByZ.nil _ _))
    clear h HB h1 h2 h3 h4 e hl
    show Calls Try.prog 45 #[.slice none 0 0] w _
    go_enter Try.func45, Try.ntmps45
    go_wp2_with fail
    go_ret
    exact ⟨none, 0, rfl, H1.out⟩
  | some a =>
    have H := Lib.hid h
    obtain ⟨N, hN⟩ : ∃ N, N = bs.length := ⟨_, rfl⟩
    rw [← hN] at hl h1 ⊢
    have HN := Lib.hid hN
    clear h h3 e hN
    go_enter Try.func45, Try.ntmps45
    go_wp2_with (at_builtin; refine wpList_apps slB rfl _ _ rfl (fun k => k = w.heap.size) _ 0 [] rfl (sl_made0 w _ rfl) _ N (cu bs) rfl (by rw [HN.out]; exact (HB.out).below (below_alloc _ _)) cu_one (by unfold maxLen; omega) (by omega) ?_; intro v' w3 hs3 hf3)
    rw [Nat.zero_add, List.nil_append] at hs3
    obtain ⟨a', c', rfl⟩ := hs3.shape
    have hb3 : Below w.heap.size w w3 := (below_alloc w _).trans ((hf3.below (B := w.heap.size) (by simp) fun k hk => by subst hk; exact Nat.le_refl _))
    have hby : ByZ w3 (fun k => w.heap.size ≤ k) (.slice a' bs.length c') bs := by
      rw [HN.out] at hs3
      refine ⟨hs3.rd, fun _ b hb => ?_⟩
      obtain ⟨_, ⟨e, _⟩ | ⟨g, off, cap, cur, e, hg, _⟩⟩ := hs3
      · rw [e] at hb; cases hb
      · rw [e] at hb
        obtain rfl : g = b := by simpa [Value.ownBlock] using hb
        rcases hg with hg | hg
        · subst hg; exact Nat.le_refl _
        · simp at hg; omega
    have H3 := Lib.hid (H.out.addZ hb3 (T := tBy (.slice a' bs.length c') bs) hby)
    clear hs3 hf3 hb3 hby
    go_wp2_with fail
    go_ret
    exact ⟨a', c', rfl, by rw [← HN.out] at H3; exact H3.out⟩
end
end Go.Proofs.Ytbibippdafnenaa
