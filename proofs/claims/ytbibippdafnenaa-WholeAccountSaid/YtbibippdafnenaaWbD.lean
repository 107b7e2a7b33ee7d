/- A writer's tick: what is sent, or not. -/
import Derived.Test.YtbibippdafnenaaWbC
import Derived.Test.YtbibippdafnenaaSti
import Derived.Deep.CutRange
namespace Go.Proofs.Ytbibippdafnenaa
open Go.RowKit
set_option maxRecDepth 100000

/-- what a tick returns and does -/
def TickP (F Z : BS) (W : World) (ts : List Th) (p : Nat) (r : Wr × Option Seg) (e : Ending) (w' : World) : Prop :=
  match r.2 with
  | some s => ∃ a c, e = .returned (.tuple #[segV s.off a s.data.length c s.last, .bool true]) ∧ Held F Z W (tWr p r.1 :: (ts ++ [tBy (.slice a s.data.length c) s.data])) w'
  | none => e = .returned (.tuple #[.agg #[.int .i64 0, .slice none 0 0, .bool false], .bool false]) ∧ Held F Z W (tWr p r.1 :: ts) w'
section
variable {F Z : BS} {W w : World} {ts : List Th} {p : Nat} {x : Wr}
theorem Held.wrPut {A : Th} (h : Held F Z W (A :: tWr p x :: ts) w) (y : Wr) (k : Nat) (u : Value) (hrow : ∀ v, w.heap[p]? = some (wrRow x v) → (w.setCell ⟨p, k, none⟩ u).heap[p]? = some (wrRow y v)) (hall : y.all.drop y.base = x.all.drop x.base) : Held F Z W (A :: tWr p y :: ts) (w.setCell ⟨p, k, none⟩ u) := by
  obtain ⟨v, h1⟩ := Held.opens (Held.lift (A := [A]) h)
  have h2 := h1.set 0 rfl (wrRow y v) ((Fr.refl (fun k => k = p) w).setCell (p := ⟨p, k, none⟩) (.inl rfl) u) (hrow v (h1.blk 0 rfl))
  have h3 : Held F Z W (wrThs p y v ++ ([A] ++ ts)) (w.setCell ⟨p, k, none⟩ u) := by
    show Held F Z W (tBlk p (wrRow y v) :: tSq eU8 5 v (y.all.drop y.base) :: ([A] ++ ts)) _
    rw [hall]; exact h2
  exact Held.sink (A := [A]) (Held.shut (f := wrThs p y) (i := v) h3)
theorem Held.wrFree {A : Th} (h : Held F Z W (A :: tWr p x :: ts) w) : (∀ i, w.frozen? ⟨p, i, none⟩ = false) ∧ p < w.heap.size := by
  obtain ⟨v, h1⟩ := Held.opens (Held.lift (A := [A]) h)
  exact ⟨blk_free (h1.blk 0 rfl), lt_of_block (h1.blk 0 rfl)⟩
set_option maxHeartbeats 64000000 in
theorem tickW_c (h : Held F Z W (tWr p x :: ts) w) (hx : x.Ok) (most : Nat) (hm1 : 1 ≤ most) (hm2 : most ≤ 1000) :
    Calls Try.prog 11 #[.pointer (some ⟨p, 0, none⟩), .int .i64 (most : Int)] w (TickP F Z W ts p (x.tick most)) := by
  obtain ⟨x1, x2, x3, x4, x5, x6, x7, x8⟩ := hx
  have HX := Lib.hid (show x.Ok from ⟨x1, x2, x3, x4, x5, x6, x7, x8⟩)
  have H1 := Lib.hid (h.new segZ).front
  obtain ⟨T, hT⟩ : ∃ T, T = x.all.length := ⟨_, rfl⟩
  obtain ⟨nx, hnx⟩ : ∃ nx, nx = x.next := ⟨_, rfl⟩
  obtain ⟨bs, hbs⟩ : ∃ bs, bs = x.base := ⟨_, rfl⟩
  obtain ⟨rm, hrm⟩ : ∃ rm, rm = x.room := ⟨_, rfl⟩
  obtain ⟨id, hid⟩ : ∃ id, id = x.idle := ⟨_, rfl⟩
  obtain ⟨cl, hcl⟩ : ∃ cl, cl = x.closed := ⟨_, rfl⟩
  obtain ⟨en, hen⟩ : ∃ en, en = x.ended := ⟨_, rfl⟩
  obtain ⟨dn, hdn⟩ : ∃ dn, dn = x.done := ⟨_, rfl⟩
  have HF := Lib.hid (show ∀ w', Held F Z W (tBlk w.heap.size segZ :: tWr p x :: ts) w' → w'.cell? ⟨p, 1, none⟩ = some (.int .i64 2) ∧ w'.cell? ⟨p, 3, none⟩ = some (.int .i64 (T : Int)) ∧ w'.cell? ⟨p, 4, none⟩ = some (.int .i64 (bs : Int)) ∧ w'.cell? ⟨p, 5, none⟩ = some (.int .i64 (nx : Int)) ∧ w'.cell? ⟨p, 7, none⟩ = some (.int .i64 (rm : Int)) ∧ w'.cell? ⟨p, 8, none⟩ = some (.int .i64 (id : Int)) ∧ w'.cell? ⟨p, 9, none⟩ = some (.bool cl) ∧ w'.cell? ⟨p, 10, none⟩ = some (.bool en) ∧ w'.cell? ⟨p, 12, none⟩ = some (.bool dn) from fun w' hw' => by
    obtain ⟨v, h2⟩ := Held.opens hw'.tail
    obtain ⟨-, c1, -, c3, c4, c5, -, c7, c8, c9, c10, -, c12⟩ := wr_cells (h2.blk 0 rfl)
    rw [hT, hnx, hbs, hrm, hid, hcl, hen, hdn]
    exact ⟨c1, c3, c4, c5, c7, c8, c9, c10, c12⟩)
  rw [← hT] at x2 x5 x8
  rw [← hnx] at x3 x4
  rw [← hbs] at x2 x3
  rw [← hrm] at x6
  rw [← hid] at x7
  have HT := Lib.hid hT; have HNX := Lib.hid hnx; have HBS := Lib.hid hbs; have HRM := Lib.hid hrm; have HID := Lib.hid hid; have HCL := Lib.hid hcl; have HEN := Lib.hid hen; have HDN := Lib.hid hdn
  obtain ⟨wb, hwb⟩ : ∃ wb, wb = w.alloc segZ := ⟨_, rfl⟩
  rw [← hwb] at H1
  clear h hT hnx hbs hrm hid hcl hen hdn
  go_enter Try.func11, Try.ntmps11
  go_upto_region 3 with fail
  rw [← hwb]
  clear hwb
  have hw1 : IntKind.i64.wrap ((bs : Int) + (rm : Int)) = (bs : Int) + (rm : Int) := by rw [IntKind.wrap_i64]; omega
  go_cut [14] from 14 to 39 (fun u wc => u = .bool (decide (nx < T ∧ nx < bs + rm)) ∧ Hid (Held F Z W (tBlk w.heap.size segZ :: tWr p x :: ts) wc))
  case first =>
    refine wp_region_held_drew (S := Held F Z W (tBlk w.heap.size segZ :: tWr p x :: ts)) (by kernel_rfl) H1.out.drew (fun hS0 => ?_)
    change wpAnyH _ _ _ _ _ (0 + 26) _ _ _
    refine wpAnyH_take_n 0 26 (by kernel_rfl) hS0 (fun _ _ _ _ _ h => h) ?_
    simp only [List.drop_zero, List.take_succ_cons, List.take_zero]
    by_cases c1 : nx < T
    case' pos =>
      have d1 : decide ((nx : Int) < (T : Int)) = true := by rw [decide_eq_true_iff]; omega
      have d2 : decide (nx < T) = true := by rw [decide_eq_true_iff]; exact c1
      have HC := Lib.hid (show decide ((nx : Int) < (bs : Int) + (rm : Int)) = decide (nx < T ∧ nx < bs + rm) by rw [decide_eq_decide]; omega)
    case' neg =>
      have d1 : decide ((nx : Int) < (T : Int)) = false := by rw [decide_eq_false_iff_not]; omega
      have d2 : decide (nx < T) = false := by rw [decide_eq_false_iff_not]; exact c1
      have HC := Lib.hid (show false = decide (nx < T ∧ nx < bs + rm) by symm; rw [decide_eq_false_iff_not]; omega)
    all_goals
      clear c1
      iterate 26 (first | (refine wpFirst_un (by rfl) ?_; simp only [Act.put, List.setIfInBounds_toArray, List.set_cons_zero, List.set_cons_succ]) | (refine wpFirst_val (v := ?_) (by rfl) ?_ ?_; rotate_left 1; (focus ((intro w' hS'; obtain ⟨e1, e3, e4, e5, e7, e8, e9, e10, e12⟩ := HF.out w' hS'; go_simp); try with_reducible rfl)); simp only [Act.put, List.setIfInBounds_toArray, List.set_cons_zero, List.set_cons_succ]))
      refine wpFirst_nil ?_
      refine wpAnyH_done (by kernel_rfl) ?_ _
      clear d1 d2
      go_wp2_with fail
      go_meet
      case rel => exact ⟨by rw [← HC.out], Lib.hid hS0⟩
  case rest =>
    obtain ⟨rfl, H2⟩ := hcut
    clear H1
    by_cases c1 : nx < T ∧ nx < bs + rm
    case pos =>
      obtain ⟨n, hn⟩ : ∃ n, n = x.some' most := ⟨_, rfl⟩
      have hn1 : n = min most (min (T - nx) (bs + rm - nx)) := by rw [hn]; unfold Wr.some'; rw [← HT.out, ← HNX.out, ← HBS.out, ← HRM.out]
      have HTK := Lib.hid (show x.tick most = (x.sent n (cl && decide (nx + n = T)), some (x.seg n (cl && decide (nx + n = T)))) by
        unfold Wr.tick
        rw [← HT.out, ← HNX.out, ← HBS.out, ← HRM.out, ← HCL.out, if_pos c1, hn])
      have hd : decide (nx < T ∧ nx < bs + rm) = true := by rw [decide_eq_true_iff]; exact c1
      rw [hd]
      have hmn : min (min (most : Int) ((T : Int) - (nx : Int))) ((bs : Int) + (rm : Int) - (nx : Int)) = (n : Int) := by omega
      have hw2 : IntKind.i64.wrap ((T : Int) - (nx : Int)) = (T : Int) - (nx : Int) := by rw [IntKind.wrap_i64]; omega
      have hw3 : IntKind.i64.wrap ((bs : Int) + (rm : Int) - (nx : Int)) = (bs : Int) + (rm : Int) - (nx : Int) := by rw [IntKind.wrap_i64]; omega
      have hw4 : IntKind.i64.wrap ((nx : Int) + (n : Int)) = (nx : Int) + (n : Int) := by rw [IntKind.wrap_i64]; omega
      have hnT : nx + n ≤ T := by omega
      clear hd c1 hn hn1
      obtain ⟨e1, e3, e4, e5, e7, e8, e9, e10, e12⟩ := HF.out _ H2.out
      go_upto_region 4 with fail
      go_quiet (fail)
      generalize hw4 : World.drewN _ _ = w4
      have H3 := Lib.hid (show Held F Z W (tBlk w.heap.size segZ :: tWr p x :: ts) w4 by rw [← hw4]; exact H2.out.drewN _)
      clear hw4 H2 hmn hw2 hw3 e1 e3 e4 e5 e7 e8 e9 e10 e12
      go_upto_region 5 with fail
      have HL := Lib.hid (show x.next + n ≤ x.all.length by rw [← HT.out, ← HNX.out]; exact hnT)
      have H4 := Lib.hid (Held.lift (A := [tBlk w.heap.size segZ]) H3.out.drew)
      have H3d := Lib.hid H3.out.drew
      have hcase : cl = false ∨ (cl = true ∧ nx + n = T) ∨ (cl = true ∧ nx + n ≠ T) := by cases cl <;> simp <;> omega
      obtain ⟨lst, hlst⟩ : ∃ lst, lst = (cl && decide (nx + n = T)) := ⟨_, rfl⟩
      rw [← hlst] at HTK
      rcases hcase with hc | ⟨hc, hq⟩ | ⟨hc, hq⟩
      case' inl => have HLS := Lib.hid (show lst = false by rw [hlst, hc]; rfl)
      case' inr.inl =>
        have HLS := Lib.hid (show lst = true by rw [hlst, hc]; simpa using hq)
        have q1 : ((nx : Int) + (n : Int) == (T : Int)) = true := by simp; omega
        have q2 : decide ((nx : Int) + (n : Int) = (T : Int)) = true := by simp; omega
      case' inr.inr =>
        have HLS := Lib.hid (show lst = false by rw [hlst, hc]; simpa using hq)
        have q1 : ((nx : Int) + (n : Int) == (T : Int)) = false := by simp; omega
        have q2 : decide ((nx : Int) + (n : Int) = (T : Int)) = false := by simp; omega
      case' inr.inl => clear hq
      case' inr.inr => clear hq
      all_goals
        subst hc
        clear hlst hnT
        refine wp_region_still_tail 19 (by kernel_rfl) (by kernel_rfl) ?_
        simp only [List.take_succ_cons, List.take_zero, List.drop_succ_cons, List.drop_zero]
        change wpStill _ _ (World.drew _) (fun a' => wpList _ _ _ _ a' (World.drew _)) _ _
        refine hs_out ?_
        iterate 19 (first | (refine hs_un (by rfl) ?_; simp only [Act.put, List.setIfInBounds_toArray, List.set_cons_zero, List.set_cons_succ]) | (refine hs_val H3d.out (v := ?_) (by rfl) ?_ ?_; rotate_left 1; (focus ((intro w' hS'; obtain ⟨e1, e3, e4, e5, e7, e8, e9, e10, e12⟩ := HF.out w' hS'; go_simp); try with_reducible rfl)); simp only [Act.put, List.setIfInBounds_toArray, List.set_cons_zero, List.set_cons_succ]))
        refine hs_nil ?_
      case inl => go_wp2_with (go_at_call 27; refine (sendW_c H4.out HX.out n HL.out false).mono ?_; rintro e w5 ⟨a', c', rfl, h5⟩; have H5 := Lib.hid h5; have hrb := H5.out.blk 1 rfl; have r0 : w5.cell? ⟨w.heap.size, 0, none⟩ = some (.int .i64 0) := blk_cell (i := 0) hrb rfl; have r1 : w5.cell? ⟨w.heap.size, 1, none⟩ = some (.slice none 0 0) := blk_cell (i := 1) hrb rfl; have r2 : w5.cell? ⟨w.heap.size, 2, none⟩ = some (.bool false) := blk_cell (i := 2) hrb rfl; have rf := fun i => blk_free hrb i; have hrl := lt_of_block hrb; clear h5 hrb); have hrb := H5.out.blk 1 rfl; have hg := seg3 hrb (.int .i64 (x.next : Int)) (.slice a' (x.seg n false).data.length c') (.bool false); have g0 := blk_cell (i := 0) (u := .int .i64 (x.next : Int)) hg rfl; have g1 := blk_cell (i := 1) (u := .slice a' (x.seg n false).data.length c') hg rfl; have g2 := blk_cell (i := 2) (u := .bool false) hg rfl; have H6 := H5.out.set 1 rfl _ ((((Fr.refl (fun k => k = w.heap.size) w5).setCell (p := ⟨w.heap.size, 0, none⟩) (.inl rfl) _).setCell (p := ⟨w.heap.size, 1, none⟩) (.inl rfl) _).setCell (p := ⟨w.heap.size, 2, none⟩) (.inl rfl) _) hg; refine bodyPost_ret (v := .tuple #[segV x.next a' (x.seg n false).data.length c' false, .bool true]) (by simp [results, Try.results11, go_sem, g0, g1, g2]) rfl ?_; rw [HTK.out, HLS.out]; exact ⟨a', c', rfl, (Held.lift (A := [tWr p _]) H6).tail⟩
      case inr.inl => go_wp2_with (go_at_call 27; refine (sendW_c H4.out HX.out n HL.out true).mono ?_; rintro e w5 ⟨a', c', rfl, h5⟩; have H5 := Lib.hid h5; have hrb := H5.out.blk 1 rfl; have r0 : w5.cell? ⟨w.heap.size, 0, none⟩ = some (.int .i64 0) := blk_cell (i := 0) hrb rfl; have r1 : w5.cell? ⟨w.heap.size, 1, none⟩ = some (.slice none 0 0) := blk_cell (i := 1) hrb rfl; have r2 : w5.cell? ⟨w.heap.size, 2, none⟩ = some (.bool false) := blk_cell (i := 2) hrb rfl; have rf := fun i => blk_free hrb i; have hrl := lt_of_block hrb; clear h5 hrb); have hrb := H5.out.blk 1 rfl; have hg := seg3 hrb (.int .i64 (x.next : Int)) (.slice a' (x.seg n true).data.length c') (.bool true); have g0 := blk_cell (i := 0) (u := .int .i64 (x.next : Int)) hg rfl; have g1 := blk_cell (i := 1) (u := .slice a' (x.seg n true).data.length c') hg rfl; have g2 := blk_cell (i := 2) (u := .bool true) hg rfl; have H6 := H5.out.set 1 rfl _ ((((Fr.refl (fun k => k = w.heap.size) w5).setCell (p := ⟨w.heap.size, 0, none⟩) (.inl rfl) _).setCell (p := ⟨w.heap.size, 1, none⟩) (.inl rfl) _).setCell (p := ⟨w.heap.size, 2, none⟩) (.inl rfl) _) hg; refine bodyPost_ret (v := .tuple #[segV x.next a' (x.seg n true).data.length c' true, .bool true]) (by simp [results, Try.results11, go_sem, g0, g1, g2]) rfl ?_; rw [HTK.out, HLS.out]; exact ⟨a', c', rfl, (Held.lift (A := [tWr p _]) H6).tail⟩
      case inr.inr => go_wp2_with (go_at_call 27; refine (sendW_c H4.out HX.out n HL.out false).mono ?_; rintro e w5 ⟨a', c', rfl, h5⟩; have H5 := Lib.hid h5; have hrb := H5.out.blk 1 rfl; have r0 : w5.cell? ⟨w.heap.size, 0, none⟩ = some (.int .i64 0) := blk_cell (i := 0) hrb rfl; have r1 : w5.cell? ⟨w.heap.size, 1, none⟩ = some (.slice none 0 0) := blk_cell (i := 1) hrb rfl; have r2 : w5.cell? ⟨w.heap.size, 2, none⟩ = some (.bool false) := blk_cell (i := 2) hrb rfl; have rf := fun i => blk_free hrb i; have hrl := lt_of_block hrb; clear h5 hrb); have hrb := H5.out.blk 1 rfl; have hg := seg3 hrb (.int .i64 (x.next : Int)) (.slice a' (x.seg n false).data.length c') (.bool false); have g0 := blk_cell (i := 0) (u := .int .i64 (x.next : Int)) hg rfl; have g1 := blk_cell (i := 1) (u := .slice a' (x.seg n false).data.length c') hg rfl; have g2 := blk_cell (i := 2) (u := .bool false) hg rfl; have H6 := H5.out.set 1 rfl _ ((((Fr.refl (fun k => k = w.heap.size) w5).setCell (p := ⟨w.heap.size, 0, none⟩) (.inl rfl) _).setCell (p := ⟨w.heap.size, 1, none⟩) (.inl rfl) _).setCell (p := ⟨w.heap.size, 2, none⟩) (.inl rfl) _) hg; refine bodyPost_ret (v := .tuple #[segV x.next a' (x.seg n false).data.length c' false, .bool true]) (by simp [results, Try.results11, go_sem, g0, g1, g2]) rfl ?_; rw [HTK.out, HLS.out]; exact ⟨a', c', rfl, (Held.lift (A := [tWr p _]) H6).tail⟩
    case neg =>
      have hd : decide (nx < T ∧ nx < bs + rm) = false := by rw [decide_eq_false_iff_not]; exact c1
      rw [hd]
      clear hd
      have HC1 := Lib.hid c1
      clear c1
      go_upto_region 6 with fail
      go_cut [85] from 85 to 114 (fun u wc' => u = .bool (cl && decide (nx = T) && !en && !dn) ∧ Hid (Held F Z W (tBlk w.heap.size segZ :: tWr p x :: ts) wc'))
      case first =>
        refine wp_region_held_drew (S := Held F Z W (tBlk w.heap.size segZ :: tWr p x :: ts)) (by kernel_rfl) H2.out.drew (fun hS0 => ?_)
        have hc : cl = false ∨ (cl = true ∧ nx ≠ T) ∨ (cl = true ∧ nx = T ∧ en = true) ∨ (cl = true ∧ nx = T ∧ en = false ∧ dn = true) ∨ (cl = true ∧ nx = T ∧ en = false ∧ dn = false) := by cases cl <;> cases en <;> cases dn <;> simp <;> omega
        rcases hc with hc | ⟨hc, hq⟩ | ⟨hc, hq, he⟩ | ⟨hc, hq, he, hn⟩ | ⟨hc, hq, he, hn⟩
        case' inl =>
          subst hc
          have HR := Lib.hid (show false = (false && decide (nx = T) && !en && !dn) by simp)
        case' inr.inl =>
          subst hc
          have q1 : ((nx : Int) == (T : Int)) = false := by simp; omega
          have q2 : decide (nx = T) = false := by simpa using hq
          have HR := Lib.hid (show false = (true && decide (nx = T) && !en && !dn) by rw [q2]; simp)
        case' inr.inr.inl =>
          subst hc; subst he
          have q1 : ((nx : Int) == (T : Int)) = true := by simp; omega
          have q2 : decide (nx = T) = true := by simpa using hq
          have HR := Lib.hid (show false = (true && decide (nx = T) && !true && !dn) by simp)
        case' inr.inr.inr.inl =>
          subst hc; subst he; subst hn
          have q1 : ((nx : Int) == (T : Int)) = true := by simp; omega
          have q2 : decide (nx = T) = true := by simpa using hq
          have HR := Lib.hid (show false = (true && decide (nx = T) && !false && !true) by simp)
        case' inr.inr.inr.inr =>
          subst hc; subst he; subst hn
          have q1 : ((nx : Int) == (T : Int)) = true := by simp; omega
          have q2 : decide (nx = T) = true := by simpa using hq
          have HR := Lib.hid (show true = (true && decide (nx = T) && !false && !false) by rw [q2]; rfl)
        case' inr.inl => clear hq
        case' inr.inr.inl => clear hq
        case' inr.inr.inr.inl => clear hq
        case' inr.inr.inr.inr => clear hq
        all_goals
          change wpAnyH _ _ _ _ _ (0 + 30) _ _ _
          refine wpAnyH_take_n 0 30 (by kernel_rfl) hS0 (fun _ _ _ _ _ h => h) ?_
          simp only [List.drop_zero, List.take_succ_cons, List.take_zero]
          iterate 30 (first | (refine wpFirst_un (by rfl) ?_; simp only [Act.put, List.setIfInBounds_toArray, List.set_cons_zero, List.set_cons_succ]) | (refine wpFirst_val (v := ?_) (by rfl) ?_ ?_; rotate_left 1; (focus ((intro w' hS'; obtain ⟨e1, e3, e4, e5, e7, e8, e9, e10, e12⟩ := HF.out w' hS'; go_simp); try with_reducible rfl)); simp only [Act.put, List.setIfInBounds_toArray, List.set_cons_zero, List.set_cons_succ]))
          refine wpFirst_nil ?_
          refine wpAnyH_done (by kernel_rfl) ?_ _
          go_wp2_with fail
          go_meet
          case rel => exact ⟨by rw [← HR.out], Lib.hid hS0⟩
      case rest =>
        obtain ⟨rfl, H3⟩ := hcut
        clear H2
        cases hb2 : (cl && decide (nx = T) && !en && !dn)
        case true =>
          have hh : (cl = true ∧ nx = T) ∧ en = false ∧ dn = false := by simpa [and_assoc] using hb2
          have HTK := Lib.hid (show x.tick most = (x.sent 0 true, some (x.seg 0 true)) by
            unfold Wr.tick
            rw [← HT.out, ← HNX.out, ← HBS.out, ← HRM.out, ← HCL.out, ← HEN.out, ← HDN.out, if_neg HC1.out, if_pos ⟨hh.1.1, hh.1.2, hh.2.1, hh.2.2⟩])
          have HL := Lib.hid (show x.next + 0 ≤ x.all.length by rw [← HT.out, ← HNX.out]; omega)
          have H4 := Lib.hid (Held.lift (A := [tBlk w.heap.size segZ]) H3.out)
          clear hh hb2
          go_wp2_with (go_at_call 27; refine (sendW_c H4.out HX.out 0 HL.out true).mono ?_; rintro e w5 ⟨a', c', rfl, h5⟩; have H5 := Lib.hid h5; have hrb := H5.out.blk 1 rfl; have r0 : w5.cell? ⟨w.heap.size, 0, none⟩ = some (.int .i64 0) := blk_cell (i := 0) hrb rfl; have r1 : w5.cell? ⟨w.heap.size, 1, none⟩ = some (.slice none 0 0) := blk_cell (i := 1) hrb rfl; have r2 : w5.cell? ⟨w.heap.size, 2, none⟩ = some (.bool false) := blk_cell (i := 2) hrb rfl; have rf := fun i => blk_free hrb i; have hrl := lt_of_block hrb; clear h5 hrb); have hrb := H5.out.blk 1 rfl; have hg := seg3 hrb (.int .i64 (x.next : Int)) (.slice a' (x.seg 0 true).data.length c') (.bool true); have g0 := blk_cell (i := 0) (u := .int .i64 (x.next : Int)) hg rfl; have g1 := blk_cell (i := 1) (u := .slice a' (x.seg 0 true).data.length c') hg rfl; have g2 := blk_cell (i := 2) (u := .bool true) hg rfl; have H6 := H5.out.set 1 rfl _ ((((Fr.refl (fun k => k = w.heap.size) w5).setCell (p := ⟨w.heap.size, 0, none⟩) (.inl rfl) _).setCell (p := ⟨w.heap.size, 1, none⟩) (.inl rfl) _).setCell (p := ⟨w.heap.size, 2, none⟩) (.inl rfl) _) hg; refine bodyPost_ret (v := .tuple #[segV x.next a' (x.seg 0 true).data.length c' true, .bool true]) (by simp [results, Try.results11, go_sem, g0, g1, g2]) rfl ?_; rw [HTK.out]; exact ⟨a', c', rfl, (Held.lift (A := [tWr p _]) H6).tail⟩
        case false =>
          have HC2 := Lib.hid (show ¬ (cl = true ∧ nx = T ∧ en = false ∧ dn = false) from fun ⟨a, b, c, d⟩ => by rw [a, c, d] at hb2; simp [b] at hb2)
          clear hb2
          go_upto_region 8 with fail
          go_cut [117] from 117 to 150 (fun u wc' => u = .bool (decide (bs = nx) && decide (nx = T) && (!en || dn)) ∧ Hid (Held F Z W (tBlk w.heap.size segZ :: tWr p x :: ts) wc'))
          case first =>
            refine wp_region_held_drew (S := Held F Z W (tBlk w.heap.size segZ :: tWr p x :: ts)) (by kernel_rfl) H3.out.drew (fun hS0 => ?_)
            have hc : bs ≠ nx ∨ (bs = nx ∧ nx ≠ T) ∨ (bs = nx ∧ nx = T ∧ en = false) ∨ (bs = nx ∧ nx = T ∧ en = true ∧ dn = true) ∨ (bs = nx ∧ nx = T ∧ en = true ∧ dn = false) := by cases en <;> cases dn <;> simp <;> omega
            rcases hc with hq | ⟨hq, hr⟩ | ⟨hq, hr, he⟩ | ⟨hq, hr, he, hn⟩ | ⟨hq, hr, he, hn⟩
            case' inl =>
              have q1 : ((bs : Int) == (nx : Int)) = false := by simp; omega
              have q2 : decide (bs = nx) = false := by simpa using hq
              have HR := Lib.hid (show false = (decide (bs = nx) && decide (nx = T) && (!en || dn)) by rw [q2]; simp)
            case' inr.inl =>
              have q1 : ((bs : Int) == (nx : Int)) = true := by simp; omega
              have q2 : decide (bs = nx) = true := by simpa using hq
              have q3 : ((nx : Int) == (T : Int)) = false := by simp; omega
              have q4 : decide (nx = T) = false := by simpa using hr
              have HR := Lib.hid (show false = (decide (bs = nx) && decide (nx = T) && (!en || dn)) by rw [q4]; simp)
            case' inr.inr.inl =>
              subst he
              have q1 : ((bs : Int) == (nx : Int)) = true := by simp; omega
              have q2 : decide (bs = nx) = true := by simpa using hq
              have q3 : ((nx : Int) == (T : Int)) = true := by simp; omega
              have q4 : decide (nx = T) = true := by simpa using hr
              have HR := Lib.hid (show true = (decide (bs = nx) && decide (nx = T) && (!false || dn)) by rw [q2, q4]; simp)
            case' inr.inr.inr.inl =>
              subst he; subst hn
              have q1 : ((bs : Int) == (nx : Int)) = true := by simp; omega
              have q2 : decide (bs = nx) = true := by simpa using hq
              have q3 : ((nx : Int) == (T : Int)) = true := by simp; omega
              have q4 : decide (nx = T) = true := by simpa using hr
              have HR := Lib.hid (show true = (decide (bs = nx) && decide (nx = T) && (!true || true)) by rw [q2, q4]; simp)
            case' inr.inr.inr.inr =>
              subst he; subst hn
              have q1 : ((bs : Int) == (nx : Int)) = true := by simp; omega
              have q2 : decide (bs = nx) = true := by simpa using hq
              have q3 : ((nx : Int) == (T : Int)) = true := by simp; omega
              have q4 : decide (nx = T) = true := by simpa using hr
              have HR := Lib.hid (show false = (decide (bs = nx) && decide (nx = T) && (!true || false)) by simp)
            case' inr.inl => clear hr
            case' inr.inr.inl => clear hr
            case' inr.inr.inr.inl => clear hr
            case' inr.inr.inr.inr => clear hr
            all_goals
              clear hq
              change wpAnyH _ _ _ _ _ (0 + 34) _ _ _
              refine wpAnyH_take_n 0 34 (by kernel_rfl) hS0 (fun _ _ _ _ _ h => h) ?_
              simp only [List.drop_zero, List.take_succ_cons, List.take_zero]
              iterate 34 (first | (refine wpFirst_un (by rfl) ?_; simp only [Act.put, List.setIfInBounds_toArray, List.set_cons_zero, List.set_cons_succ]) | (refine wpFirst_val (v := ?_) (by rfl) ?_ ?_; rotate_left 1; (focus ((intro w' hS'; obtain ⟨e1, e3, e4, e5, e7, e8, e9, e10, e12⟩ := HF.out w' hS'; go_simp); try with_reducible rfl)); simp only [Act.put, List.setIfInBounds_toArray, List.set_cons_zero, List.set_cons_succ]))
              refine wpFirst_nil ?_
              refine wpAnyH_done (by kernel_rfl) ?_ _
              go_wp2_with fail
              go_meet
              case rel => exact ⟨by rw [← HR.out], Lib.hid hS0⟩
          case rest =>
            obtain ⟨rfl, H4⟩ := hcut
            clear H3
            cases hb3 : (decide (bs = nx) && decide (nx = T) && (!en || dn))
            case true =>
              have hh : bs = nx ∧ nx = T ∧ (en = false ∨ dn = true) := by simpa [and_assoc] using hb3
              have HTK := Lib.hid (show x.tick most = (x, none) by
                unfold Wr.tick
                rw [← HT.out, ← HNX.out, ← HBS.out, ← HRM.out, ← HCL.out, ← HEN.out, ← HDN.out, if_neg HC1.out, if_neg HC2.out, if_pos hh])
              clear hh hb3
              have hrb := H4.out.blk 0 rfl; have r0 : wc.cell? ⟨w.heap.size, 0, none⟩ = some (.int .i64 0) := blk_cell (i := 0) hrb rfl; have r1 : wc.cell? ⟨w.heap.size, 1, none⟩ = some (.slice none 0 0) := blk_cell (i := 1) hrb rfl; have r2 : wc.cell? ⟨w.heap.size, 2, none⟩ = some (.bool false) := blk_cell (i := 2) hrb rfl; have rf := fun i => blk_free hrb i; have hrl := lt_of_block hrb; have hg := seg3 hrb (.int .i64 0) (.slice none 0 0) (.bool false); have g0 := blk_cell (i := 0) (u := (.int .i64 0)) hg rfl; have g1 := blk_cell (i := 1) (u := .slice none 0 0) hg rfl; have g2 := blk_cell (i := 2) (u := .bool false) hg rfl; have H6 := Lib.hid (H4.out.set 0 rfl _ ((((Fr.refl (fun k => k = w.heap.size) wc).setCell (p := ⟨w.heap.size, 0, none⟩) (.inl rfl) _).setCell (p := ⟨w.heap.size, 1, none⟩) (.inl rfl) _).setCell (p := ⟨w.heap.size, 2, none⟩) (.inl rfl) _) hg); clear hrb hg; go_wp2_with fail; refine bodyPost_ret (v := .tuple #[.agg #[(.int .i64 0), .slice none 0 0, .bool false], .bool false]) (by simp [results, Try.results11, go_sem, g0, g1, g2]) rfl ?_; rw [HTK.out]
              exact ⟨rfl, H6.out.tail⟩
            case false =>
              have HC3 := Lib.hid (show ¬ (bs = nx ∧ nx = T ∧ (en = false ∨ dn = true)) from fun ⟨a, b, c⟩ => by rcases c with c | c <;> rw [c] at hb3 <;> simp [a, b] at hb3)
              clear hb3
              obtain ⟨hup, hpl⟩ := H4.out.wrFree
              obtain ⟨e1, e3, e4, e5, e7, e8, e9, e10, e12⟩ := HF.out _ H4.out
              have eu : (id : Int) + 1 = ((id + 1 : Nat) : Int) := by omega
              have H5 := Lib.hid (H4.out.wrPut { x with idle := id + 1 } 8 (.int .i64 ((id : Int) + 1)) (fun v hr => by rw [eu]; (apply row_trans; focus (repeat (first | (with_reducible exact hr) | (with_reducible apply row_set) | (with_reducible apply row_drewN) | (with_reducible apply row_drew) | (with_reducible apply row_alloc) | (apply row_set_other (by first | omega | (simp <;> omega)))))); rfl) rfl)
              clear eu e3 e4 e5 e7 e9 e10 e12
              go_upto_region 11 with fail
              clear hup hpl e1 e8 H4
              generalize hw5 : World.setCell _ _ _ = w5
              have H5 := Lib.hid (show Held F Z W (tBlk w.heap.size segZ :: tWr p { x with idle := id + 1 } :: ts) w5 by rw [← hw5]; exact H5.out)
              clear hw5
              obtain ⟨hup, hpl⟩ := H5.out.wrFree
              have f1 : w5.cell? ⟨p, 1, none⟩ = some (.int .i64 2) := by
                obtain ⟨v, h2⟩ := Held.opens H5.out.tail
                exact (wr_cells (h2.blk 0 rfl)).2.1
              have f8 : w5.cell? ⟨p, 8, none⟩ = some (.int .i64 ((id : Int) + 1)) := by
                obtain ⟨v, h2⟩ := Held.opens H5.out.tail
                rw [(wr_cells (h2.blk 0 rfl)).2.2.2.2.2.2.2.2.1]; simp
              go_quiet (fail)
              generalize hw6 : World.drewN _ _ = w6
              have H6' := Lib.hid (show Held F Z W (tBlk w.heap.size segZ :: tWr p { x with idle := id + 1 } :: ts) w6 by rw [← hw6]; exact H5.out.drewN _)
              clear hw6 H5 hup hpl f1 f8
              by_cases c4 : id + 1 < 2
              case pos =>
                have c4' : (id : Int) + 1 < 2 := by omega
                have HTK := Lib.hid (show x.tick most = ({ x with idle := id + 1 }, none) by
                  unfold Wr.tick
                  rw [← HT.out, ← HNX.out, ← HBS.out, ← HRM.out, ← HCL.out, ← HEN.out, ← HDN.out, ← HID.out, if_neg HC1.out, if_neg HC2.out, if_neg HC3.out, if_pos c4])
                clear c4
                have hrb := H6'.out.blk 0 rfl; have r0 : w6.cell? ⟨w.heap.size, 0, none⟩ = some (.int .i64 0) := blk_cell (i := 0) hrb rfl; have r1 : w6.cell? ⟨w.heap.size, 1, none⟩ = some (.slice none 0 0) := blk_cell (i := 1) hrb rfl; have r2 : w6.cell? ⟨w.heap.size, 2, none⟩ = some (.bool false) := blk_cell (i := 2) hrb rfl; have rf := fun i => blk_free hrb i; have hrl := lt_of_block hrb; have hg := seg3 hrb (.int .i64 0) (.slice none 0 0) (.bool false); have g0 := blk_cell (i := 0) (u := (.int .i64 0)) hg rfl; have g1 := blk_cell (i := 1) (u := .slice none 0 0) hg rfl; have g2 := blk_cell (i := 2) (u := .bool false) hg rfl; have H6 := Lib.hid (H6'.out.set 0 rfl _ ((((Fr.refl (fun k => k = w.heap.size) w6).setCell (p := ⟨w.heap.size, 0, none⟩) (.inl rfl) _).setCell (p := ⟨w.heap.size, 1, none⟩) (.inl rfl) _).setCell (p := ⟨w.heap.size, 2, none⟩) (.inl rfl) _) hg); clear hrb hg; go_wp2_with fail; refine bodyPost_ret (v := .tuple #[.agg #[(.int .i64 0), .slice none 0 0, .bool false], .bool false]) (by simp [results, Try.results11, go_sem, g0, g1, g2]) rfl ?_; rw [HTK.out]
                exact ⟨rfl, H6.out.tail⟩
              case neg =>
                have c4' : ¬ (id : Int) + 1 < 2 := by omega
                have HC4 := Lib.hid c4
                clear c4
                obtain ⟨hup, hpl⟩ := H6'.out.wrFree
                have f8 : ∃ u, w6.cell? ⟨p, 8, none⟩ = some u := by
                  obtain ⟨v, h2⟩ := Held.opens H6'.out.tail
                  exact ⟨_, (wr_cells (h2.blk 0 rfl)).2.2.2.2.2.2.2.2.1⟩
                obtain ⟨u8, f8⟩ := f8
                have H7 := Lib.hid (H6'.out.wrPut { x with idle := 0 } 8 (.int .i64 0) (fun v hr => by (apply row_trans; focus (repeat (first | (with_reducible exact hr) | (with_reducible apply row_set) | (with_reducible apply row_drewN) | (with_reducible apply row_drew) | (with_reducible apply row_alloc) | (apply row_set_other (by first | omega | (simp <;> omega)))))); rfl) rfl)
                go_upto_region 14 with fail
                clear hup hpl f8 H6' c4'
                generalize hw7 : World.setCell _ _ _ = w7
                have H7 := Lib.hid (show Held F Z W (tBlk w.heap.size segZ :: tWr p { x with idle := 0 } :: ts) w7 by rw [← hw7]; exact H7.out)
                clear hw7
                have HG := Lib.hid (show ∀ w', Held F Z W (tBlk w.heap.size segZ :: tWr p { x with idle := 0 } :: ts) w' → w'.cell? ⟨p, 4, none⟩ = some (.int .i64 (bs : Int)) ∧ w'.cell? ⟨p, 5, none⟩ = some (.int .i64 (nx : Int)) ∧ w'.cell? ⟨p, 10, none⟩ = some (.bool en) from fun w' hw' => by
                  obtain ⟨v, h2⟩ := Held.opens hw'.tail
                  obtain ⟨-, -, -, -, c4, c5, -, -, -, -, c10, -, -⟩ := wr_cells (h2.blk 0 rfl)
                  rw [HNX.out, HBS.out, HEN.out]
                  exact ⟨c4, c5, c10⟩)
                go_cut [186] from 172 to 186 (fun u wc' => u = .bool (decide (bs < nx) || en) ∧ Hid (Held F Z W (tBlk w.heap.size segZ :: tWr p { x with idle := 0 } :: ts) wc'))
                case first =>
                  refine wp_region_held_drew (S := Held F Z W (tBlk w.heap.size segZ :: tWr p { x with idle := 0 } :: ts)) (by kernel_rfl) H7.out.drew (fun hS0 => ?_)
                  by_cases c5 : bs < nx
                  case' pos =>
                    have q1 : decide ((bs : Int) < (nx : Int)) = true := by rw [decide_eq_true_iff]; omega
                    have q2 : decide (bs < nx) = true := by rw [decide_eq_true_iff]; exact c5
                    have HR := Lib.hid (show true = (decide (bs < nx) || en) by rw [q2]; rfl)
                  case' neg =>
                    have q1 : decide ((bs : Int) < (nx : Int)) = false := by rw [decide_eq_false_iff_not]; omega
                    have q2 : decide (bs < nx) = false := by rw [decide_eq_false_iff_not]; exact c5
                    have HR := Lib.hid (show en = (decide (bs < nx) || en) by rw [q2]; rfl)
                  all_goals
                    clear c5
                    change wpAnyH _ _ _ _ _ (0 + 15) _ _ _
                    refine wpAnyH_take_n 0 15 (by kernel_rfl) hS0 (fun _ _ _ _ _ h => h) ?_
                    simp only [List.drop_zero, List.take_succ_cons, List.take_zero]
                    iterate 15 (first | (refine wpFirst_un (by rfl) ?_; simp only [Act.put, List.setIfInBounds_toArray, List.set_cons_zero, List.set_cons_succ]) | (refine wpFirst_val (v := ?_) (by rfl) ?_ ?_; rotate_left 1; (focus ((intro w' hS'; obtain ⟨e4, e5, e10⟩ := HG.out w' hS'; go_simp); try with_reducible rfl)); simp only [Act.put, List.setIfInBounds_toArray, List.set_cons_zero, List.set_cons_succ]))
                    refine wpFirst_nil ?_
                    refine wpAnyH_done (by kernel_rfl) ?_ _
                    go_wp2_with fail
                    go_meet
                    case rel => exact ⟨by rw [← HR.out], Lib.hid hS0⟩
                case rest =>
                  obtain ⟨rfl, H8⟩ := hcut
                  clear H7
                  obtain ⟨hup, hpl⟩ := H8.out.wrFree
                  obtain ⟨e4, e5, e10⟩ := HG.out _ H8.out
                  cases hb5 : (decide (bs < nx) || en)
                  case true =>
                    have hh : bs < nx ∨ en = true := by simpa using hb5
                    have HTK := Lib.hid (show x.tick most = ({ x with idle := 0, next := bs, ended := false }, none) by
                      unfold Wr.tick
                      rw [← HT.out, ← HNX.out, ← HBS.out, ← HRM.out, ← HCL.out, ← HEN.out, ← HDN.out, ← HID.out, if_neg HC1.out, if_neg HC2.out, if_neg HC3.out, if_neg HC4.out, if_pos hh])
                    have H9 := Lib.hid ((H8.out.wrPut { x with idle := 0, next := bs } 5 (.int .i64 (bs : Int)) (fun v hr => by (apply row_trans; focus (repeat (first | (with_reducible exact hr) | (with_reducible apply row_set) | (with_reducible apply row_drewN) | (with_reducible apply row_drew) | (with_reducible apply row_alloc) | (apply row_set_other (by first | omega | (simp <;> omega)))))); rfl) rfl).wrPut { x with idle := 0, next := bs, ended := false } 10 (.bool false) (fun v hr => by (apply row_trans; focus (repeat (first | (with_reducible exact hr) | (with_reducible apply row_set) | (with_reducible apply row_drewN) | (with_reducible apply row_drew) | (with_reducible apply row_alloc) | (apply row_set_other (by first | omega | (simp <;> omega)))))); rfl) rfl)
                    clear hh hb5
                    go_upto_region 17 with fail
                    clear hup hpl e4 e5 e10 H8
                    generalize hw9 : World.setCell _ _ _ = w9
                    have H9 := Lib.hid (show Held F Z W (tBlk w.heap.size segZ :: tWr p { x with idle := 0, next := bs, ended := false } :: ts) w9 by rw [← hw9]; exact H9.out)
                    clear hw9
                    have hrb := H9.out.blk 0 rfl; have r0 : w9.cell? ⟨w.heap.size, 0, none⟩ = some (.int .i64 0) := blk_cell (i := 0) hrb rfl; have r1 : w9.cell? ⟨w.heap.size, 1, none⟩ = some (.slice none 0 0) := blk_cell (i := 1) hrb rfl; have r2 : w9.cell? ⟨w.heap.size, 2, none⟩ = some (.bool false) := blk_cell (i := 2) hrb rfl; have rf := fun i => blk_free hrb i; have hrl := lt_of_block hrb; have hg := seg3 hrb (.int .i64 0) (.slice none 0 0) (.bool false); have g0 := blk_cell (i := 0) (u := (.int .i64 0)) hg rfl; have g1 := blk_cell (i := 1) (u := .slice none 0 0) hg rfl; have g2 := blk_cell (i := 2) (u := .bool false) hg rfl; have H6 := Lib.hid (H9.out.set 0 rfl _ ((((Fr.refl (fun k => k = w.heap.size) w9).setCell (p := ⟨w.heap.size, 0, none⟩) (.inl rfl) _).setCell (p := ⟨w.heap.size, 1, none⟩) (.inl rfl) _).setCell (p := ⟨w.heap.size, 2, none⟩) (.inl rfl) _) hg); clear hrb hg; go_wp2_with fail; refine bodyPost_ret (v := .tuple #[.agg #[(.int .i64 0), .slice none 0 0, .bool false], .bool false]) (by simp [results, Try.results11, go_sem, g0, g1, g2]) rfl ?_; rw [HTK.out]
                    exact ⟨rfl, H6.out.tail⟩
                  case false =>
                    have hh : ¬ (bs < nx ∨ en = true) := by simpa using hb5
                    have HTK := Lib.hid (show x.tick most = ({ x with idle := 0 }, some ⟨bs, [], false⟩) by
                      unfold Wr.tick
                      rw [← HT.out, ← HNX.out, ← HBS.out, ← HRM.out, ← HCL.out, ← HEN.out, ← HDN.out, ← HID.out, if_neg HC1.out, if_neg HC2.out, if_neg HC3.out, if_neg HC4.out, if_neg hh])
                    clear hh hb5
                    have hrb := H8.out.blk 0 rfl; have r0 : wc.cell? ⟨w.heap.size, 0, none⟩ = some (.int .i64 0) := blk_cell (i := 0) hrb rfl; have r1 : wc.cell? ⟨w.heap.size, 1, none⟩ = some (.slice none 0 0) := blk_cell (i := 1) hrb rfl; have r2 : wc.cell? ⟨w.heap.size, 2, none⟩ = some (.bool false) := blk_cell (i := 2) hrb rfl; have rf := fun i => blk_free hrb i; have hrl := lt_of_block hrb; have hg := seg3 hrb (.int .i64 (bs : Int)) (.slice none 0 0) (.bool false); have g0 := blk_cell (i := 0) (u := (.int .i64 (bs : Int))) hg rfl; have g1 := blk_cell (i := 1) (u := .slice none 0 0) hg rfl; have g2 := blk_cell (i := 2) (u := .bool false) hg rfl; have H6 := Lib.hid (H8.out.set 0 rfl _ ((((Fr.refl (fun k => k = w.heap.size) wc).setCell (p := ⟨w.heap.size, 0, none⟩) (.inl rfl) _).setCell (p := ⟨w.heap.size, 1, none⟩) (.inl rfl) _).setCell (p := ⟨w.heap.size, 2, none⟩) (.inl rfl) _) hg); clear hrb hg; go_wp2_with fail; refine bodyPost_ret (v := .tuple #[.agg #[(.int .i64 (bs : Int)), .slice none 0 0, .bool false], .bool true]) (by simp [results, Try.results11, go_sem, g0, g1, g2]) rfl ?_; rw [HTK.out]
                    exact ⟨none, 0, rfl, H6.out.tail.add (Below.refl _ _) (T := tBy (.slice none 0 0) []) (ByZ.nil _ _)⟩
end
end Go.Proofs.Ytbibippdafnenaa
