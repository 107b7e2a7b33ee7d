/- A reader. -/
import Derived.Test.YtbibippdafnenaaWaT
import Derived.Test.YtbibippdafnenaaWaU
import Derived.Test.YtbibippdafnenaaWbC
import Derived.Test.YtbibippdafnenaaSti
namespace Go.Proofs.Ytbibippdafnenaa
open Go.RowKit
set_option maxRecDepth 100000

abbrev rdO (s win : Nat) : Obj := .cells #[.pointer (some ⟨s, 0, none⟩), .int .i64 (win : Int)] 81
theorem newR_c (n : Nat) (h1 : 1 ≤ n) (h2 : n ≤ 1000) (w : World) : Calls Try.prog 7 #[.int .i64 (n : Int)] w fun e w' => ∃ p, e = .returned (.tuple #[.pointer (some ⟨p, 0, none⟩), .int .i64 0]) ∧ Made w (tRdr p (St.new n)) w' := by
  go_enter Try.func7, Try.ntmps7
  go_wp2_with (go_at_call 24; refine (newS_c n h1 (by omega) w).mono ?_; rintro e w1 ⟨s, rfl, hm⟩; have H1 := Lib.hid ((Held.start0 (fun _ => False) (fun _ => False) (fun _ f _ => f) w).made hm); clear hm)
  have H2 := (H1.out.new (rdO s n)).front
  go_ret2
  exact ⟨_, rfl, Made.of (Held.shut (f := rdrThs _ (St.new n)) (i := s) H2)⟩
section
variable {F Z : BS} {W w : World} {ts : List Th} {p : Nat} {S : St}
theorem rd_cells {s n : Nat} (h : w.heap[p]? = some (rdO s n)) : w.cell? ⟨p, 0, none⟩ = some (.pointer (some ⟨s, 0, none⟩)) ∧ w.cell? ⟨p, 1, none⟩ = some (.int .i64 (n : Int)) := ⟨blk_cell h rfl, blk_cell h rfl⟩
theorem countR_c (h : Held F Z W (tRdr p S :: ts) w) : Calls Try.prog 19 #[.pointer (some ⟨p, 0, none⟩)] w fun e w' => e = .returned (.int .i64 (S.off : Int)) ∧ w = w' := by
  obtain ⟨s, h1⟩ := Held.opens h
  obtain ⟨c0, -⟩ := rd_cells (h1.blk 0 rfl)
  obtain ⟨b, h2⟩ := Held.opens (Held.lift (A := [tBlk p _]) h1)
  obtain ⟨-, d1, -⟩ := st_cells (h2.blk 0 rfl)
  have HD := Lib.hid d1
  clear h h1 h2 d1
  go_enter Try.func19, Try.ntmps19
  go_wp2_with (go_at_call 31; refine (offsetS_c HD.out).mono ?_; rintro e w' ⟨rfl, rfl⟩)
  go_ret
  exact ⟨rfl, rfl⟩
theorem readR_c (h : Held F Z W (tRdr p S :: ts) w) (hl : S.Low) (hle : S.off ≤ S.next) (most : Nat) (hm1 : 1 ≤ most) (hm2 : most ≤ 100000) (n : Nat) (hn : n = min most (S.next - S.off)) (d : List Byte) (hd : d.length = n) (hb : ∀ i x, d[i]? = some x → S.m ((S.off + i : Nat) : Int) = some x) :
    Calls Try.prog 13 #[.pointer (some ⟨p, 0, none⟩), .int .i64 (most : Int)] w fun e w' => ∃ a c q, e = .returned (.tuple #[.slice a d.length c, .bool q]) ∧ Held F Z W (tRdr p (S.read n) :: (ts ++ [tSq eU8 5 (.slice a d.length c) d])) w' := by
  obtain ⟨s, h1⟩ := Held.opens h
  have H1 := Lib.hid (Held.lift (A := [tBlk p _]) h1)
  obtain ⟨c0, -⟩ := rd_cells (h1.blk 0 rfl)
  have HQ := Lib.hid (readS_c H1.out hl hle most hm1 hm2 n hn d hd hb)
  obtain ⟨N, hN⟩ : ∃ N, N = d.length := ⟨_, rfl⟩
  rw [← hN] at HQ ⊢
  clear h h1 hn hd hb hm1 hm2 hN
  go_enter Try.func13, Try.ntmps13
  go_upto_region 3 with fail
  go_wp2_with (first | (go_at_call 29; refine HQ.out.mono ?_; rintro e w2 ⟨a', c', rfl, h2⟩; have H2 := Lib.hid h2; obtain ⟨c0, -⟩ := rd_cells (h2.blk 1 rfl); obtain ⟨b, h3⟩ := Held.opens h2; obtain ⟨-, d1, -, -, d4, d5⟩ := st_cells (h3.blk 0 rfl); have D1 := Lib.hid d1; have D4 := Lib.hid d4; have D5 := Lib.hid d5; clear h2 h3 d1 d4 d5 HQ) | (go_at_call 30; refine (endS_c D4.out D5.out).mono ?_; rintro e w3 ⟨rfl, rfl⟩) | (go_at_call 31; refine (offsetS_c D1.out).mono ?_; rintro e w3 ⟨rfl, rfl⟩))
  all_goals
    go_ret2
    exact ⟨a', c', _, rfl, Held.shut (f := rdrThs p (S.read n)) (i := s) (Held.sink (A := [tBlk p (rdO s S.win)]) H2.out)⟩
set_option maxHeartbeats 4000000 in
theorem receiveR_c {s : Seg} {va : Option Addr} {vc : Nat} (h : Held F Z W (tRdr p S :: ts) w) (i : Nat) (hi : ts[i]? = some (tBy (.slice va s.data.length vc) s.data)) (hf : S.Fits s) (hl : S.Low) (hs : s.off + s.data.length ≤ 100000) :
    Calls Try.prog 12 #[.pointer (some ⟨p, 0, none⟩), segV s.off va s.data.length vc s.last] w fun e w' => ∃ n : Nat, e = .returned (.int .i64 0) ∧ S.Upto (S.map s) n ∧ Held F Z W (tRdr p (S.put s n) :: ts) w' := by
  obtain ⟨q, h1⟩ := Held.opens h
  obtain ⟨so, sd, sl⟩ := s
  dsimp only at hi hf hs ⊢
  obtain ⟨N, hN⟩ : ∃ N, N = sd.length := ⟨_, rfl⟩
  have H1 := Lib.hid (Held.lift (A := [tBlk p (rdO q S.win)]) h1)
  obtain ⟨bx, hbx⟩ : ∃ bx : Obj, bx = .cells #[.int .i64 (so : Int), .slice va N vc, .bool sl] 50 := ⟨_, rfl⟩
  have HP := Lib.hid (show ∀ w', Held F Z W (tSt q S :: ([tBlk p (rdO q S.win), tBlk w.heap.size bx] ++ ts)) w' → Calls Try.prog 28 #[.pointer (some ⟨q, 0, none⟩), .agg #[.int .i64 (so : Int), .slice va N vc, .bool sl]] w' fun e w' => ∃ (k : Int) (n : Nat), e = .returned (.tuple #[.int .i64 k, .int .i64 0]) ∧ S.Upto (S.map ⟨so, sd, sl⟩) n ∧ Held F Z W (tSt q (S.put ⟨so, sd, sl⟩ n) :: ([tBlk p (rdO q S.win), tBlk w.heap.size bx] ++ ts)) w' from fun w' hw' => by
    rw [hN]; exact putS_c (s := ⟨so, sd, sl⟩) hw' (i + 2) (by exact hi) hf hl hs)
  rw [← hN]
  obtain ⟨w1, hw1⟩ : ∃ w1, w1 = w.alloc (.cells #[.int .i64 (so : Int), .slice va N vc, .bool sl] 50) := ⟨_, rfl⟩
  have H2 := Lib.hid (show Held F Z W (tSt q S :: ([tBlk p (rdO q S.win), tBlk w.heap.size bx] ++ ts)) w1 by
    rw [hw1, hbx]
    exact Held.sink (A := [tSt q S, tBlk p _]) (H1.out.new _).front)
  have HF := Lib.hid (show ∀ w' : World, (w'.heap[p]? = some (rdO q S.win) ∧ w'.heap[w.heap.size]? = some bx) → w'.cell? ⟨p, 0, none⟩ = some (.pointer (some ⟨q, 0, none⟩)) ∧ w'.cell? ⟨w.heap.size, 0, none⟩ = some (.int .i64 (so : Int)) ∧ w'.cell? ⟨w.heap.size, 1, none⟩ = some (.slice va N vc) ∧ w'.cell? ⟨w.heap.size, 2, none⟩ = some (.bool sl) from fun w' ⟨h1, h2⟩ => by
    rw [hbx] at h2
    exact ⟨blk_cell h1 rfl, blk_cell h2 rfl, blk_cell h2 rfl, blk_cell h2 rfl⟩)
  clear h h1 hi hf hl hs hN
  go_enter Try.func12, Try.ntmps12
  go_upto_region 3 with fail
  rw [← hw1]
  clear hw1 hbx
  refine wp_region_held_drew (S := fun w' : World => w'.heap[p]? = some (rdO q S.win) ∧ w'.heap[w.heap.size]? = some bx) (by kernel_rfl) ⟨H2.out.drew.blk 1 rfl, H2.out.drew.blk 2 rfl⟩ (fun hS0 => ?_)
  change wpAnyH _ _ _ _ _ (6 + 5) _ _ _
  refine wpAnyH_take_n 0 5 (by kernel_rfl) hS0 (fun _ _ _ _ _ h => h) ?_
  simp only [List.drop_zero, List.take_succ_cons, List.take_zero]
  iterate 5 (refine wpFirst_val (v := ?_) (by rfl) ?_ ?_; rotate_left 1; (focus ((intro w' hS'; obtain ⟨e0, e1, e2, e3⟩ := HF.out w' hS'; go_simp); try with_reducible rfl)); simp only [Act.put, List.setIfInBounds_toArray, List.set_cons_zero, List.set_cons_succ])
  refine wpFirst_nil ?_
  refine wpAnyH_one 5 (by kernel_rfl) rfl (fun K hK => ?_)
  refine step_call (f := ?_) (args := ?_) (by rfl) ?_ ?_
  rotate_left 2
  focus (go_simp; first | (with_reducible rfl) | (refine ⟨?_, ?_⟩ <;> with_reducible rfl))
  refine (HP.out _ H2.out.drew).mono ?_
  rintro e w3 ⟨k, n, rfl, hup, h3⟩
  refine ⟨_, rfl, ?_⟩
  simp only [Act.put, List.setIfInBounds_toArray, List.set_cons_zero, List.set_cons_succ]
  have H3 := Lib.hid h3
  have HU := Lib.hid hup
  have hS3 : w3.heap[p]? = some (rdO q S.win) ∧ w3.heap[w.heap.size]? = some bx := ⟨h3.blk 1 rfl, h3.blk 2 rfl⟩
  refine hK.out _ _ hS3 ?_
  clear hK K h3 hup hS0 H2
  change wpAnyH _ _ _ _ _ (0 + 5) _ _ _
  refine wpAnyH_take_n 6 5 (by kernel_rfl) hS3 (fun _ _ _ _ _ h => h) ?_
  simp only [List.drop_succ_cons, List.drop_zero, List.take_succ_cons, List.take_zero]
  iterate 5 (refine wpFirst_val (v := ?_) (by rfl) ?_ ?_; rotate_left 1; (focus ((intro w' hS'; go_simp); try with_reducible rfl)); simp only [Act.put, List.setIfInBounds_toArray, List.set_cons_zero, List.set_cons_succ])
  refine wpFirst_nil ?_
  refine wpAnyH_done (by kernel_rfl) ?_ _
  go_wp2_with fail
  go_ret
  refine ⟨n, rfl, HU.out, Held.shut (f := rdrThs p (S.put ⟨so, sd, sl⟩ n)) (i := q) ?_⟩
  exact Held.sink (A := [tBlk p (rdO q S.win)]) (Held.lift (A := [tSt q (S.put ⟨so, sd, sl⟩ n), tBlk p (rdO q S.win)]) H3.out).tail
theorem ackR_c (h : Held F Z W (tRdr p S :: ts) w) (hl : S.Low) (hr : S.next ≤ S.off + S.win) :
    Calls Try.prog 14 #[.pointer (some ⟨p, 0, none⟩)] w fun e w' => e = .returned (.tuple #[.int .i64 (S.next : Int), .int .i64 ((S.off + S.win - S.next : Nat) : Int), .bool S.whole]) ∧ Held F Z W (tRdr p S :: ts) w' := by
  have H := Lib.hid h
  have HS := Lib.hid (show ∀ w', Held F Z W (tRdr p S :: ts) w' → ∃ s, w'.cell? ⟨p, 0, none⟩ = some (.pointer (some ⟨s, 0, none⟩)) ∧ w'.cell? ⟨p, 1, none⟩ = some (.int .i64 (S.win : Int)) ∧ w'.cell? ⟨s, 1, none⟩ = some (.int .i64 (S.off : Int)) ∧ w'.cell? ⟨s, 2, none⟩ = some (.int .i64 (S.next : Int)) ∧ w'.cell? ⟨s, 4, none⟩ = some (.int .i64 (S.fin : Int)) ∧ w'.cell? ⟨s, 5, none⟩ = some (.bool S.known) from fun w' hw' => by
    obtain ⟨s, h1⟩ := Held.opens hw'
    obtain ⟨c0, c1⟩ := rd_cells (h1.blk 0 rfl)
    obtain ⟨b, h2⟩ := Held.opens (Held.lift (A := [tBlk p _]) h1)
    obtain ⟨-, d1, d2, -, d4, d5⟩ := st_cells (h2.blk 0 rfl)
    exact ⟨s, c0, c1, d1, d2, d4, d5⟩)
  obtain ⟨l1, l2, l3, l4, l5, -⟩ := hl
  obtain ⟨s, c0, c1, d1, d2, d4, d5⟩ := HS.out _ h
  obtain ⟨rm, hrm⟩ : ∃ rm, rm = S.off + S.win - S.next := ⟨_, rfl⟩
  rw [← hrm]
  have hw1 : IntKind.i64.wrap ((S.off : Int) + (S.win : Int)) = (S.off : Int) + (S.win : Int) := by rw [IntKind.wrap_i64]; omega
  have hw2 : IntKind.i64.wrap ((S.off : Int) + (S.win : Int) - (S.next : Int)) = (rm : Int) := by rw [IntKind.wrap_i64]; omega
  obtain ⟨wh, hwh⟩ : ∃ wh, wh = S.whole := ⟨_, rfl⟩
  rw [← hwh]
  have HF := Lib.hid (show ∀ w' : World, (w'.cell? ⟨p, 0, none⟩ = some (.pointer (some ⟨s, 0, none⟩)) ∧ w'.cell? ⟨p, 1, none⟩ = some (.int .i64 (S.win : Int)) ∧ w'.cell? ⟨s, 1, none⟩ = some (.int .i64 (S.off : Int))) → w'.cell? ⟨p, 0, none⟩ = some (.pointer (some ⟨s, 0, none⟩)) ∧ w'.cell? ⟨p, 1, none⟩ = some (.int .i64 (S.win : Int)) ∧ w'.cell? ⟨s, 1, none⟩ = some (.int .i64 (S.off : Int)) from fun w' h => h)
  have hk : (S.known = false ∧ wh = false) ∨ (S.known = true ∧ S.fin = S.next ∧ wh = true) ∨ (S.known = true ∧ S.fin ≠ S.next ∧ wh = false) := by
    rw [hwh]; unfold St.whole
    by_cases h1 : S.known = true <;> by_cases h2 : S.fin = S.next <;> simp_all
  have D1 := Lib.hid d1; have D2 := Lib.hid d2; have D4 := Lib.hid d4; have D5 := Lib.hid d5
  clear h hrm hwh d1 d2 d4 d5
  go_enter Try.func14, Try.ntmps14
  rcases hk with ⟨h1, h2⟩ | ⟨h1, h2, h3⟩ | ⟨h1, h2, h3⟩
  case' inl =>
    subst h2
    have HE := Lib.hid (endS_c D4.out (by rw [D5.out, h1]))
  case' inr.inl =>
    subst h3
    have HE := Lib.hid (endS_c D4.out (by rw [D5.out, h1]))
    have q1 : ((S.fin : Int) == (S.next : Int)) = true := by simp; omega
  case' inr.inr =>
    subst h3
    have HE := Lib.hid (endS_c D4.out (by rw [D5.out, h1]))
    have q1 : ((S.fin : Int) == (S.next : Int)) = false := by simp; omega
  case' inr.inl => clear h2
  case' inr.inr => clear h2
  all_goals
    clear h1
    go_upto_region 5 with (first | (go_at_call 32; refine (contiguousS_c D2.out).mono ?_; rintro e w3 ⟨rfl, rfl⟩) | (go_at_call 30; refine HE.out.mono ?_; rintro e w3 ⟨rfl, rfl⟩))
    refine wp_region_held_drew (S := fun w' : World => w'.cell? ⟨p, 0, none⟩ = some (.pointer (some ⟨s, 0, none⟩)) ∧ w'.cell? ⟨p, 1, none⟩ = some (.int .i64 (S.win : Int)) ∧ w'.cell? ⟨s, 1, none⟩ = some (.int .i64 (S.off : Int))) (by kernel_rfl) ⟨c0, c1, D1.out⟩ (fun hS0 => ?_)
    change wpAnyH _ _ _ _ _ (0 + 22) _ _ _
    refine wpAnyH_take_n 0 22 (by kernel_rfl) hS0 (fun _ _ _ _ _ h => h) ?_
    simp only [List.drop_zero, List.take_succ_cons, List.take_zero]
    iterate 5 (refine wpFirst_val (v := ?_) (by rfl) ?_ ?_; rotate_left 1; (focus ((intro w' hS'; obtain ⟨e0, e1, e2⟩ := HF.out w' hS'; go_simp); try with_reducible rfl)); simp only [Act.put, List.setIfInBounds_toArray, List.set_cons_zero, List.set_cons_succ])
    (refine wpFirst_call (v := ?_) (f := ?_) (args := ?_) (by rfl) ?_ ?_ ?_; rotate_left 3; (focus (intro w'; go_simp; first | (with_reducible rfl) | (refine ⟨?_, ?_⟩ <;> with_reducible rfl))); (focus (intro w' hS'; with_reducible exact offsetS_c (x := .int .i64 (S.off : Int)) hS'.2.2)); simp only [Act.put, List.setIfInBounds_toArray, List.set_cons_zero, List.set_cons_succ])
    iterate 16 (first | (refine wpFirst_un (by rfl) ?_; simp only [Act.put, List.setIfInBounds_toArray, List.set_cons_zero, List.set_cons_succ]) | (refine wpFirst_val (v := ?_) (by rfl) ?_ ?_; rotate_left 1; (focus ((intro w' hS'; obtain ⟨e0, e1, e2⟩ := HF.out w' hS'; go_simp); try with_reducible rfl)); simp only [Act.put, List.setIfInBounds_toArray, List.set_cons_zero, List.set_cons_succ]))
    refine wpFirst_nil ?_
    refine wpAnyH_done (by kernel_rfl) ?_ _
    have H2 := Lib.hid H.out.drew
    clear hS0 H c0 c1
    go_wp2_with fail
    go_ret3
    exact ⟨rfl, H2.out⟩
end
end Go.Proofs.Ytbibippdafnenaa
