/- Entries; Audit finds nothing in bookings that were accepted. -/
import Derived.Test.YtbibippdafnenaaWaX
namespace Go.Proofs.Ytbibippdafnenaa
open Go.RowKit Go.Maps
set_option maxRecDepth 100000

section
variable {F Z : BS} {W w : World} {ts : List Th} {p : Nat} {L : Led}
theorem entries_c (h : Held F Z W (tLed p L :: ts) w) (hl : L.es.length ≤ 100000) :
    Calls Try.prog 22 #[.pointer (some ⟨p, 0, none⟩)] w fun e w' => ∃ a c, e = .returned (.slice a L.es.length c) ∧ Held F Z W (tLed p L :: (ts ++ [tSq eEnt 45 (.slice a L.es.length c) L.es])) w' := by
  obtain ⟨⟨ev, mb⟩, h1⟩ := Held.opens h
  obtain ⟨_, _, hsq⟩ := h1.get 1 rfl
  obtain ⟨ea, ec, e1, hle1, hle2, -⟩ := Sq.le (show Sq eEnt 45 w _ _ ev L.es from hsq)
  subst e1
  obtain ⟨N, hN⟩ : ∃ N, N = L.es.length := ⟨_, rfl⟩
  have HQ := Lib.hid (show ∀ w', w = w' → Calls Try.prog 34 #[.slice ea N ec] w' fun e w' => ∃ a' c', e = .returned (.slice a' N c') ∧ Held F Z W (ledThs p L (.slice ea L.es.length ec, mb) ++ ts ++ [tSq eEnt 45 (.slice a' N c') L.es]) w' from fun w' e => by
    subst e; rw [hN]; exact cloneE_c h1 1 rfl hl)
  obtain ⟨c0, c1⟩ := led_cells (h1.blk 0 rfl)
  rw [← hN] at c0 ⊢
  have HN := Lib.hid hN
  clear h h1 hsq hle1 hle2 hN hl
  go_enter Try.func22, Try.ntmps22
  go_wp2_with (go_at_call 34; refine (HQ.out _ rfl).mono ?_; rintro e w2 ⟨a', c', rfl, h2⟩; have H2 := Lib.hid h2; clear h2)
  go_ret
  exact ⟨a', c', rfl, Held.shut (f := ledThs p L) (i := (.slice ea L.es.length ec, mb)) H2.out⟩
set_option maxHeartbeats 16000000 in
theorem audit_c {a : Option Addr} {c n : Nat} {es : List Ent} (h : Held F Z W ts w) (i : Nat) (hi : ts[i]? = some (tSq eEnt 45 (.slice a n c) es)) (hn : n = es.length) (hl : es.length ≤ 10000) (hg : Led.Good es) :
    Calls Try.prog 21 #[.slice a n c] w fun e w' => e = .returned (.tuple #[.int .i64 (-1), .int .i64 0]) ∧ Held F Z W ts w' := by
  have H := Lib.hid h
  have HI := Lib.hid hi
  have HN := Lib.hid hn
  have HG := Lib.hid hg
  have hl2 : n ≤ 10000 := by omega
  clear h hi hn hg hl
  go_enter Try.func21, Try.ntmps21
  go_wp2_with (go_at_call 5; refine (newA_c w).mono ?_; rintro e w1 ⟨lp, rfl, hm⟩; have H1 := Lib.hid (H.out.made hm).front; clear hm)
  go_loopw [5, 6, 7, 11] (fun _ _ _ x wr => ∃ j : Nat, j ≤ n ∧ x = .int .i64 (j : Int) ∧ Hid (Held F Z W (tLed lp (Led.run (es.take j)) :: ts) wr)) (fun _ _ _ x _ => n - (intOf x).toNat)
  case atStart => exact ⟨0, Nat.zero_le _, rfl, H1⟩
  case round =>
    clear H1
    obtain ⟨j, hj, rfl, HH⟩ := hrel
    by_cases hlt : j < n
    · obtain ⟨x, hx⟩ : ∃ x, es[j]? = some x := ⟨es[j]'(by rw [← HN.out]; exact hlt), List.getElem?_eq_getElem (by rw [← HN.out]; exact hlt)⟩
      obtain ⟨_, _, hsq⟩ := HH.out.get (i + 1) (by exact HI.out)
      obtain ⟨eb, eo, cs, _, e1, _, hrd, _, hcs⟩ := Sq.at (show Sq eEnt 45 wr _ _ (.slice a n c) es from hsq) (by decide) hx
      subst e1
      have hcx : cs = entC x := hrd
      have x0 : wr.cell? ⟨eb, eo + j * 5, none⟩ = some (.int .i64 (x.tick : Int)) := hcs 0 _ (by rw [hcx]; rfl)
      have x1 : wr.cell? ⟨eb, eo + j * 5 + 1, none⟩ = some (.int .i64 (x.conn : Int)) := hcs 1 _ (by rw [hcx]; rfl)
      have x2 : wr.cell? ⟨eb, eo + j * 5 + 2, none⟩ = some (.int .i64 (x.frm : Int)) := hcs 2 _ (by rw [hcx]; rfl)
      have x3 : wr.cell? ⟨eb, eo + j * 5 + 3, none⟩ = some (.int .i64 ((x.frm + 1 : Nat) : Int)) := hcs 3 _ (by rw [hcx]; rfl)
      have x4 : wr.cell? ⟨eb, eo + j * 5 + 4, none⟩ = some (.int .i64 (x.bytes : Int)) := hcs 4 _ (by rw [hcx]; rfl)
      obtain ⟨ff, hff⟩ : ∃ ff : Int, ff = ((x.frm + 1 : Nat) : Int) := ⟨_, rfl⟩
      rw [← hff] at x3
      have HFF := Lib.hid hff
      have HX := Lib.hid hx
      have hlt' : (j : Int) < (n : Int) := by omega
      clear hsq hrd hcs hcx hff hx
      go_upto_region 5 with fail
      have HC := Lib.hid (HG.out j x HX.out)
      have HT := Lib.hid (show (Led.run (es.take j)).book x = Led.run (es.take (j + 1)) by rw [← Led.run_snoc, List.take_add_one, HX.out]; rfl)
      obtain ⟨w2, hw2⟩ : ∃ w2, w2 = wr.alloc (.cells #[.int .i64 (x.tick : Int), .int .i64 (x.conn : Int), .int .i64 (x.frm : Int), .int .i64 ff, .int .i64 (x.bytes : Int)] 45) := ⟨_, rfl⟩
      have H2 := Lib.hid (show Held F Z W (tLed lp (Led.run (es.take j)) :: ts) w2 by rw [hw2]; exact HH.out.alloc _)
      obtain ⟨b0, b1, b2, b3, b4⟩ := ent_cells (show w2.heap[wr.heap.size]? = _ by rw [hw2]; exact heap_alloc_new _ _)
      rw [← hw2]
      clear hw2 x0 x1 x2 x3 x4 HH
      go_wp2_with (go_at_call 9; rw [HFF.out]; refine (book_c H2.out x HC.out).mono ?_; rintro e w3 ⟨rfl, h3⟩; rw [HT.out] at h3; have H3 := Lib.hid h3; clear h3 H2 b0 b1 b2 b3 b4)
      go_roundw
      case rel => exact ⟨j + 1, by omega, by go_num, H3⟩
      case measure => simp only [intOf]; omega
    · have hge : ¬ (j : Int) < (n : Int) := by omega
      have HE := Lib.hid HH.out.tail
      clear HH
      go_wp2_with fail
      go_ret2
      exact ⟨rfl, HE.out⟩
end
end Go.Proofs.Ytbibippdafnenaa
