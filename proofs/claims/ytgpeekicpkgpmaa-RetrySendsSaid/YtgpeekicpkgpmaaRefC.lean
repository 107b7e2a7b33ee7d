/- The sender of the reference: Tick and Offer. -/
import Derived.Test.YtgpeekicpkgpmaaRefB
namespace Go.Proofs.Ytgpeekicpkgpmaa
open Go.RowKit

set_option maxHeartbeats 1000000 in
theorem rtick_any (F : Nat → Prop) (p : Nat) (s : Snd) (hok : s.Ok) (ht : s.total < 1000000000000) (w : World) (hs : RsAt w F p s) :
    Calls Try.prog 20 #[.pointer (some ⟨p, 0, none⟩)] w fun e w' => ∃ v, e = .returned (.tuple #[.int .i64 ((s.tick.1.elim 0 (·.1) : Nat) : Int), v, .bool s.tick.1.isSome]) ∧
      ByD w' (fun k => w.heap.size ≤ k) v (s.tick.1.elim [] (·.2)) ∧ RsAt w' F p s.tick.2 ∧ Fr (fun k => k = p) w w' := by
  obtain ⟨kv, hrow, hsq⟩ := hs.seq
  obtain ⟨a, c, rfl⟩ := hsq.shape
  obtain ⟨_, c1, c2, c3, c4, c5, c6, c7⟩ := rs_cells hrow
  obtain ⟨_, _, _, f5, f6, f7⟩ := rs_free hrow
  have hpos := hok.pos
  have hsent := hok.sent
  have hkl := hok.kept
  have hw2 := hok.w2
  have ht2 := hok.t2
  have htm := hok.timer
  have hlt := lt_of_block hrow
  have HSM := Lib.hid hok.small
  have HT := Lib.hid ht
  have HS := Lib.hid hs; have HROW := Lib.hid hrow; have HSQ := Lib.hid hsq
  unfold Snd.total at ht
  clear hs hrow hsq hok
  unfold Snd.tick
  by_cases h0 : s.kept.length = 0
  · have hp0 : s.pos = 0 := by omega
    rw [if_pos h0]
    have HD := Lib.hid (show ∀ w' : World, ByD w' (fun k => w.heap.size ≤ k) (.slice none 0 0) [] from fun w' => ⟨By.of_nil _, fun b hb => by cases hb⟩)
    clear f5 f6 f7 c1 c3 c4 c6 c7
    go_enter Try.func20, Try.ntmps20
    go_wp2_with fail
    go_quiet (fail)
    go_wp2_with fail
    go_ret3
    exact ⟨_, rfl, HD.out _, (RsAt.thing p s).mono ((RsAt.thing p s).keep HS.out (w' := w.drewN _) (Nat.le_refl _) fun _ _ _ => rfl) fun _ h => h.1, by (repeat (first | (with_reducible exact Fr.refl _ _) | exact Or.inl rfl | (with_reducible refine Fr.setCell ?_ ?_ _) | (with_reducible refine Fr.drewN ?_ _) | (with_reducible refine Fr.drew ?_)))⟩
  · rw [if_neg h0]
    by_cases h1 : s.kept.length ≤ s.pos
    · rw [if_pos h1]
      by_cases h2 : s.timer + 1 < s.timeout
      · rw [if_pos h2]
        have HD := Lib.hid (show ∀ w' : World, ByD w' (fun k => w.heap.size ≤ k) (.slice none 0 0) [] from fun w' => ⟨By.of_nil _, fun b hb => by cases hb⟩)
        go_enter Try.func20, Try.ntmps20
        go_wp2_with fail
        go_quiet (fail)
        go_wp2_with fail
        go_quiet (fail)
        go_wp2_with fail
        go_ret3
        exact ⟨_, rfl, HD.out _, RsAt.put HS.out HSQ.out (by (repeat (first | (with_reducible exact Fr.refl _ _) | exact Or.inl rfl | (with_reducible refine Fr.setCell ?_ ?_ _) | (with_reducible refine Fr.drewN ?_ _) | (with_reducible refine Fr.drew ?_)))) (by (apply row_trans; focus (repeat (first | (with_reducible exact HROW.out) | (with_reducible apply row_set) | (with_reducible apply row_drewN) | (with_reducible apply row_drew)))); simp [rsCells]), by (repeat (first | (with_reducible exact Fr.refl _ _) | exact Or.inl rfl | (with_reducible refine Fr.setCell ?_ ?_ _) | (with_reducible refine Fr.drewN ?_ _) | (with_reducible refine Fr.drew ?_)))⟩
      · rw [if_neg h2]
        go_enter Try.func20, Try.ntmps20
        go_wp2_with fail
        go_quiet (fail)
        go_wp2_with fail
        go_quiet (fail)
        go_wp2_with fail
        refine (rsend_any F p { s with pos := 0, timer := s.timer + 1 } HSM.out (by show s.kept.length ≤ 128; omega) hsent HT.out _ (RsAt.put HS.out HSQ.out (by (repeat (first | (with_reducible exact Fr.refl _ _) | exact Or.inl rfl | (with_reducible refine Fr.setCell ?_ ?_ _) | (with_reducible refine Fr.drewN ?_ _) | (with_reducible refine Fr.drew ?_)))) (by (apply row_trans; focus (repeat (first | (with_reducible exact HROW.out) | (with_reducible apply row_set) | (with_reducible apply row_drewN) | (with_reducible apply row_drew)))); simp [rsCells])) (by show 0 < s.kept.length; omega)).mono ?_
        rintro e w1 ⟨v, rfl, hd, hs1, hf1⟩
        have HD := Lib.hid hd; have HS1 := Lib.hid hs1; have HF1 := Lib.hid hf1
        clear hd hs1 hf1
        go_wp2_with fail
        go_ret3
        exact ⟨v, rfl, HD.out.mono (by intro k h; simpa using h), HS1.out, Fr.trans (F := fun k => k = p) (G := fun k => k = p) (by (repeat (first | (with_reducible exact Fr.refl _ _) | exact Or.inl rfl | (with_reducible refine Fr.setCell ?_ ?_ _) | (with_reducible refine Fr.drewN ?_ _) | (with_reducible refine Fr.drew ?_)))) HF1.out fun x h => .inl h⟩
    · rw [if_neg h1]
      go_enter Try.func20, Try.ntmps20
      go_wp2_with fail
      go_quiet (fail)
      go_wp2_with fail
      refine (rsend_any F p s HSM.out (by omega) hsent HT.out _ ((RsAt.thing p s).mono ((RsAt.thing p s).keep HS.out (w' := w.drewN _) (Nat.le_refl _) fun _ _ _ => rfl) fun _ h => h.1) (by omega)).mono ?_
      rintro e w1 ⟨v, rfl, hd, hs1, hf1⟩
      have HD := Lib.hid hd; have HS1 := Lib.hid hs1; have HF1 := Lib.hid hf1
      clear hd hs1 hf1
      go_wp2_with fail
      go_ret3
      exact ⟨v, rfl, HD.out.mono (by intro k h; simpa using h), HS1.out, Fr.trans (F := fun k => k = p) (G := fun k => k = p) (by (repeat (first | (with_reducible exact Fr.refl _ _) | exact Or.inl rfl | (with_reducible refine Fr.setCell ?_ ?_ _) | (with_reducible refine Fr.drewN ?_ _) | (with_reducible refine Fr.drew ?_)))) HF1.out fun x h => .inl h⟩
end Go.Proofs.Ytgpeekicpkgpmaa
