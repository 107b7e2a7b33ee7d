/- Tick that sends. -/
import Derived.Test.YtcocnfbhileheaaRetD
namespace Go.Proofs.Ytcocnfbhileheaa
open Go.RowKit

theorem Kept.at {w : World} {D : Nat → Prop} {ks : List Bytes} {vs : List Value} (h : Kept w D ks vs) {i : Nat} (hi : i < ks.length) : ∃ v, vs[i]? = some v ∧ ByD w D v (ks.getD i []) := by
  refine h.2 i _ ?_
  rw [List.getElem?_eq_getElem hi]; simp [List.getD, hi]
theorem Ow.fr {T : TypeId} {w w' : World} {base : Nat} {v : Value} {bs : List (BitVec 8)} (h : Ow T w base v bs) {F : Nat → Prop} (hF : Fr F w w') (hb : ∀ k, F k → k < base) : Ow T w' base v bs := by
  obtain ⟨hl, h | ⟨g, cap, cur, rfl, hg, hrow, h1⟩⟩ := h
  · exact ⟨hl, .inl h⟩
  · exact ⟨hl, .inr ⟨g, cap, cur, rfl, hg, hF.keep hrow fun f => by have := hb g f; omega, h1⟩⟩
theorem tick_done {w w0 w1 w2 : World} {p : Nat} {K D : Nat → Prop} {s s' : Snd} {kv v : Value} {vs : List Value} {d : Bytes} (hs : SndAt w p K D s) (hk : Kept w D s.kept vs) (hsl : Sl w K 31 1 kv s.kept.length vs)
    (hF0 : Fr (fun k => k = p) w w0) (hB : Below w.heap.size w0 w1) (hO : Ow 5 w1 w.heap.size v d) (hF : Fr (fun k => k = p) w1 w2)
    (hrow : w2.heap[p]? = some (.cells (sndCells s' kv) 151 (0, 0))) (hkept : s'.kept = s.kept) :
    Ow 5 w2 w.heap.size v d ∧ SndAt w2 p K D s' ∧ Fr (fun k => k = p) w w2 := by
  have hp : p < w.heap.size := by obtain ⟨kv, vs, h, _⟩ := hs.row; exact lt_of_block h
  have hsz := hF0.size
  have h01 : Fr (fun k => k = p) w w1 := ⟨hB.os.trans hF0.os, hB.tape.trans hF0.tape, hB.output.trans hF0.output, Nat.le_trans hF0.size hB.size, fun k hk hn => (hB.block k hk).trans (hF0.block k hk hn)⟩
  have hall : Fr (fun k => k = p) w w2 := h01.trans hF fun x h => .inl h
  refine ⟨hO.fr hF fun k hk => by subst hk; exact hp, ?_, hall⟩
  exact SndAt.put hs (by rw [hkept]; exact hsl) (by rw [hkept]; exact hk) hall hrow
set_option maxHeartbeats 2000000 in
theorem tick_send (p : Nat) (K D : Nat → Prop) (s : Snd) (hok : s.Ok) (ht : s.total < 1000000000000) (w : World) (hs : SndAt w p K D s) (h0 : s.pos < s.kept.length) :
    Calls Try.prog 51 #[.pointer (some ⟨p, 0, none⟩)] w fun e w' => ∃ v, e = .returned (.tuple #[.int .i64 (s.send.1.1 : Int), v, .bool true]) ∧ Ow 5 w' w.heap.size v s.send.1.2 ∧ SndAt w' p K D s.send.2 ∧ Fr (fun k => k = p) w w' := by
  obtain ⟨kv, vs, hrow, hsl, hk⟩ := hs.row
  obtain ⟨kg, koff, kcap, rfl, _, kc⟩ := hsl.head (by omega)
  obtain ⟨u, hu, hud⟩ := hk.at h0
  have cu := hsl.cell _ _ hu
  have hsend : s.send.1.2 = s.kept.getD s.pos [] := rfl
  obtain ⟨d0, hd0⟩ : ∃ d, d = s.kept.getD s.pos [] := ⟨_, rfl⟩
  have usm : (s.kept.getD s.pos []).length ≤ 64 := by
    refine hok.small _ ?_
    rw [List.getD_eq_getElem?_getD, List.getElem?_eq_getElem h0]; simp
  rw [hsend]; clear hsend
  rw [← hd0] at hud usm ⊢
  clear hd0
  obtain ⟨ua, ucap, rfl⟩ := hud.1.slice
  obtain ⟨_, c1, c2, c3, c4, c5, c6⟩ := snd_cells hrow
  obtain ⟨_, _, f4, f5, f6⟩ := snd_free hrow
  have hpos := hok.pos
  have hsent := hok.sent
  have hkl := hok.kept
  have hw2 := hok.w2
  have hlt := lt_of_block hrow
  unfold Snd.total at ht
  have HS := Lib.hid hs; clear hs
  have HSL := Lib.hid hsl; clear hsl
  have HK := Lib.hid hk; clear hk
  have HROW := Lib.hid hrow; clear hrow
  have HUD := Lib.hid hud; clear hud
  have HU := Lib.hid hu; clear hu
  clear hok
  go_enter Try.func51, Try.ntmps51
  go_wp2_with fail
  go_quiet (fail)
  go_wp2_with fail
  go_quiet (fail)
  go_wp2_with fail
  go_region_law (go_simp; go_at_call 44; refine (clone_any _ _ _ (by exact HUD.out.1.drewN _) (by omega)).mono ?_; rintro e w1 ⟨v1, rfl, hO1, hB1⟩; obtain ⟨a1, cap1, rfl⟩ := ow_shape hO1; have HO1 := Lib.hid hO1; have HB1 := Lib.hid hB1; have HROW1 := Lib.hid ((hB1.block p hlt).trans HROW.out); obtain ⟨_, _, _, _, c4', c5', c6'⟩ := snd_cells HROW1.out; obtain ⟨_, _, f4', f5', f6'⟩ := snd_free HROW1.out;  clear hO1 hB1)
  all_goals go_wp2_with fail
  all_goals go_region
  all_goals go_wp2_with fail
  all_goals go_ret3
  all_goals refine ⟨_, rfl, tick_done HS.out HK.out HSL.out (Fr.refl _ _) ⟨HB1.out.os, HB1.out.tape, HB1.out.output, HB1.out.size, HB1.out.block⟩ HO1.out (by (repeat (first | (with_reducible exact Fr.refl _ _) | exact Or.inl rfl | (with_reducible refine Fr.setCell ?_ ?_ _) | (with_reducible refine Fr.drewN ?_ _) | (with_reducible refine Fr.drew ?_)))) (by (apply row_trans; focus (repeat (first | (with_reducible exact HROW1.out) | (with_reducible apply row_set) | (with_reducible apply row_drewN) | (with_reducible apply row_drew)))); simp [sndCells, Snd.send]; omega) rfl⟩
set_option maxHeartbeats 2000000 in
theorem tick_resend (p : Nat) (K D : Nat → Prop) (s : Snd) (hok : s.Ok) (ht : s.total < 1000000000000) (w : World) (hs : SndAt w p K D s) (h0 : 0 < s.kept.length) (h1 : s.kept.length ≤ s.pos) (h2 : s.timeout ≤ s.timer + 1) :
    Calls Try.prog 51 #[.pointer (some ⟨p, 0, none⟩)] w fun e w' => ∃ v, e = .returned (.tuple #[.int .i64 (({ s with pos := 0 } : Snd).send.1.1 : Int), v, .bool true]) ∧ Ow 5 w' w.heap.size v ({ s with pos := 0 } : Snd).send.1.2 ∧ SndAt w' p K D ({ s with pos := 0 } : Snd).send.2 ∧ Fr (fun k => k = p) w w' := by
  obtain ⟨kv, vs, hrow, hsl, hk⟩ := hs.row
  obtain ⟨kg, koff, kcap, rfl, hKg, kc⟩ := hsl.head (by omega)
  have hne : ¬ kg = p := fun e => hs.pK (e ▸ hKg)
  have hne' : ¬ p = kg := fun e => hne e.symm
  have ht2 := hok.t2
  have htm := hok.timer
  obtain ⟨u, hu, hud⟩ := hk.at h0
  have cu := hsl.cell _ _ hu
  rw [Nat.add_zero] at cu
  have hsend : ({ s with pos := 0 } : Snd).send.1.2 = s.kept.getD 0 [] := rfl
  obtain ⟨d0, hd0⟩ : ∃ d, d = s.kept.getD 0 [] := ⟨_, rfl⟩
  have usm : (s.kept.getD 0 []).length ≤ 64 := by
    refine hok.small _ ?_
    rw [List.getD_eq_getElem?_getD, List.getElem?_eq_getElem h0]; simp
  rw [hsend]; clear hsend
  rw [← hd0] at hud usm ⊢
  clear hd0
  obtain ⟨ua, ucap, rfl⟩ := hud.1.slice
  obtain ⟨_, c1, c2, c3, c4, c5, c6⟩ := snd_cells hrow
  obtain ⟨_, _, f4, f5, f6⟩ := snd_free hrow
  have hpos := hok.pos
  have hsent := hok.sent
  have hkl := hok.kept
  have hw2 := hok.w2
  have hlt := lt_of_block hrow
  unfold Snd.total at ht
  have HS := Lib.hid hs; clear hs
  have HSL := Lib.hid hsl; clear hsl
  have HK := Lib.hid hk; clear hk
  have HROW := Lib.hid hrow; clear hrow
  have HUD := Lib.hid hud; clear hud
  have HU := Lib.hid hu; clear hu
  clear hok
  go_enter Try.func51, Try.ntmps51
  go_wp2_with fail
  go_quiet (fail)
  go_wp2_with fail
  go_quiet (fail)
  go_wp2_with fail
  go_quiet (fail)
  go_wp2_with fail
  go_region_law (go_simp; go_at_call 44; refine (clone_any _ d0 _ (by exact (HUD.out.keep fun k hk hl => (show Fr (fun k => k = p) w _ by (repeat (first | (with_reducible exact Fr.refl _ _) | exact Or.inl rfl | (with_reducible refine Fr.setCell ?_ ?_ _) | (with_reducible refine Fr.drewN ?_ _) | (with_reducible refine Fr.drew ?_)))).block k hl fun e => HS.out.pD (e ▸ hk)).1) (by omega)).mono ?_; rintro e w1 ⟨v1, rfl, hO1, hB1⟩; obtain ⟨a1, cap1, rfl⟩ := ow_shape hO1; have HO1 := Lib.hid hO1; have HB1 := Lib.hid hB1; have HROW1 := Lib.hid (show w1.heap[p]? = some (.cells (sndCells { s with pos := 0, timer := s.timer + 1 } (.slice (some ⟨kg, koff, none⟩) s.kept.length kcap)) 151 (0, 0)) from (hB1.block p (by simpa using hlt)).trans (by (apply row_trans; focus (repeat (first | (with_reducible exact HROW.out) | (with_reducible apply row_set) | (with_reducible apply row_drewN) | (with_reducible apply row_drew)))); rfl)); obtain ⟨_, _, _, _, c4', c5', c6'⟩ := snd_cells HROW1.out; obtain ⟨_, _, f4', f5', f6'⟩ := snd_free HROW1.out;  clear hO1 hB1)
  all_goals go_wp2_with fail
  all_goals go_region
  all_goals go_wp2_with fail
  all_goals go_ret3
  all_goals refine ⟨_, rfl, tick_done HS.out HK.out HSL.out (w1 := w1) (show Fr (fun k => k = p) w _ by (repeat (first | (with_reducible exact Fr.refl _ _) | exact Or.inl rfl | (with_reducible refine Fr.setCell ?_ ?_ _) | (with_reducible refine Fr.drewN ?_ _) | (with_reducible refine Fr.drew ?_)))) ⟨HB1.out.os, HB1.out.tape, HB1.out.output, by simpa using HB1.out.size, fun k hk => HB1.out.block k (by simpa using hk)⟩ (by simpa using HO1.out) (by (repeat (first | (with_reducible exact Fr.refl _ _) | exact Or.inl rfl | (with_reducible refine Fr.setCell ?_ ?_ _) | (with_reducible refine Fr.drewN ?_ _) | (with_reducible refine Fr.drew ?_)))) (by (apply row_trans; focus (repeat (first | (with_reducible exact HROW1.out) | (with_reducible apply row_set) | (with_reducible apply row_drewN) | (with_reducible apply row_drew)))); simp [sndCells, Snd.send]; omega) rfl⟩
end Go.Proofs.Ytcocnfbhileheaa
