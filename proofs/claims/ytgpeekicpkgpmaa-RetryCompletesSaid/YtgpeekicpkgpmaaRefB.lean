/- The sender of the reference: sending, and Tick. -/
import Derived.Test.YtgpeekicpkgpmaaRefA
import Derived.Test.YtgpeekicpkgpmaaRetE
namespace Go.Proofs.Ytgpeekicpkgpmaa
open Go.RowKit

/-- a new empty array of bytes -/
theorem sl_empty (w : World) (g : Nat) (e : TypeId) (fr : Nat × Nat) (hfr : fr = (0, 0)) (hg : g = w.heap.size) : Sl (w.alloc (.cells #[] e fr)) (fun k => w.heap.size ≤ k) e 1 (.slice (some ⟨g, 0, none⟩) 0 0) 0 [] := by
  subst hg; subst hfr
  exact ⟨rfl, .inr ⟨w.heap.size, 0, 0, #[], rfl, Nat.le_refl _, heap_alloc_new w _, Nat.le_refl _, Nat.zero_le _, by simp, by simp⟩⟩
theorem alloc_cell (w : World) (o : Obj) {a : Addr} {v : Value} (h : w.cell? a = some v) : (w.alloc o).cell? a = some v :=
  (World.cell?_of_block (Below.heap_alloc w o _ (World.block_lt_of_cell? w _ h))).trans h
theorem Sl.byD {w : World} {F : Nat → Prop} {e : TypeId} {v : Value} {d : Bytes} (h : Sl w F e 1 v d.length (cu d)) : ByD w (fun k => F k ∧ k < w.heap.size) v d := by
  refine ⟨h.rd, fun b hb => ?_⟩
  obtain ⟨_, ⟨rfl, _⟩ | ⟨g, off, cap, cur, rfl, h1, h2, _⟩⟩ := h
  · cases hb
  · obtain rfl : g = b := by simpa [Value.ownBlock] using hb
    exact ⟨h1, lt_of_block h2⟩
theorem below_da (w : World) (n : Nat) (o : Obj) : Below w.heap.size w ((w.drewN n).alloc o) := ⟨rfl, rfl, rfl, by simp, fun k hk => Below.heap_alloc (w.drewN n) o k hk⟩
theorem rsend_done {w wa w2 w3 : World} {F : Nat → Prop} {p : Nat} {s s' : Snd} {kv v : Value} {d : Bytes} (hs : RsAt w F p s) (hsq : Seq w (fun k => F k ∧ k ≠ p) kv s.kept) (hkept : s'.kept = s.kept)
    (ha : Below w.heap.size w wa) (hsl : Sl w2 (fun k => w.heap.size ≤ k) 5 1 v d.length (cu d)) (hf2 : Fr (fun k => w.heap.size ≤ k) wa w2) (hf3 : Fr (fun k => k = p) w2 w3)
    (hrow : w3.heap[p]? = some (.cells (rsCells s' kv) 39 (0, 0))) : ByD w3 (fun k => w.heap.size ≤ k) v d ∧ RsAt w3 F p s' ∧ Fr (fun k => k = p) w w3 := by
  have hp := hs.plt
  have hF : Fr (fun k => k = p) w w3 := by
    refine ⟨hf3.os.trans (hf2.os.trans ha.os), hf3.tape.trans (hf2.tape.trans ha.tape), hf3.output.trans (hf2.output.trans ha.output), Nat.le_trans ha.size (Nat.le_trans hf2.size hf3.size), fun k hl hn => ?_⟩
    have h1 := ha.size
    have h2 := hf2.size
    exact (hf3.block k (by omega) hn).trans ((hf2.block k (by omega) (by omega)).trans (ha.block k hl))
  refine ⟨?_, RsAt.put hs (by rw [hkept]; exact hsq) hF hrow, hF⟩
  exact ((Sl.byD hsl).keep fun k hk hl => hf3.block k hl (by have := hk.1; omega)).mono fun k h => h.1
set_option maxHeartbeats 4000000 in
theorem rsend_any (F : Nat → Prop) (p : Nat) (s : Snd) (hsm : ∀ d ∈ s.kept, d.length ≤ 64) (hkl : s.kept.length ≤ 128) (_ : s.sent ≤ s.kept.length) (ht : s.total < 1000000000000) (w : World) (hs : RsAt w F p s) (h0 : s.pos < s.kept.length) :
    Calls Try.prog 33 #[.pointer (some ⟨p, 0, none⟩)] w fun e w' => ∃ v, e = .returned (.tuple #[.int .i64 (s.send.1.1 : Int), v, .bool true]) ∧ ByD w' (fun k => w.heap.size ≤ k) v s.send.1.2 ∧ RsAt w' F p s.send.2 ∧ Fr (fun k => k = p) w w' := by
  obtain ⟨kv, hrow, hsq⟩ := hs.seq
  have HSQ := Lib.hid hsq
  obtain ⟨K, D, vs, hKD, hdj, hsl, hk⟩ := hsq
  obtain ⟨kg, koff, kcap, rfl, _, kc⟩ := hsl.head (by omega)
  obtain ⟨u, hu, hud⟩ := hk.at h0
  have cu := hsl.cell _ _ hu
  have hsend : s.send.1.2 = s.kept.getD s.pos [] := rfl
  obtain ⟨d0, hd0⟩ : ∃ d, d = s.kept.getD s.pos [] := ⟨_, rfl⟩
  have usm : (s.kept.getD s.pos []).length ≤ 64 := by
    refine hsm _ ?_
    rw [List.getD_eq_getElem?_getD, List.getElem?_eq_getElem h0]; simp
  rw [hsend]; clear hsend
  rw [← hd0] at hud usm ⊢
  clear hd0
  obtain ⟨ua, ucap, rfl⟩ := hud.1.slice
  obtain ⟨_, c1, c2, c3, c4, c5, c6, c7⟩ := rs_cells hrow
  obtain ⟨_, _, _, f5, f6, f7⟩ := rs_free hrow
  have hlt := lt_of_block hrow
  unfold Snd.total at ht
  have HS := Lib.hid hs; have HROW := Lib.hid hrow; have HUD := Lib.hid hud
  clear hs hrow hud hu hsm hsl hk hKD hdj
  go_enter Try.func33, Try.ntmps33
  go_wp2_with fail
  go_quiet (fail)
  go_wp2_with fail
  have a2 := fun n => (alloc_cell (w.drewN n) (.cells #[] 5) (show (w.drewN n).cell? ⟨p, 2, none⟩ = some _ from c2))
  have a5 := fun n => (alloc_cell (w.drewN n) (.cells #[] 5) (show (w.drewN n).cell? ⟨p, 5, none⟩ = some _ from c5))
  have au := fun n => (alloc_cell (w.drewN n) (.cells #[] 5) (show (w.drewN n).cell? _ = some _ from cu))
  go_region_law (refine step_app_sl slB rfl _ _ rfl (fun k => w.heap.size ≤ k) _ 0 [] rfl (by exact sl_empty _ _ _ _ rfl rfl) _ d0.length (Go.Proofs.Ytgpeekicpkgpmaa.cu d0) rfl (by exact HUD.out.1.alloc _) cu_one (by unfold maxLen; omega) (by omega) ?_; intro v2 w2 hsl2 hfr2; rw [Nat.zero_add, List.nil_append] at hsl2; obtain ⟨v2a, v2c, rfl⟩ := hsl2.shape; have HSL2 := Lib.hid (hsl2.mono (G := fun k => w.heap.size ≤ k) (by rintro k (h | h); exact h; simp at h; omega)); have HFR2 := Lib.hid (hfr2.mono (G := fun k => w.heap.size ≤ k) (fun k h => h)); have HROW2 := Lib.hid (hfr2.keep ((Below.heap_alloc _ _ p (by simpa using hlt)).trans HROW.out) (show ¬ w.heap.size ≤ p by omega)); obtain ⟨_, _, _, _, _, c5', c6', c7'⟩ := rs_cells HROW2.out; obtain ⟨_, _, _, f5', f6', f7'⟩ := rs_free HROW2.out; have hz2 := hfr2.size; clear hsl2 hfr2)
  all_goals clear a2 a5 au
  all_goals go_wp2_with fail
  all_goals go_region
  all_goals go_wp2_with fail
  all_goals go_ret3
  all_goals exact ⟨.slice v2a d0.length v2c, rfl, rsend_done HS.out HSQ.out rfl (below_da w _ _) HSL2.out HFR2.out (by (repeat (first | (with_reducible exact Fr.refl _ _) | exact Or.inl rfl | (with_reducible refine Fr.setCell ?_ ?_ _) | (with_reducible refine Fr.drewN ?_ _) | (with_reducible refine Fr.drew ?_)))) (by (apply row_trans; focus (repeat (first | (with_reducible exact HROW2.out) | (with_reducible apply row_set) | (with_reducible apply row_drewN) | (with_reducible apply row_drew)))); simp [rsCells, Snd.send]; omega)⟩
end Go.Proofs.Ytgpeekicpkgpmaa
