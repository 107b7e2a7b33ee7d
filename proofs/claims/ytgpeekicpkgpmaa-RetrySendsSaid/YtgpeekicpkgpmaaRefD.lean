/- The sender of the reference: Offer. -/
import Derived.Test.YtgpeekicpkgpmaaRefC
namespace Go.Proofs.Ytgpeekicpkgpmaa
open Go.RowKit

theorem roffer_done {w wa w1 w2 w3 : World} {F K D : Nat → Prop} {p : Nat} {s : Snd} {v1 u2 : Value} {vs : List Value} {d : Bytes} {o : Obj} (hs : RsAt w F p s)
    (hKD : ∀ k, K k ∨ D k → (F k ∧ k ≠ p) ∧ k < w.heap.size) (hdj : Dj K D) (hk : Kept w D s.kept vs) (ha : Below w.heap.size w wa) (hsl : Sl w1 (fun k => w.heap.size ≤ k) 5 1 v1 d.length (cu d)) (hf1 : Fr (fun k => w.heap.size ≤ k) wa w1)
    (hsl2 : Sl w2 (fun k => K k ∨ (w1.alloc o).heap.size ≤ k) 28 1 u2 (s.kept.length + 1) (vs ++ [v1])) (hf2 : Fr K (w1.alloc o) w2) (hf3 : Fr (fun k => k = p) w2 w3)
    (hrow3 : w3.heap[p]? = some (.cells (rsCells { s with kept := s.kept ++ [d] } u2) 39 (0, 0))) :
    RsAt w3 (fun k => F k ∨ w.heap.size ≤ k) p { s with kept := s.kept ++ [d] } ∧ Fr F w w3 := by
  have hp := hs.plt
  have hz0 := ha.size
  have hz1 := hf1.size
  have hza : (w1.alloc o).heap.size = w1.heap.size + 1 := by simp
  have hz2 := hf2.size
  have hz3 := hf3.size
  have hF2 : Fr K w w2 := by
    refine ⟨hf2.os.trans (hf1.os.trans ha.os), hf2.tape.trans (hf1.tape.trans ha.tape), hf2.output.trans (hf1.output.trans ha.output), by omega, fun k hl hn => ?_⟩
    exact (hf2.block k (by omega) hn).trans ((Below.heap_alloc w1 o k (by omega)).trans ((hf1.block k (by omega) (by omega)).trans (ha.block k hl)))
  have hF3 : Fr F w w3 := by
    refine ⟨hf3.os.trans hF2.os, hf3.tape.trans hF2.tape, hf3.output.trans hF2.output, by omega, fun k hl hn => ?_⟩
    exact (hf3.block k (by omega) fun e => hn (e ▸ hs.mem)).trans (hF2.block k hl fun h => hn (hKD k (.inl h)).1.1)
  refine ⟨⟨.inl hs.mem, u2, hrow3, ?_⟩, hF3⟩
  have hby : ByD w2 (fun k => w.heap.size ≤ k ∧ k < (w1.alloc o).heap.size) v1 d := by
    have h1 := (Sl.byD hsl).keep (w' := w1.alloc o) fun k _ hl => Below.heap_alloc w1 o k hl
    have h2 := h1.keep (w' := w2) fun k hk hl => hf2.block k hl fun h => by have := (hKD k (.inl h)).2; omega
    exact h2.mono fun k h => ⟨h.1, by omega⟩
  have hsq := Seq.snoc (w := w) (w1 := w1.alloc o) (w2 := w2) (F := fun k => F k ∧ k ≠ p) hKD hdj hk (by omega) hby hsl2 hF2 hz2
  have := hsq.keep (w' := w3) hz3 fun k hk hl => hf3.block k hl (by rcases hk with h | h; exact h.2; omega)
  exact this.mono fun k h => by
    rcases h.1 with h | h
    · exact ⟨.inl h.1, h.2⟩
    · exact ⟨.inr h, by omega⟩
set_option maxHeartbeats 8000000 in
theorem roffer_room (F : Nat → Prop) (p : Nat) (s : Snd) (hok : s.Ok) (ht : s.total < 1000000000000) (v : Value) (d : Bytes) (w : World) (hs : RsAt w F p s) (hv : By w v d) (hd : d.length ≤ 64) (hroom : s.kept.length < s.window) :
    Calls Try.prog 19 #[.pointer (some ⟨p, 0, none⟩), v] w fun e w' => e = .returned (.int .i64 0) ∧ RsAt w' (fun k => F k ∨ w.heap.size ≤ k) p { s with kept := s.kept ++ [d] } ∧ Fr F w w' := by
  obtain ⟨kv, hrow, hsq⟩ := hs.seq
  obtain ⟨K, D, vs, hKD, hdj, hsl, hk⟩ := hsq
  obtain ⟨a, cap, rfl⟩ := hv.slice
  obtain ⟨ka, kcap, rfl⟩ := hsl.shape
  obtain ⟨c0, _, c2, c3, _⟩ := rs_cells hrow
  obtain ⟨f2, f3, _⟩ := rs_free hrow
  have hlt := lt_of_block hrow
  have hw2 := hok.w2
  have hk2 := hok.kept
  unfold Snd.total at ht
  have HS := Lib.hid hs; have HSL := Lib.hid hsl; have HK := Lib.hid hk; have HV := Lib.hid hv; have HROW := Lib.hid hrow; have HKD := Lib.hid hKD; have HDJ := Lib.hid hdj
  have hpK : ¬ K p := fun h => (hKD p (.inl h)).1.2 rfl
  clear hs hsl hk hv hrow hok hKD hdj
  go_enter Try.func19, Try.ntmps19
  go_wp2_with fail
  go_quiet (fail)
  go_wp2_with fail
  have a2 := fun n => (alloc_cell (w.drewN n) (.cells #[] 5) (show (w.drewN n).cell? ⟨p, 2, none⟩ = some _ from c2))
  go_region_law (first
    | (refine step_app_sl slB rfl _ _ rfl (fun k => w.heap.size ≤ k) _ 0 [] rfl (by exact sl_empty _ _ _ _ rfl rfl) _ d.length (cu d) rfl (by exact (HV.out.drewN _).alloc _) cu_one (by unfold maxLen; omega) (by omega) ?_; intro v1 w1 hsl1 hfr1; rw [Nat.zero_add, List.nil_append] at hsl1; obtain ⟨v1a, v1c, rfl⟩ := hsl1.shape; have HSL1 := Lib.hid (hsl1.mono (G := fun k => w.heap.size ≤ k) (by rintro k (h | h); exact h; simp at h; omega)); have HFR1 := Lib.hid (hfr1.mono (G := fun k => w.heap.size ≤ k) (fun k h => h)); have HROW1 := Lib.hid (hfr1.keep ((Below.heap_alloc _ _ p (by simpa using hlt)).trans HROW.out) (show ¬ w.heap.size ≤ p by omega)); have c2' := (rs_cells HROW1.out).2.2.1; have a2' := alloc_cell w1 (.cells #[.slice v1a d.length v1c] 28) c2'; have hz1 := hfr1.size; have HKS := Lib.hid (show Sl w1 K _ 1 _ _ _ from HSL.out.keep fun k hk hl => (hfr1.block k (by simp; omega) (show ¬ w.heap.size ≤ k by omega)).trans (Below.heap_alloc _ _ k (by simpa using hl))); clear hsl1 hfr1)
    | (refine step_app_sl slBB rfl _ _ rfl K _ s.kept.length vs rfl (HKS.out.alloc _) _ 1 [.slice v1a d.length v1c] rfl (rd_one _ _ _ _ rfl) (by intro u hu; simp at hu; subst hu; rfl) (by unfold maxLen; omega) (by omega) ?_; intro v2 w2 hsl2 hfr2; obtain ⟨g2, off2, cap2, rfl, _⟩ := Sl.head hsl2 (by omega); have HSL2 := Lib.hid hsl2; have HFR2 := Lib.hid hfr2; have HROW2 := Lib.hid (hfr2.keep ((Below.heap_alloc _ _ p (lt_of_block HROW1.out)).trans HROW1.out) hpK); have c2'' := (rs_cells HROW2.out).2.2.1; have c3'' := (rs_cells HROW2.out).2.2.2.1; have f2'' := (rs_free HROW2.out).1; have f3'' := (rs_free HROW2.out).2.1; clear hsl2 hfr2))
  all_goals clear a2 a2'
  all_goals go_wp2_with fail
  all_goals go_ret
  all_goals exact ⟨rfl, roffer_done HS.out HKD.out HDJ.out HK.out (below_da w _ _) HSL1.out HFR1.out HSL2.out HFR2.out (by (repeat (first | (with_reducible exact Fr.refl _ _) | exact Or.inl rfl | (with_reducible refine Fr.setCell ?_ ?_ _) | (with_reducible refine Fr.drewN ?_ _) | (with_reducible refine Fr.drew ?_)))) (by (apply row_trans; focus (repeat (first | (with_reducible exact HROW2.out) | (with_reducible apply row_set) | (with_reducible apply row_drewN) | (with_reducible apply row_drew)))); simp [rsCells]; omega)⟩
set_option maxHeartbeats 1000000 in
theorem roffer_any (F : Nat → Prop) (p : Nat) (s : Snd) (hok : s.Ok) (ht : s.total < 1000000000000) (v : Value) (d : Bytes) (w : World) (hs : RsAt w F p s) (hv : By w v d) :
    Calls Try.prog 19 #[.pointer (some ⟨p, 0, none⟩), v] w fun e w' => e = .returned (.int .i64 ((s.offer d).1 : Int)) ∧ RsAt w' (fun k => F k ∨ w.heap.size ≤ k) p (s.offer d).2 ∧ Fr F w w' := by
  unfold Snd.offer
  by_cases h0 : 64 < d.length
  · rw [if_pos h0]
    have HS := Lib.hid ((RsAt.thing p s).mono (G := fun k => F k ∨ w.heap.size ≤ k) hs fun _ h => .inl h)
    obtain ⟨a, cap, rfl⟩ := hv.slice
    clear hs hv hok ht
    go_enter Try.func19, Try.ntmps19
    go_wp2_with fail
    go_ret
    exact ⟨rfl, HS.out, Fr.refl _ _⟩
  · rw [if_neg h0]
    by_cases h1 : s.window ≤ s.kept.length
    · rw [if_pos h1]
      have HS := Lib.hid (fun n => (RsAt.thing p s).mono ((RsAt.thing p s).keep hs (w' := w.drewN n) (Nat.le_refl _) fun _ _ _ => rfl) (G := fun k => F k ∨ w.heap.size ≤ k) fun _ h => .inl h.1)
      obtain ⟨kv, hrow, hsq⟩ := hs.seq
      obtain ⟨ka, kcap, rfl⟩ := hsq.shape
      obtain ⟨c0, _, c2, _⟩ := rs_cells hrow
      obtain ⟨a, cap, rfl⟩ := hv.slice
      have hw2 := hok.w2
      have hk2 := hok.kept
      have hq : ((s.kept.length : Int) == (s.window : Int)) = true := by simp; omega
      clear hs hv hok ht hrow hsq
      go_enter Try.func19, Try.ntmps19
      go_wp2_with fail
      go_quiet (fail)
      go_wp2_with fail
      go_ret
      exact ⟨rfl, HS.out _, by (repeat (first | (with_reducible exact Fr.refl _ _) | exact Or.inl rfl | (with_reducible refine Fr.setCell ?_ ?_ _) | (with_reducible refine Fr.drewN ?_ _) | (with_reducible refine Fr.drew ?_)))⟩
    · rw [if_neg h1]
      exact roffer_room F p s hok ht v d w hs hv (by omega) (by omega)
end Go.Proofs.Ytgpeekicpkgpmaa
