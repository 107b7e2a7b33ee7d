/- Cutting the first transmissions off. -/
import Derived.Test.YtekojekgjfefkaaCabC
import Derived.Test.YtekojekgjfefkaaSlc
import Derived.Deep.RegionLaw
import Derived.Deep.RegionHeld3
namespace Go.Proofs.Ytekojekgjfefkaa
open Go.RowKit

theorem slTr : SlT Try.prog 60 66 (.agg #[.int .i64 0, .slice none 0 0]) 2 32 := ⟨Try.underlying60, info_parts (by kernel_rfl), rfl, by decide⟩
theorem zvTr (w : World) : (zeroValue 66).run Try.prog w = .ok (.agg #[.int .i64 0, .slice none 0 0]) w := by kernel_rfl
theorem oneTr : ∀ u ∈ (Value.agg #[.int .i64 0, .slice none 0 0]).cells, u.oneCell' = true := by
  intro u hu; simp [Value.cells] at hu; rcases hu with rfl | rfl <;> rfl
theorem del_done {α : Type} {E : El α} {T : TypeId} {w : World} {F Z K D : BS} {g off c k : Nat} {cur : Array Value} {xs : List α} {us zs : List Value} (hd : Dj F Z) (q1 : ∀ k, K k ∨ D k → F k) (q2 : Dj K D) (q3 : ∀ k, K k → k < w.heap.size) (hg : K g) (hrow : w.heap[g]? = some (.cells cur T (0, 0)))
    (hel : Els E w D Z us xs) (hk : k ≤ xs.length) (h1 : xs.length ≤ c) (h2 : c ≤ maxLen) (h3 : off + c * E.size ≤ cur.size) (hz : zs.length = k * E.size) :
    Sq E T (wOver (wOver w.drew g cur off (us.drop (k * E.size))) g (over cur.toList off (us.drop (k * E.size))).toArray (off + (xs.length - k) * E.size) zs) F Z (.slice (some ⟨g, off, none⟩) (xs.length - k) c) (xs.drop k) ∧
      Fr F w (wOver (wOver w.drew g cur off (us.drop (k * E.size))) g (over cur.toList off (us.drop (k * E.size))).toArray (off + (xs.length - k) * E.size) zs) := by
  have hul := hel.length
  have hm : (xs.length - k) * E.size = xs.length * E.size - k * E.size := Nat.sub_mul _ _ _
  have hle : k * E.size ≤ xs.length * E.size := Nat.mul_le_mul_right _ hk
  have hle2 : xs.length * E.size ≤ c * E.size := Nat.mul_le_mul_right _ h1
  have hnl : (us.drop (k * E.size)).length = (xs.length - k) * E.size := by rw [List.length_drop, hul, hm]
  have hcl : cur.toList.length = cur.size := by simp
  have hf1 : off + (us.drop (k * E.size)).length ≤ cur.toList.length := by rw [hnl, hcl]; omega
  have hcs : (over cur.toList off (us.drop (k * E.size))).length = cur.size := by rw [over_length hf1, hcl]
  have hf2 : off + (xs.length - k) * E.size + zs.length ≤ (over cur.toList off (us.drop (k * E.size))).length := by rw [hcs, hz, hm]; omega
  have hr1 := over_row (w := w.drew) (show w.drew.heap[g]? = _ from hrow) off (us.drop (k * E.size))
  have hr2 := over_row hr1 (off + (xs.length - k) * E.size) zs
  have hF := (((Fr.refl (fun k => k = g) w).drew.trans (over_fr (w := w.drew) cur off (us.drop (k * E.size))) fun x h => .inl h).trans (over_fr (w := wOver w.drew g cur off (us.drop (k * E.size))) (over cur.toList off (us.drop (k * E.size))).toArray (off + (xs.length - k) * E.size) zs) fun x h => .inl h)
  refine ⟨⟨K, D, us.drop (k * E.size), q1, q2, fun k hk => Nat.lt_of_lt_of_le (q3 k hk) hF.size, ?_, ?_⟩, hF.mono fun x hx => by subst hx; exact q1 _ (.inl hg)⟩
  · rw [List.length_drop]
    refine ⟨hnl, .inr ⟨g, off, c, _, rfl, hg, hr2, by omega, h2, ?_, ?_⟩⟩
    · rw [List.size_toArray, over_length hf2, hcs]; exact h3
    · show ((over _ _ zs).drop off).take _ = _
      rw [over_apart hf2 (.inl (by omega)), ← hnl]
      exact over_same hf1
  · exact ((hel.keep hF.size fun x hx hl => hF.block x hl fun e => by subst e; exact hx.elim (q2 _ hg) (hd _ (q1 _ (.inl hg)))).mono (fun _ h => h.1) fun _ h => h.1).drop k
set_option maxHeartbeats 4000000 in
theorem delete_any (w : World) (F Z : BS) (hd : Dj F Z) (v : Value) (xs : List (Nat × Byt)) (h : Sq eTr 66 w F Z v xs) (k : Nat) (hk : k ≤ xs.length) (hl : xs.length ≤ 1000000) :
    Calls Try.prog 29 #[v, .int .i64 0, .int .i64 (k : Int)] w fun e w' => ∃ v', e = .returned v' ∧ Sq eTr 66 w' F Z v' (xs.drop k) ∧ Fr F w w' := by
  obtain ⟨a, c, rfl, hc1, hc2, hc3⟩ := h.le
  have H := Lib.hid h
  unfold maxLen at hc2
  by_cases h0 : k = 0
  · subst h0
    clear h hc3
    go_enter Try.func29, Try.ntmps29
    go_wp2_with fail
    all_goals go_ret
    all_goals exact ⟨_, rfl, by simpa using H.out, Fr.refl _ _⟩
  · obtain ⟨K, D, us, q1, q2, q3, hsl, hel⟩ := h
    obtain ⟨g, off, cap, e1, hg, _⟩ := hsl.head (by omega)
    obtain ⟨rfl, rfl⟩ : a = some ⟨g, off, none⟩ ∧ c = cap := by simpa using e1
    obtain ⟨ad, had, hrd⟩ : ∃ ad, (if c = k then some (⟨g, off, none⟩ : Addr) else some ⟨g, off + k * 2, none⟩) = some ad ∧ Rd w 2 (.slice (some ad) (xs.length - k) (c - k)) (xs.length - k) (us.drop (k * 2)) := by
      have := (hsl.dropG hk).rd
      by_cases hck : c = k
      · rw [if_pos hck] at this ⊢; exact ⟨_, rfl, this⟩
      · rw [if_neg hck] at this ⊢; exact ⟨_, rfl, this⟩
    obtain ⟨hul, ⟨e2, _⟩ | ⟨g', off', cap', cur, e2, hF, hrow, h1, h2, h3, h4⟩⟩ := hsl
    · cases e2
    obtain ⟨⟨rfl, rfl⟩, rfl⟩ : (g = g' ∧ off = off') ∧ c = cap' := by simpa using e2
    have HRD := Lib.hid hrd; have HROW := Lib.hid hrow; have HEL := Lib.hid hel
    have hone : Hid (∀ u ∈ us.drop (k * 2), u.oneCell' = true) := Lib.hid fun u hu => hel.one u (List.mem_of_mem_drop hu)
    have hnl : (us.drop (k * 2)).length = (xs.length - k) * 2 := by rw [List.length_drop, hul]; show xs.length * 2 - _ = _; omega
    have H3 : off + c * 2 ≤ cur.size := h3
    have HAD := Lib.hid had
    clear hrd hrow hel had e1 e2 hc3 hul
    have hF' : K g := hF
    clear hF
    by_cases hck : c = k
    · have hck' := hck.symm; subst hck'
      have hnk : xs.length = k := by omega
      rw [if_pos rfl] at HAD
      obtain rfl := Option.some.inj HAD.out
      rw [Nat.sub_self, show xs.length - k = 0 by omega] at HRD
      rw [show xs.length - k = 0 by omega] at hnl
      clear HAD
      go_enter Try.func29, Try.ntmps29
      go_wp2_with fail
      go_region_held3 (fun w' => w'.heap.size = w.heap.size) (first | rfl | simp [wOver]) ((refine step_app_here slTr rfl _ _ (by rfl) g off 0 _ (by rfl) cur HROW.out _ (0) _ (us.drop (k * 2)) (by rfl) (HRD.out.keep fun _ _ _ => rfl) hone.out (by omega) (by omega) ?_))
      have hr1 := over_row (w := w.drew) (show w.drew.heap[g]? = _ from HROW.out) (off + 0 * 2) (us.drop (k * 2))
      have hcs : (over cur.toList (off + 0 * 2) (us.drop (k * 2))).length = cur.size := by
        have hcl : cur.toList.length = cur.size := by simp
        rw [over_length (by rw [hnl, hcl]; omega), hcl]
      have HR1 := Lib.hid hr1; have HCS := Lib.hid hcs
      clear hr1 hcs
      go_wp2_with (refine wpList_clear_here slTr zvTr oneTr rfl _ rfl g (off) k _ (by omega) (by rfl) _ HR1.out (by rw [List.size_toArray, HCS.out]; omega) ?_; intro zs hz)
      go_ret
      have hd2 := del_done (zs := zs) hd q1 q2 q3 hF' HROW.out HEL.out (show k ≤ xs.length by omega) h1 h2 h3 (by rw [hz]; rfl)
      rw [show xs.length - k = 0 by omega] at hd2
      simp only [show eTr.size = 2 from rfl] at hd2
      exact ⟨_, rfl, by simpa using hd2.1, by simpa using hd2.2⟩
    · rw [if_neg hck] at HAD
      obtain rfl := Option.some.inj HAD.out
      have i1 : (0 : Int) ≤ (k : Int) := by omega
      have i2 : (k : Int) ≤ (xs.length : Int) := by omega
      have i3 : (xs.length : Int) ≤ (c : Int) := by omega
      have i4 : (0 : Int) ≤ (c : Int) := by omega
      clear HAD
      go_enter Try.func29, Try.ntmps29
      go_wp2_with fail
      go_region_held3 (fun w' => w'.heap.size = w.heap.size) (first | rfl | simp [wOver]) ((refine step_app_here slTr rfl _ _ (by rfl) g off 0 _ (by rfl) cur HROW.out _ (xs.length - k) _ (us.drop (k * 2)) (by rfl) (HRD.out.keep fun _ _ _ => rfl) hone.out (by omega) (by omega) ?_))
      have hr1 := over_row (w := w.drew) (show w.drew.heap[g]? = _ from HROW.out) (off + 0 * 2) (us.drop (k * 2))
      have hcs : (over cur.toList (off + 0 * 2) (us.drop (k * 2))).length = cur.size := by
        have hcl : cur.toList.length = cur.size := by simp
        rw [over_length (by rw [hnl, hcl]; omega), hcl]
      have HR1 := Lib.hid hr1; have HCS := Lib.hid hcs
      clear hr1 hcs
      go_wp2_with (refine wpList_clear_here slTr zvTr oneTr rfl _ rfl g (off + (xs.length - k) * 2) (xs.length - (xs.length - k)) _ (by omega) (by rfl) _ HR1.out (by rw [List.size_toArray, HCS.out]; omega) ?_; intro zs hz)
      go_ret
      have hd2 := del_done (zs := zs) hd q1 q2 q3 hF' HROW.out HEL.out (show k ≤ xs.length by omega) h1 h2 h3 (by rw [hz, show xs.length - (xs.length - k) = k by omega]; rfl)
      simp only [show eTr.size = 2 from rfl] at hd2
      exact ⟨_, rfl, by simpa using hd2.1, by simpa using hd2.2⟩
end Go.Proofs.Ytekojekgjfefkaa
