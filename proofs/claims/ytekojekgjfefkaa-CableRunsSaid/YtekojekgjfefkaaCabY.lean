/- The reference's Flipped, at arguments that are not negative. -/
import Derived.Test.YtekojekgjfefkaaCabX
namespace Go.Proofs.Ytekojekgjfefkaa
open Go.RowKit

theorem slU8 : SlT Try.prog 32 5 (.int .u8 0) 1 1 := ⟨Try.underlying32, info_parts (by kernel_rfl), rfl, by decide⟩
set_option maxHeartbeats 8000000 in
set_option maxRecDepth 100000 in
theorem refFlip_any (w : World) (v : Value) (d : Byt) (h : By w v d) (hl : d.length ≤ 1000) (arg : Int) (harg : 0 ≤ arg) :
    Calls Try.prog 31 #[v, .int .i64 arg] w fun e w' => ∃ a c, e = .returned (.slice a d.length c) ∧ Below w.heap.size w w' ∧ Ow 5 w' w.heap.size (.slice a d.length c) (flipB d arg) := by
  obtain ⟨a, cap, rfl⟩ := h.slice
  have H := Lib.hid h
  clear h
  by_cases hd0 : 0 < d.length
  · go_enter Try.func31, Try.ntmps31
    go_wp2_with (at_builtin; refine wpList_app slU8 rfl _ _ rfl w.heap.size _ 0 [] rfl (World.ownsRow_made _ _ 0 (Nat.le_refl _) (Nat.zero_le _) rfl) _ d.length (cu d) rfl (By.alloc H.out _) cu_one (by unfold maxLen; omega) (by omega) (by simp) ?_; intro v2 w2 hown2 hg2 _; have HB2 := Lib.hid (((Below.refl w.heap.size w).alloc (Nat.le_refl _) _).grown hg2 (by simp) (fun k e => by cases e; exact Nat.le_refl _)); have hO2 := (show Ow 5 w2 w.heap.size v2 d by simpa [Ow] using hown2); obtain ⟨ya, yc, rfl⟩ := hO2.by.slice; have HO2 := Lib.hid hO2; clear hown2 hg2 hO2)
    obtain ⟨g, cap2, e, hg1, hg2⟩ := ow_shape' HO2.out hd0
    obtain ⟨rfl, rfl⟩ : ya = some ⟨g, 0, none⟩ ∧ yc = cap2 := by simpa using e
    obtain ⟨B, hB, hBlt⟩ : ∃ B : Nat, arg % (6 * (d.length : Int)) = (B : Int) ∧ B < 6 * d.length := ⟨(arg % (6 * (d.length : Int))).toNat, by have := Int.emod_nonneg arg (b := 6 * (d.length : Int)) (by omega); omega, by have := Int.emod_lt_of_pos arg (b := 6 * (d.length : Int)) (by omega); have := Int.emod_nonneg arg (b := 6 * (d.length : Int)) (by omega); omega⟩
    obtain ⟨x, hx⟩ : ∃ x, d[B / 6]? = some x := ⟨d[B / 6], List.getElem?_eq_getElem (by omega)⟩
    have cx : w2.cell? ⟨g, B / 6, none⟩ = some (.int .u8 (U x)) := by
      have := World.ownsRow.cellAt HO2.out (B / 6) (by omega)
      rw [this]; unfold cu; rw [List.getElem?_map, hx]; rfl
    have fx := World.ownsRow.frozenAt HO2.out (B / 6)
    have hsh := shl_u8_1 .i64 (B % 6) (by omega)
    have HWD : Hid (flipB d arg = d.modify (B / 6) (fun x => x ^^^ (1#8 <<< (B % 6)))) := Lib.hid (by
      unfold flipB
      rw [if_neg (by intro h; rw [h] at hd0; simp at hd0), hB]
      rfl)
    have HXF := Lib.hid (Ow.put HO2.out (B / 6) (fun x => x ^^^ (1#8 <<< (B % 6))) x hx)
    clear hx e
    rw [hB]
    go_wp2_with fail
    go_region
    all_goals go_wp2_with fail
    all_goals go_ret
    all_goals
      rw [flipU x _ (by omega)]
      refine ⟨_, _, rfl, ?_, ?_⟩
      · first | exact Below.setCell HB2.out hg1 _ | exact Bw.drew (Below.setCell HB2.out hg1 _)
      · rw [HWD.out]; first | exact HXF.out | exact HXF.out.keep fun _ _ _ => rfl
  · go_enter Try.func31, Try.ntmps31
    go_wp2_with (at_builtin; refine wpList_app slU8 rfl _ _ rfl w.heap.size _ 0 [] rfl (World.ownsRow_made _ _ 0 (Nat.le_refl _) (Nat.zero_le _) rfl) _ d.length (cu d) rfl (By.alloc H.out _) cu_one (by unfold maxLen; omega) (by omega) (by simp) ?_; intro v2 w2 hown2 hg2 _; have HB2 := Lib.hid (((Below.refl w.heap.size w).alloc (Nat.le_refl _) _).grown hg2 (by simp) (fun k e => by cases e; exact Nat.le_refl _)); have hO2 := (show Ow 5 w2 w.heap.size v2 d by simpa [Ow] using hown2); obtain ⟨ya, yc, rfl⟩ := hO2.by.slice; have HO2 := Lib.hid hO2; clear hown2 hg2 hO2)
    have HWD : Hid (flipB d arg = d) := Lib.hid (by unfold flipB; rw [if_pos (List.eq_nil_of_length_eq_zero (by omega))])
    go_ret
    exact ⟨ya, yc, rfl, HB2.out, by rw [HWD.out]; exact HO2.out⟩
end Go.Proofs.Ytekojekgjfefkaa
