/- The walk of CableNew. -/
import Derived.Test.YtekojekgjfefkaaCabV
import Derived.Test.YtekojekgjfefkaaRow
namespace Go.Proofs.Ytekojekgjfefkaa
open Go.RowKit

def okNew (d : Int) (fs : List Flt) : Prop := 1 ≤ d ∧ d ≤ 100 ∧ okF (-1) fs = true
set_option maxHeartbeats 8000000 in
set_option maxRecDepth 100000 in
theorem walkCableNew (W : World) (v0 v1 : Value) (o0 : IsInt .i64 v0) (o1 : IsSl rFlt W v1) :
    Calls Try.prog 3 #[v0, v1] W fun e w' => e = .returned (.bool true) ∧ Below W.heap.size W w' := by
  obtain ⟨d, rfl, _⟩ := o0
  obtain ⟨fs, hfs⟩ := o1
  have hr := flts_of hfs
  obtain ⟨a, c, rfl, hc1, hc2⟩ := hr.shape
  have HR := Lib.hid hr
  have HS := Lib.hid (Held.start0 (fun _ => False) (fun _ => False) (fun _ f _ => f) W)
  clear hr hfs
  go_enter Try.func3, Try.ntmps3
  go_wp2_with fail
  refine (awake_any W).mono ?_
  rintro e w1 ⟨rfl, hb⟩
  have HB1 := Lib.hid hb; have hz1 := hb.size; clear hb
  by_cases hbig : 150 < fs.length
  · go_wp2_with fail
    refine (awake_any w1).mono ?_
    rintro e w2 ⟨rfl, hb⟩
    have HB2 := Lib.hid (HB1.out.trans (hb.mono hz1)); clear hb
    go_wp2_with fail
    go_ret
    exact ⟨rfl, HB2.out⟩
  · by_cases hrg : d < 1 ∨ 100 < d
    · go_wp2_with fail
      refine (new_range w1 d a fs.length c hrg).mono ?_
      rintro e w2 ⟨rfl, rfl⟩
      rcases hrg with hrg | hrg
      all_goals
        go_wp2_with fail
        go_ret
        exact ⟨rfl, HB1.out⟩
    · obtain ⟨n, rfl⟩ := Int.eq_ofNat_of_zero_le (show 0 ≤ d by omega)
      have hn1 : 1 ≤ n := by omega
      have hn2 : n ≤ 100 := by omega
      have b1 : decide ((n : Int) < 1) = false := by simp; omega
      have b2 : decide (100 < (n : Int)) = false := by simp; omega
      go_wp2_with fail
      refine (new_any w1 _ _ fs (HR.out.below HB1.out) (by omega) n hn1 hn2).mono ?_
      rintro e w2 (⟨hok, rfl, hb⟩ | ⟨hok, p, rfl, hm⟩)
      · have HB2 := Lib.hid (HB1.out.trans (hb.mono hz1)); have hz2 := hb.size; clear hb
        have HOK := Lib.hid hok; clear hok
        go_wp2_with fail
        refine (valid_any w2 _ _ fs (HR.out.below HB2.out) (by omega)).mono ?_
        rintro e w3 ⟨rfl, hb⟩
        rw [HOK.out]
        have HB3 := Lib.hid (HB2.out.trans (hb.mono (by omega))); clear hb
        go_wp2_with fail
        go_ret
        exact ⟨rfl, HB3.out⟩
      · have H2 := Lib.hid (Held.made (HS.out.own HB1.out) hm); clear hm
        have HOK := Lib.hid hok; clear hok
        go_wp2_with fail
        refine (valid_any w2 _ _ fs (HR.out.below H2.out.below) (by omega)).mono ?_
        rintro e w3 ⟨rfl, hb⟩
        rw [HOK.out]
        have H3 := Lib.hid (H2.out.own hb); clear hb
        go_wp2_with fail
        refine (up_h H3.out 0 rfl).mono ?_
        rintro e w4 ⟨rfl, rfl⟩
        go_wp2_with fail
        refine (flying_h H3.out 0 rfl).mono ?_
        rintro e w4 ⟨rfl, rfl⟩
        go_wp2_with fail
        refine (lost_h H3.out 0 rfl).mono ?_
        rintro e w4 ⟨rfl, rfl⟩
        go_wp2_with fail
        go_ret
        exact ⟨rfl, H3.out.below⟩
end Go.Proofs.Ytekojekgjfefkaa
