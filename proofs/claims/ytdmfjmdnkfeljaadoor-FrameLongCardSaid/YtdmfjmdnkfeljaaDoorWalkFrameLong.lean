/- The walk of FrameLong. -/
import Derived.Test.YtdmfjmdnkfeljaaDoorFrnD
import Derived.Test.YtdmfjmdnkfeljaaDoorFrnE
import Derived.Test.YtdmfjmdnkfeljaaDoorFrmV
namespace Go.Proofs.YtdmfjmdnkfeljaaDoor
open Go.RowKit

set_option maxRecDepth 100000 in
set_option maxHeartbeats 8000000 in
theorem walkFrameLong (W : World) (v0 v1 : Value) (o0 : IsInt .u8 v0) (o1 : IsInt .u8 v1) (ht : Tabs W) :
    Calls Tryd.prog 9 #[v0, v1] W fun e w' => e = .returned (.bool true) ∧ Below W.heap.size W w' := by
  obtain ⟨u, rfl, hu⟩ := o0
  obtain ⟨v, rfl, hv⟩ := o1
  have hub := bounds_u8 hu
  have hvb := bounds_u8 hv
  clear hu hv
  have HT := Lib.hid ht
  clear ht
  obtain ⟨n, hn⟩ : ∃ n : Nat, u % 201 = (n : Int) := ⟨(u % 201).toNat, by omega⟩
  obtain ⟨m, hm⟩ : ∃ m : Nat, v % 16 = (m : Int) := ⟨(v % 16).toNat, by omega⟩
  have hn200 : n ≤ 200 := by omega
  have hm15 : m < 16 := by omega
  go_enter Tryd.func9, Tryd.ntmps9
  go_wp2_with fail
  refine (awake_any W HT.out).mono ?_
  rintro e w1 ⟨rfl, hb⟩
  have H1 := Lib.hid ((Held.start0 (fun _ => False) (Old W) (fun _ f => f.elim) W).own hb); clear hb
  go_wp2_with fail
  refine (control_0 w1 (H1.out.tabs HT.out).val).mono ?_
  rintro e w' ⟨rfl, rfl⟩
  go_wp2_with fail
  refine (control_1 w1 (H1.out.tabs HT.out).val).mono ?_
  rintro e w' ⟨rfl, rfl⟩
  go_wp2_with fail
  refine (data_any m hm15 w1 (H1.out.tabs HT.out).val).mono ?_
  rintro e w' ⟨rfl, rfl⟩
  have HX := Lib.hid (isData_sym hm15)
  obtain ⟨x, hx⟩ : ∃ x, x = sym m := ⟨_, rfl⟩
  rw [← hx] at HX ⊢
  clear hx
  go_wp2_with fail
  refine (newSc_h H1.out).mono ?_
  rintro e w2 ⟨sb, rfl, h2⟩
  have H2 := Lib.hid h2; clear h2
  go_wp2_with fail
  have hps := push_h H2.out 0 rfl 49 (H2.out.tabs HT.out) (by decide)
  rw [show U (49 : Byte) = 49 from rfl] at hps
  refine hps.mono ?_
  clear hps
  rintro e w3 ⟨r, f, ra, rc, rfl, hf, hr, h3⟩
  have hp0 : Sc.new.push 49 = (longS x 0, none) := by rw [push_49]; rfl
  rw [hp0] at hf h3
  obtain rfl : f = false := by cases f with | false => rfl | true => cases hf
  obtain rfl := hr rfl
  have H3 := Lib.hid (h3.pick [0] [tSc sb (longS x 0)] (by simp) rfl)
  clear h3 hf hp0 hr
  go_wp2_with fail
  rw [hn]
  go_loopw [55] (fun i wr => ∃ k : Nat, k ≤ n ∧ i = .int .i64 (k : Int) ∧ Hid (Held (fun _ => False) (Old W) W [tSc sb (longS x k)] wr)) (fun i _ => n - (intOf i).toNat)
  case atStart => exact ⟨0, by omega, by go_num, Lib.hid (H3.out.own (by (repeat (first | (with_reducible exact Below.refl _ _) | (with_reducible refine Bw.alloc ?_ _) | (with_reducible refine Bw.drewN ?_ _) | (with_reducible refine Bw.drew ?_)))))⟩
  case round =>
    obtain ⟨k, hk, rfl, HH⟩ := hrel
    by_cases hlt : k < n
    · go_wp2_with fail
      refine (push_h HH.out 0 rfl x (HH.out.tabs HT.out) (by rw [longS_bad]; split <;> omega)).mono ?_
      rintro e w4 ⟨r, f, ra, rc, rfl, hf, hr, h4⟩
      rw [longS_push HX.out] at hf h4
      obtain rfl : f = false := by cases f with | false => rfl | true => cases hf
      obtain rfl := hr rfl
      have H4 := Lib.hid (h4.pick [0] [tSc sb (longS x (k + 1))] (by simp) rfl)
      clear h4 hf hr
      go_wp2_with fail
      refine (push_nil x _).mono ?_
      rintro e w5 ⟨rfl, hb5⟩
      have H5 := Lib.hid ((H4.out.own (show Below w4.heap.size w4 (w4.alloc (.cells #[.int .u8 (U Pk.zero.kind), .int .i64 Pk.zero.cls, .int .i64 Pk.zero.number, .int .i64 Pk.zero.value, .slice ra Pk.zero.pay.length rc] 24)) by (repeat (first | (with_reducible exact Below.refl _ _) | (with_reducible refine Bw.alloc ?_ _) | (with_reducible refine Bw.drewN ?_ _) | (with_reducible refine Bw.drew ?_))))).own hb5)
      clear hb5
      by_cases h162 : 162 ≤ k
      · have hlb : ((longS x (k + 1)).bad : Int) = 1 := by rw [longS_bad, if_pos (by omega)]; rfl
        go_wp2_with fail
        refine (bad_h (H5.out.own (by (repeat (first | (with_reducible exact Below.refl _ _) | (with_reducible refine Bw.alloc ?_ _) | (with_reducible refine Bw.drewN ?_ _) | (with_reducible refine Bw.drew ?_))))) 0 rfl).mono ?_
        rintro e w' ⟨rfl, rfl⟩
        rw [hlb]
        go_wp2_with fail
        refine (bad_nil _).mono ?_
        rintro e w' ⟨rfl, rfl⟩
        go_wp2_with fail
        go_roundw
        case rel => exact ⟨k + 1, by omega, by go_num, Lib.hid (H5.out.own (by (repeat (first | (with_reducible exact Below.refl _ _) | (with_reducible refine Bw.alloc ?_ _) | (with_reducible refine Bw.drewN ?_ _) | (with_reducible refine Bw.drew ?_)))))⟩
        case measure => simp [intOf]; omega
      · have hlb : ((longS x (k + 1)).bad : Int) = 0 := by rw [longS_bad, if_neg (by omega)]; rfl
        go_wp2_with fail
        refine (bad_h (H5.out.own (by (repeat (first | (with_reducible exact Below.refl _ _) | (with_reducible refine Bw.alloc ?_ _) | (with_reducible refine Bw.drewN ?_ _) | (with_reducible refine Bw.drew ?_))))) 0 rfl).mono ?_
        rintro e w' ⟨rfl, rfl⟩
        rw [hlb]
        go_wp2_with fail
        refine (bad_nil _).mono ?_
        rintro e w' ⟨rfl, rfl⟩
        go_wp2_with fail
        go_roundw
        case rel => exact ⟨k + 1, by omega, by go_num, Lib.hid (H5.out.own (by (repeat (first | (with_reducible exact Below.refl _ _) | (with_reducible refine Bw.alloc ?_ _) | (with_reducible refine Bw.drewN ?_ _) | (with_reducible refine Bw.drew ?_)))))⟩
        case measure => simp [intOf]; omega
    · go_wp2_with fail
      have hps := push_h HH.out 0 rfl 50 (HH.out.tabs HT.out) (by rw [longS_bad]; split <;> omega)
      rw [show U (50 : Byte) = 50 from rfl] at hps
      refine hps.mono ?_
      clear hps
      rintro e w4 ⟨r, f, ra, rc, rfl, hf, hr, h4⟩
      rw [longS_stop HX.out] at hf h4
      obtain rfl : f = false := by cases f with | false => rfl | true => cases hf
      obtain rfl := hr rfl
      have H4 := Lib.hid (h4.pick [0] [tSc sb ⟨false, [], 1⟩] (by simp) rfl)
      clear h4 hf hr
      go_wp2_with fail
      refine (bad_h (H4.out.own (by (repeat (first | (with_reducible exact Below.refl _ _) | (with_reducible refine Bw.alloc ?_ _) | (with_reducible refine Bw.drewN ?_ _) | (with_reducible refine Bw.drew ?_))))) 0 rfl).mono ?_
      rintro e w' ⟨rfl, rfl⟩
      go_wp2_with fail
      go_ret
      exact ⟨rfl, (H4.out.own (by (repeat (first | (with_reducible exact Below.refl _ _) | (with_reducible refine Bw.alloc ?_ _) | (with_reducible refine Bw.drewN ?_ _) | (with_reducible refine Bw.drew ?_))))).below⟩
end Go.Proofs.YtdmfjmdnkfeljaaDoor
