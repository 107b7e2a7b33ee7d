/- The contract of the line code's reference: Encode. -/
import Derived.Test.YtdmfjmdnkfeljaaDoorFrmM
import Derived.Deep.RegionHeld3
namespace Go.Proofs.YtdmfjmdnkfeljaaDoor
open Go.RowKit

theorem by_block {w : World} {b off n c : Nat} {bs : List Byte} (h : By w (.slice (some ⟨b, off, none⟩) n c) bs) {k : Nat} (hk : k < bs.length) : b < w.heap.size := by
  obtain ⟨_, ⟨h0, _⟩ | ⟨bb, off', cp, e, _, _, _, hc⟩⟩ := h.cases
  · rw [h0] at hk; simp at hk
  · obtain ⟨⟨rfl, rfl⟩, _⟩ : (b = bb ∧ off = off') ∧ n = bs.length ∧ c = cp := by simpa using e
    exact World.block_lt_of_cell? w _ (hc k hk)
set_option maxRecDepth 100000 in
set_option maxHeartbeats 8000000 in
theorem refEnc_any (v : Value) (bs : List Byte) (w : World) (hb : By w v bs) (hm : bs.length ≤ 100000) :
    Calls Tryd.prog 43 #[v] w fun e w' => ∃ v', e = .returned v' ∧ Nb w' w.heap.size v' (encS bs) ∧ Below w.heap.size w w' := by
  have HB := Lib.hid hb
  obtain ⟨a, cap, rfl⟩ := hb.slice
  clear hb
  go_enter Tryd.func43, Tryd.ntmps43
  go_wp2_with fail
  refine (refSyms_any w).mono ?_
  rintro e w1 ⟨la, lc, rfl, hn, hb1⟩
  have HB1 := Lib.hid hb1
  obtain ⟨g, goff, gc, e, _, _, hc⟩ := nb_shape hn (by decide)
  obtain ⟨rfl, rfl⟩ : la = some ⟨g, goff, none⟩ ∧ lc = gc := by
    have e' : Value.slice la 20 lc = .slice (some ⟨g, goff, none⟩) 20 gc := e
    simpa using e'
  have HC := Lib.hid hc
  have HBY := Lib.hid (HB.out.below hb1)
  have hz1 : w.heap.size ≤ w1.heap.size := hb1.size
  clear hn hb1 hc e
  go_wp2_with fail
  go_loopw [4, 5] (fun u4 i wr => ∃ k : Nat, k ≤ bs.length ∧ i = .int .i64 (k : Int) ∧ Hid (Nb wr w1.heap.size u4 (encS (bs.take k))) ∧ Hid (Below w1.heap.size w1 wr)) (fun _ i _ => bs.length - (intOf i).toNat)
  case atStart => exact ⟨0, by omega, by go_num, Lib.hid (Nb.nil _ _), Lib.hid (Below.refl _ _)⟩
  case round =>
    obtain ⟨k, hk, rfl, HO, HBW⟩ := hrel
    by_cases hlt : k < bs.length
    · obtain ⟨_, ⟨h0, _⟩ | ⟨bb, off, cp, e, _, _, _, hc⟩⟩ := (HBY.out.below HBW.out).cases
      · rw [h0] at hlt; simp at hlt
      · obtain ⟨rfl, rfl⟩ : a = some ⟨bb, off, none⟩ ∧ cap = cp := by simpa using e
        have hck := hc k hlt
        have HE := Lib.hid (enc_take bs k hlt)
        clear hc e
        generalize hx : bs.getD k 0 = x at *
        have HX := Lib.hid hx; clear hx
        rw [U_eq] at hck
        have hx256 : x.toNat < 256 := x.isLt
        have hd1 : (0 : Int) ≤ (x.toNat : Int) / 16 ∧ (x.toNat : Int) / 16 < 20 := by omega
        have hd2 : ((x.toNat : Int) / 16).toNat = x.toNat / 16 := by omega
        have hd3 : (0 : Int) ≤ (x.toNat : Int) % 16 ∧ (x.toNat : Int) % 16 < 20 := by omega
        have hd4 : ((x.toNat : Int) % 16).toNat = x.toNat % 16 := by omega
        have ht1 : ((x.toNat : Nat) : Int).tdiv 16 = (x.toNat : Int) / 16 := Int.tdiv_eq_ediv_of_nonneg (by omega)
        have ht2 : ((x.toNat : Nat) : Int).tmod 16 = (x.toNat : Int) % 16 := Int.tmod_eq_emod_of_nonneg (by omega)
        have ht3 : IntKind.u8.wrap ((x.toNat : Int) / 16) = (x.toNat : Int) / 16 := by rw [IntKind.wrap_u8]; omega
        have ht4 : IntKind.u8.wrap ((x.toNat : Int) % 16) = (x.toNat : Int) % 16 := by rw [IntKind.wrap_u8]; omega
        have hkk : (0 : Int) ≤ (k : Int) ∧ (k : Int) < (bs.length : Int) := by omega
        have hv1 := cell_later HBW.out (show w1.cell? ⟨g, goff + x.toNat / 16, none⟩ = some (.int .u8 (U (sym (x.toNat / 16)))) from HC.out (x.toNat / 16) (by show _ < 20; omega))
        have hv2 := cell_later HBW.out (show w1.cell? ⟨g, goff + x.toNat % 16, none⟩ = some (.int .u8 (U (sym (x.toNat % 16)))) from HC.out (x.toNat % 16) (by show _ < 20; omega))
        have hl2 : (encS (bs.take k)).length ≤ 200000 := by rw [encS_length, List.length_take]; omega
        generalize hxs : encS (bs.take k) = xs at *
        have HXS := Lib.hid hxs; clear hxs
        obtain ⟨ua, uc, rfl⟩ := HO.out.slice
        have hwr := HBW.out.size
        have HL1 := Lib.hid (show g < w1.heap.size from World.block_lt_of_cell? w1 _ (HC.out 0 (by decide)))
        have HL0 := Lib.hid (show bb < w1.heap.size from by_block HBY.out hlt)
        go_wp2_with fail
        go_region_held3 (fun w' => w'.cell? ⟨bb, off + k, none⟩ = some (.int .u8 (x.toNat : Int)) ∧ w'.cell? ⟨g, goff + x.toNat / 16, none⟩ = some (.int .u8 (U (sym (x.toNat / 16)))) ∧ w'.cell? ⟨g, goff + x.toNat % 16, none⟩ = some (.int .u8 (U (sym (x.toNat % 16))))) (first | (with_reducible exact ⟨hck, hv1, hv2⟩) | (with_reducible exact ⟨hw0, hw1, hw2⟩) | exact ⟨cell_later (show Below wr.heap.size wr _ by (repeat (first | (with_reducible exact Below.refl _ _) | (with_reducible refine Bw.alloc ?_ _) | (with_reducible refine Bw.drewN ?_ _) | (with_reducible refine Bw.drew ?_)))) hck, cell_later (show Below wr.heap.size wr _ by (repeat (first | (with_reducible exact Below.refl _ _) | (with_reducible refine Bw.alloc ?_ _) | (with_reducible refine Bw.drewN ?_ _) | (with_reducible refine Bw.drew ?_)))) hv1, cell_later (show Below wr.heap.size wr _ by (repeat (first | (with_reducible exact Below.refl _ _) | (with_reducible refine Bw.alloc ?_ _) | (with_reducible refine Bw.drewN ?_ _) | (with_reducible refine Bw.drew ?_)))) hv2⟩)
          ((refine step_nb (by rfl) _ _ (by rfl) w1.heap.size _ xs (by rfl) (by exact HO.out.below (by (repeat (first | (with_reducible exact Below.refl _ _) | (with_reducible refine Bw.alloc ?_ _) | (with_reducible refine Bw.drewN ?_ _) | (with_reducible refine Bw.drew ?_))))) _ [sym (x.toNat / 16), sym (x.toNat % 16)] (by rfl) (By_lit _ _ _ _ [sym (x.toNat / 16), sym (x.toNat % 16)] 2 2 (by simp) rfl rfl (Nat.le_refl _) (by decide)) (by show xs.length + 2 ≤ _; omega) (by simp; omega) ?_; intro a' c' w2 hn2 hb2; have hw0 := (hb2.cell (p := ⟨bb, off + k, none⟩) HL0.out).trans (cell_later (show Below wr.heap.size wr _ by (repeat (first | (with_reducible exact Below.refl _ _) | (with_reducible refine Bw.alloc ?_ _) | (with_reducible refine Bw.drewN ?_ _) | (with_reducible refine Bw.drew ?_)))) hck); have hw1 := (hb2.cell (p := ⟨g, goff + x.toNat / 16, none⟩) HL1.out).trans (cell_later (show Below wr.heap.size wr _ by (repeat (first | (with_reducible exact Below.refl _ _) | (with_reducible refine Bw.alloc ?_ _) | (with_reducible refine Bw.drewN ?_ _) | (with_reducible refine Bw.drew ?_)))) hv1); have hw2 := (hb2.cell (p := ⟨g, goff + x.toNat % 16, none⟩) HL1.out).trans (cell_later (show Below wr.heap.size wr _ by (repeat (first | (with_reducible exact Below.refl _ _) | (with_reducible refine Bw.alloc ?_ _) | (with_reducible refine Bw.drewN ?_ _) | (with_reducible refine Bw.drew ?_)))) hv2); have HN2 := Lib.hid hn2; have HB2 := Lib.hid (HBW.out.trans (Below.trans ((show Below wr.heap.size wr _ by (repeat (first | (with_reducible exact Below.refl _ _) | (with_reducible refine Bw.alloc ?_ _) | (with_reducible refine Bw.drewN ?_ _) | (with_reducible refine Bw.drew ?_)))).mono hwr) hb2)); clear hn2 hb2))
        go_wp2_with fail
        go_roundw
        case rel => exact ⟨k + 1, by omega, by go_num, Lib.hid (by rw [HE.out]; exact HN2.out), HB2⟩
        case measure => simp [intOf]; omega
    · obtain rfl : k = bs.length := by omega
      go_wp2_with fail
      go_ret
      exact ⟨_, rfl, by have := HO.out; rw [List.take_length] at this; exact this.lower hz1, HB1.out.trans (HBW.out.mono hz1)⟩
end Go.Proofs.YtdmfjmdnkfeljaaDoor
