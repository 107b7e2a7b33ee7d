/- The walk of FrameDamage. -/
import Derived.Test.YtdmfjmdnkfeljaaDoorFrmV
import Derived.Test.YtdmfjmdnkfeljaaDoorFrmK
import Derived.Test.YtdmfjmdnkfeljaaDoorFrmJ
import Derived.Test.YtdmfjmdnkfeljaaDoorFrmT
import Derived.Test.YtdmfjmdnkfeljaaDoorFrnK
import Derived.Test.YtdmfjmdnkfeljaaDoorCrcS
namespace Go.Proofs.YtdmfjmdnkfeljaaDoor
open Go.RowKit

theorem damage_law (p : Pk) (bs : List Byte) (hl : bs.length = (encP p).length) (h17 : 17 ≤ (encP p).length) (hm : (encP p).length ≤ 81) (h1 : ¬ (errors (encP p) bs).1 < 1) (h : ¬ (3 < (errors (encP p) bs).1 ∧ 32 < (errors (encP p) bs).2)) :
    (decP bs).2 = 9 ∨ (decP bs).2 = 3 := by
  have hs : isSealed bs = false := seen (bodyP p) bs hl (show (encP p).length ≤ 104 by omega) (show 4 ≤ (encP p).length by omega) (show 1 ≤ (errors (encP p) bs).1 by omega) (show (errors (encP p) bs).1 ≤ 3 ∨ (errors (encP p) bs).2 ≤ 32 by omega)
  rcases decP_cases bs with ⟨h0, _⟩ | ⟨_, _, e⟩ | ⟨_, _, ⟨_, e⟩ | ⟨e, _⟩⟩
  · omega
  · exact .inr (by rw [e])
  · exact .inl (by rw [e])
  · rw [hs] at e; cases e
set_option maxRecDepth 100000 in
set_option maxHeartbeats 8000000 in
theorem walkFrameDamage (W : World) (v0 v1 v2 : Value) (o0 : IsPk W v0) (o1 : IsBytes W v1) (o2 : IsInt .u8 v2) (ht : Tabs W) :
    Calls Tryd.prog 7 #[v0, v1, v2] W fun e w' => e = .returned (.bool true) ∧ Below W.heap.size W w' := by
  obtain ⟨p, a, c, rfl, hby⟩ := o0
  obtain ⟨x, rfl, hx⟩ := o2
  obtain ⟨more, hmo⟩ := o1
  have hxb := bounds_u8 hx
  obtain ⟨m, rfl⟩ : ∃ m : Nat, x = (m : Int) := ⟨x.toNat, by omega⟩
  obtain ⟨ma, mc, rfl⟩ := hmo.slice
  have HT := Lib.hid ht; have HBY := Lib.hid hby; have HMO := Lib.hid hmo
  clear ht hby hmo hx
  go_enter Tryd.func7, Tryd.ntmps7
  go_wp2_with fail
  obtain ⟨w0, hw0⟩ : ∃ w0, w0 = W.alloc (.cells #[.int .u8 (U p.kind), .int .i64 p.cls, .int .i64 p.number, .int .i64 p.value, .slice a p.pay.length c] 24) := ⟨_, rfl⟩
  rw [← hw0]
  have HR0 := Lib.hid (show w0.heap[W.heap.size]? = some (.cells #[.int .u8 (U p.kind), .int .i64 p.cls, .int .i64 p.number, .int .i64 p.value, .slice a p.pay.length c] 24) by rw [hw0]; exact heap_alloc_new W _)
  have HB0 := Lib.hid (show Below W.heap.size W w0 by rw [hw0]; exact below_alloc W _)
  clear hw0
  refine (awake_any w0 (HT.out.below HB0.out)).mono ?_
  rintro e w1 ⟨rfl, hb⟩
  have HR1 := Lib.hid ((hb.block _ (lt_of_block HR0.out)).trans HR0.out)
  have HB1 := Lib.hid (HB0.out.trans (hb.mono HB0.out.size)); clear hb
  obtain ⟨b0, b1, b2, b3, b4⟩ := pk_cells HR1.out
  by_cases hg : Good p
  · have HG := Lib.hid hg
    clear hg
    go_wp2_with fail
    refine (encF_good p a c w1 (HBY.out.below HB1.out) (HT.out.below HB1.out).tab HG.out).mono ?_
    rintro e w4 ⟨v4, rfl, hn4, hb⟩
    have HB4 := Lib.hid (HB1.out.trans (hb.mono HB1.out.size))
    have HE4 := Lib.hid hn4.by
    obtain ⟨a4, c4, rfl⟩ := hn4.slice
    clear hb hn4 b0 b1 b2 b3 b4
    have hpl := HG.out.pay
    have hle : (encP p).length ≤ 81 ∧ 17 ≤ (encP p).length := by rw [encP_length]; omega
    obtain ⟨hle1, hle2⟩ := hle
    by_cases hbig : 100 < more.length
    · generalize (encP p).length = L at *
      go_wp2_with fail
      go_ret
      exact ⟨rfl, HB4.out⟩
    · have HLAW := Lib.hid (fun (bs : List Byte) (hl : bs.length = (encP p).length) => damage_law p bs hl hle2 hle1)
      obtain ⟨L, hL⟩ : ∃ L, L = (encP p).length := ⟨_, rfl⟩
      rw [← hL] at HE4 hle1 hle2 ⊢
      rw [← hL] at HLAW
      have HL := Lib.hid hL
      clear hL
      go_wp2_with fail
      refine (clone_any _ (encP p) w4 HE4.out (by rw [← HL.out]; omega)).mono ?_
      rintro e w5 ⟨v5, rfl, hn5, hb⟩
      obtain ⟨g, off, cap, rfl, hgB, _, _⟩ := nb_shape hn5 (by rw [← HL.out]; omega)
      rw [← HL.out] at hn5 ⊢
      have HN5 := Lib.hid (show ∃ bs : List Byte, bs.length = L ∧ Nb w5 w4.heap.size (.slice (some ⟨g, off, none⟩) L cap) bs from ⟨_, HL.out.symm, hn5⟩)
      have HB5 := Lib.hid hb
      clear hn5 hb
      go_wp2_with fail
      go_loopw [35] (fun i wr => ∃ k : Nat, k ≤ more.length ∧ i = .int .i64 (k : Int) ∧ Hid (∃ bs : List Byte, bs.length = L ∧ Nb wr w4.heap.size (.slice (some ⟨g, off, none⟩) L cap) bs) ∧ Hid (Below w4.heap.size w4 wr)) (fun i _ => more.length - (intOf i).toNat)
      case atStart => exact ⟨0, by omega, by go_num, HN5, HB5⟩
      case round =>
        obtain ⟨k, hk, rfl, HO, HBr⟩ := hrel
        obtain ⟨bs, hbl, hnb⟩ := HO.out
        by_cases hlt : k < more.length
        · obtain ⟨_, ⟨hn, _⟩ | ⟨b, off2, cap2, e, h0, _, _, hc⟩⟩ := (HMO.out.below (HB4.out.trans (HBr.out.mono HB4.out.size))).cases
          · rw [hn] at hlt; exact absurd hlt (Nat.not_lt_zero _)
          · obtain ⟨rfl, rfl⟩ : ma = some ⟨b, off2, none⟩ ∧ mc = cap2 := by simpa using e
            have hck := hc k hlt
            clear hc e
            generalize more.getD k 0 = y at *
            have hd2 : ((m : Int) + (k : Int)).toNat = m + k := by omega
            by_cases hin : m + k < L
            · obtain ⟨g', off', c', e, hgB', hfree, hcell⟩ := nb_shape hnb (by omega)
              obtain ⟨⟨rfl, rfl⟩, _, rfl⟩ : (g = g' ∧ off = off') ∧ L = bs.length ∧ cap = c' := by simpa using e
              have hcx := hcell (m + k) (by omega)
              have hfx := hfree (off + (m + k))
              clear hcell hfree e hgB'
              obtain ⟨z, hz⟩ : ∃ z, z = bs.getD (m + k) 0 := ⟨_, rfl⟩
              rw [← hz] at hcx
              clear hz
              have HPUT := Lib.hid (hnb.put (j := m + k) (by omega) (z ^^^ y))
              have HBL := Lib.hid hbl
              have hd1 : (0 : Int) ≤ (m : Int) + (k : Int) ∧ (m : Int) + (k : Int) < (L : Int) := by omega
              clear hnb hbl
              go_wp2_with fail
              go_roundw
              case rel => exact ⟨k + 1, by omega, by go_num, Lib.hid ⟨_, by rw [List.length_set]; exact HBL.out, HPUT.out⟩, Lib.hid (Below.setCell HBr.out hgB _)⟩
              case measure => simp [intOf]; omega
            · clear hnb hbl
              go_wp2_with fail
              go_roundw
              case rel => exact ⟨k + 1, by omega, by go_num, HO, HBr⟩
              case measure => simp [intOf]; omega
        · obtain rfl : k = more.length := by omega
          have HN := Lib.hid hnb.by
          have HLB := Lib.hid (HLAW.out bs hbl)
          have HBL := Lib.hid hbl
          clear hnb HO hbl HN5 HB5
          go_wp2_with fail
          refine (errors_any _ _ (encP p) bs wr (HE4.out.below HBr.out) HN.out (by rw [← HL.out]; omega)).mono ?_
          rintro e w6 ⟨rfl, hd⟩
          have HB6 := Lib.hid (below_dr HBr.out hd)
          have HN6 := Lib.hid (HN.out.below ((below_dr (Below.refl wr.heap.size wr) hd)))
          clear hd
          generalize errors (encP p) bs = r at *
          obtain ⟨n, bu⟩ := r
          dsimp only
          have HLB : Hid (¬ n < 1 → ¬ (3 < n ∧ 32 < bu) → (decP bs).2 = 9 ∨ (decP bs).2 = 3) := Lib.hid (fun h1 h2 => HLB.out (by dsimp only; omega) (fun h => h2 h))
          have HBW := Lib.hid (HB4.out.trans (HB6.out.mono HB4.out.size))
          by_cases h1 : n < 1
          · go_wp2_with fail
            go_ret
            exact ⟨rfl, HBW.out⟩
          · by_cases h3 : 3 < n
            · by_cases h32 : 32 < bu
              · go_wp2_with fail
                go_ret
                exact ⟨rfl, HBW.out⟩
              · have HD := Lib.hid (HLB.out h1 (fun h => h32 h.2))
                go_wp2_with fail
                refine (decF_any _ bs w6 HN6.out (HT.out.below HBW.out).tab (by rw [HBL.out]; omega)).mono ?_
                rintro e w7 ⟨ra, rc, rfl, hn7, hb⟩; have HB7 := Lib.hid (HBW.out.trans (hb.mono HBW.out.size)); clear hb hn7; obtain ⟨d, hd⟩ : ∃ d, d = decP bs := ⟨_, rfl⟩; rw [← hd] at HD ⊢; clear hd; obtain ⟨⟨rk, rcl, rnu, rva, rpa⟩, rf⟩ := d; dsimp only; (have HD : Hid (rf = 9 ∨ rf = 3) := HD); (rcases HD.out with h9 | h9); all_goals (subst h9; go_wp2_with fail; go_ret; exact ⟨rfl, Bw.alloc HB7.out _⟩)
            · have HD := Lib.hid (HLB.out h1 (fun h => h3 h.1))
              go_wp2_with fail
              refine (decF_any _ bs w6 HN6.out (HT.out.below HBW.out).tab (by rw [HBL.out]; omega)).mono ?_
              rintro e w7 ⟨ra, rc, rfl, hn7, hb⟩; have HB7 := Lib.hid (HBW.out.trans (hb.mono HBW.out.size)); clear hb hn7; obtain ⟨d, hd⟩ : ∃ d, d = decP bs := ⟨_, rfl⟩; rw [← hd] at HD ⊢; clear hd; obtain ⟨⟨rk, rcl, rnu, rva, rpa⟩, rf⟩ := d; dsimp only; (have HD : Hid (rf = 9 ∨ rf = 3) := HD); (rcases HD.out with h9 | h9); all_goals (subst h9; go_wp2_with fail; go_ret; exact ⟨rfl, Bw.alloc HB7.out _⟩)
  · have HG := Lib.hid hg
    clear hg
    go_wp2_with fail
    refine (encF_bad p a c w1 HG.out).mono ?_
    rintro e w4 ⟨rfl, hb⟩
    have HB4 := Lib.hid (HB1.out.trans (hb.mono HB1.out.size))
    clear hb
    go_wp2_with fail
    go_ret
    exact ⟨rfl, HB4.out⟩
end Go.Proofs.YtdmfjmdnkfeljaaDoor
