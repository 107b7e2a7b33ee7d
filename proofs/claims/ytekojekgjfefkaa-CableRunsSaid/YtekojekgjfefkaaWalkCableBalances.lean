/- The walk of CableBalances. -/
import Derived.Test.YtekojekgjfefkaaCabK
import Derived.Test.YtekojekgjfefkaaWalkCableFull
import Derived.Test.YtekojekgjfefkaaRow
namespace Go.Proofs.Ytekojekgjfefkaa
open Go.RowKit

/-- what one operation does to the counts -/
theorem send_bal (c : Cab) (d : Byt) : ((c.send d).2.flying.length = c.flying.length ∧ (c.send d).2.lost = c.lost + 1) ∨ ((c.send d).2.flying.length = c.flying.length + 1 ∧ (c.send d).2.lost = c.lost) ∨ ((c.send d).2.flying.length = c.flying.length + 2 ∧ (c.send d).2.lost = c.lost) := by
  unfold Cab.send
  by_cases h1 : c.up = false ∨ c.fault.kind = 1
  · rw [if_pos h1]; exact .inl ⟨rfl, rfl⟩
  · rw [if_neg h1]
    by_cases h2 : 64 < c.flying.length + c.copies
    · rw [if_pos h2]; exact .inl ⟨rfl, rfl⟩
    · rw [if_neg h2]
      have := c.copies_le
      simp only [List.length_append, List.length_replicate]
      rcases (show c.copies = 1 ∨ c.copies = 2 by omega) with e | e
      · rw [e]; exact .inr (.inl ⟨rfl, trivial⟩)
      · rw [e]; exact .inr (.inr ⟨rfl, trivial⟩)
theorem send_const (c : Cab) (d : Byt) : (c.send d).2.sent = c.sent + 1 ∧ (c.send d).2.ticks = c.ticks ∧ (c.send d).2.faults = c.faults := by
  unfold Cab.send
  split
  · exact ⟨rfl, rfl, rfl⟩
  · split <;> exact ⟨rfl, rfl, rfl⟩
theorem tick_bal (c : Cab) : c.tick.1.length + c.tick.2.flying.length = c.flying.length ∧ c.tick.2.lost = c.lost ∧ c.tick.2.sent = c.sent ∧ c.tick.2.ticks = c.ticks + 1 ∧ c.tick.2.faults = c.faults := by
  refine ⟨?_, rfl, rfl, rfl, rfl⟩
  unfold Cab.tick
  have h : c.arrived.length ≤ c.flying.length := (List.takeWhile_sublist _).length_le
  simp only [List.length_map, List.length_drop]
  omega
/-- the cable after j operations, small -/
structure Bal (fs : List Flt) (j inn out : Nat) (c : Cab) : Prop where
  ok : c.Ok
  fs : c.faults = fs
  tk : c.ticks ≤ j
  se : c.sent ≤ j
  ls : c.lost ≤ 2 * j
  eq : inn = out + c.flying.length + c.lost
  le : inn ≤ 2 * j
theorem cop_by {w : World} {Z : BS} {b off n c : Nat} {l : List COp} (h : RdS eCOp w Z (.slice (some ⟨b, off, none⟩) n c) l) {j : Nat} {o : COp} (hj : l[j]? = some o) {u : Value} (hc : w.cell? ⟨b, off + j * 2 + 1, none⟩ = some u) : ByZ w Z u o.data := by
  obtain ⟨b', off', va, vc, e, _, h1, h2⟩ := cop_at h hj
  obtain ⟨rfl, rfl⟩ : b = b' ∧ off = off' := by simpa using e
  obtain rfl := Option.some.inj (hc.symm.trans h1)
  exact h2
set_option maxHeartbeats 16000000 in
set_option maxRecDepth 100000 in
theorem walkCableBalances (W : World) (v0 v1 v2 : Value) (o0 : IsInt .u8 v0) (o1 : IsSl rFlt W v1) (o2 : IsSl rCOp W v2) :
    Calls Try.prog 8 #[v0, v1, v2] W fun e w' => e = .returned (.bool true) ∧ Below W.heap.size W w' := by
  obtain ⟨m, rfl, hm⟩ := int_u8' o0
  obtain ⟨fs, hfs⟩ := o1
  obtain ⟨ops, hops⟩ := o2
  have hr := flts_of hfs
  have ho := cops_of hops
  obtain ⟨fa, fc, rfl, _, _⟩ := hr.shape
  obtain ⟨oa, oc, rfl, _, _⟩ := ho.shape
  have HR := Lib.hid hr
  have HS := Lib.hid ((Held.start0 (fun _ => False) (Old W) (fun _ f _ => f) W).addOld (T := tRd eCOp (.slice oa ops.length oc) ops) (RdS.mono ho fun k h => ⟨h, id⟩))
  have HO := Lib.hid ho
  clear hr ho hfs hops
  obtain ⟨q, hq⟩ : ∃ q : Nat, q = m % 9 := ⟨_, rfl⟩
  have hq2 : (m : Int) % 9 = (q : Int) := by omega
  have hq3 : q < 9 := by omega
  have HQ := Lib.hid hq2
  clear hq hq2
  go_enter Try.func8, Try.ntmps8
  go_wp2_with fail
  refine (awake_any W).mono ?_
  rintro e w1 ⟨rfl, hb⟩
  have H1 := Lib.hid (HS.out.own hb); have HB1 := Lib.hid hb; clear hb
  go_wp2_with fail
  refine (few_any w1 _ _ ops (HO.out.below HB1.out) fa fs.length fc).mono ?_
  rintro e w2 ⟨rfl, hb⟩
  have H2 := Lib.hid (H1.out.own hb); clear hb H1
  have HB2 := Lib.hid H2.out.below
  by_cases hfew : fewB ops fs.length = true
  · have hf2 := hfew
    unfold fewB at hf2
    simp only [Bool.and_eq_true, decide_eq_true_eq, List.all_eq_true] at hf2
    obtain ⟨⟨hsm, hol⟩, hfl⟩ := hf2
    have HSM := Lib.hid hsm; clear hsm
    go_wp2_with fail
    rw [HQ.out]
    have e9 : (1 : Int) + (q : Int) = ((1 + q : Nat) : Int) := by omega
    rw [e9]; clear e9
    refine (new_any w2 _ _ fs (HR.out.below HB2.out) (by omega) (1 + q) (by omega) (by omega)).mono ?_
    rintro e w3 (⟨hok, rfl, hb⟩ | ⟨hok, p, rfl, hmd⟩)
    · have HB3 := Lib.hid (HB2.out.trans (hb.mono HB2.out.size)); clear hb
      go_wp2_with fail
      go_ret
      exact ⟨rfl, HB3.out⟩
    · have H3 := Lib.hid ((H2.out.made hmd).pick [1, 0] [tCab p (Cab.new (1 + q) fs), tRd eCOp (.slice oa ops.length oc) ops] (by simp) rfl)
      have HOK := Lib.hid (Cab.new_ok (delay := 1 + q) (by omega) (by omega) hok)
      clear hmd hok
      go_wp2_with fail
      try simp only [HQ.out]
      go_loopw [37, 9, 10, 11] (fun i u9 u10 u11 wr => ∃ (j inn out x : Nat) (c : Cab), j ≤ ops.length ∧ i = .int .i64 (j : Int) ∧ u9 = .int .i64 (inn : Int) ∧ u10 = .int .i64 (out : Int) ∧ u11 = .int .i64 (x : Int) ∧ x ≤ j ∧ Hid (Bal fs j inn out c) ∧ Hid (Held (fun _ => False) (Old W) W [tCab p c, tRd eCOp (.slice oa ops.length oc) ops] wr)) (fun i _ _ _ _ => ops.length - (intOf i).toNat)
      case atStart => exact ⟨0, 0, 0, 0, _, by omega, by go_num, by go_num, by go_num, by go_num, by omega, Lib.hid ⟨HOK.out, rfl, Nat.zero_le _, Nat.zero_le _, Nat.zero_le _, rfl, Nat.zero_le _⟩, H3⟩
      case round =>
        clear H3
        obtain ⟨j, inn, out, x, c, hj, rfl, rfl, rfl, rfl, hxj, HBL, HH⟩ := hrel
        have hz : W.heap.size ≤ wr.heap.size := HH.out.below.size
        have hin := HBL.out.le
        have hineq := HBL.out.eq
        have hout : out ≤ 2 * j := by omega
        clear hineq
        by_cases hlt : j < ops.length
        · obtain ⟨o, ho⟩ : ∃ o, ops[j]? = some o := ⟨ops[j], List.getElem?_eq_getElem hlt⟩
          obtain ⟨b, off, va, vc, rfl, k0, k1, _⟩ := cop_at (HO.out.below HH.out.below) ho
          have hol60 : o.data.length ≤ 60 := by simpa using HSM.out o (List.mem_of_getElem? ho)
          have HOO := Lib.hid ho; have HK1 := Lib.hid k1
          have HHA := Lib.hid (HH.out.alloc (.cells #[.int .i64 o.kind, .slice va o.data.length vc] 49))
          clear ho
          have hkind : o.kind = 0 ∨ o.kind = 1 ∨ o.kind = 2 ∨ o.kind = 3 ∨ (o.kind ≠ 0 ∧ o.kind ≠ 1 ∧ o.kind ≠ 2 ∧ o.kind ≠ 3) := by omega
          have HK2 := Lib.hid (show (wr.alloc (.cells #[.int .i64 o.kind, .slice va o.data.length vc] 49)).cell? ⟨b, off + j * 2 + 1, none⟩ = some (.slice va o.data.length vc) from (World.cell?_of_block ((below_alloc wr _).block _ (World.block_lt_of_cell? wr _ k1))).trans k1)
          have hfl := HBL.out.ok.fly
          have hls := HBL.out.ls
          have HEQ := Lib.hid HBL.out.eq
          rcases hkind with hk | hk | hk | hk | ⟨hk0, hk1, hk2, hk3⟩
          · have s0 : (o.kind == 0) = true := by simpa using hk
            obtain ⟨c', hc'⟩ : ∃ c', c' = (c.send o.data).2 := ⟨_, rfl⟩
            have hbal := send_bal c o.data
            have hcon := send_const c o.data
            have hok' := Cab.send_ok HBL.out.ok o.data
            rw [← hc'] at hbal hcon hok'
            have HCN := Lib.hid hcon
            have HC' := Lib.hid hc'
            have HOK' := Lib.hid hok'
            have hfl' := hok'.fly
            have HHB := Lib.hid hbal
            clear hcon hc' hok' hbal hk
            go_wp2_with fail
            refine (flying_h HHA.out 0 rfl).mono ?_
            rintro e w3 ⟨rfl, rfl⟩
            go_wp2_with fail
            refine (send_h HHA.out 0 rfl HBL.out.ok (by rw [HBL.out.fs]; omega) (by have := HBL.out.tk; omega) (by have := HBL.out.se; omega) (by omega) _ o.data (by omega) 1 _ rfl (by decide) (fun H Y h => ⟨Y, fun _ h => .inr h, cop_by h HOO.out HK2.out⟩)).mono ?_
            rintro e w4 ⟨rfl, h⟩
            rw [← HC'.out] at h
            have H4 := Lib.hid (h.pick [0, 1] [tCab p c', tRd eCOp (.slice (some ⟨b, off, none⟩) ops.length oc) ops] (by simp) rfl); clear h
            go_wp2_with fail
            refine (flying_h H4.out 0 rfl).mono ?_
            rintro e w5 ⟨rfl, rfl⟩
            have hlost' : c'.lost ≤ 2 * (j + 1) := by have := HHB.out; omega
            have HBE : Hid (∃ u, u = inn + (1 + (if c'.flying.length = c.flying.length + 2 then 1 else 0)) ∧ Bal fs (j + 1) u out c') := Lib.hid (by
              have h1 := HHB.out; have h2 := HCN.out; have h3 := HBL.out
              refine ⟨_, rfl, HOK'.out, h2.2.2.trans h3.fs, by rw [h2.2.1]; have := h3.tk; omega, by rw [h2.1]; have := h3.se; omega, by omega, ?_, ?_⟩
              · have := h3.eq; split <;> omega
              · have := h3.le; split <;> omega)
            by_cases hdb : c'.flying.length = c.flying.length + 2
            · rw [hdb]
              have hlo : c'.lost = c.lost := by have := HHB.out; omega
              go_wp2_with fail
              refine (flying_h H4.out 0 rfl).mono ?_
              rintro e w5 ⟨rfl, rfl⟩
              rw [hdb]
              go_wp2_with fail
              refine (lost_h H4.out 0 rfl).mono ?_
              rintro e w5 ⟨rfl, rfl⟩
              have HB2 : Hid (Bal fs (j + 1) (inn + 1 + 1) out c') := Lib.hid (by
                obtain ⟨u, hu, hB⟩ := HBE.out
                rw [if_pos hdb] at hu
                rw [hu] at hB; exact hB)
              have ht : ((inn : Int) + 1 + 1 != (out : Int) + ((c.flying.length + 2 : Nat) : Int) + (c'.lost : Int)) = false := by have := HB2.out.eq; simp; omega
              clear hdb
              go_wp2_with fail
              go_roundw
              case rel => exact ⟨j + 1, inn + 1 + 1, out, x + 1, c', by omega, by go_num, by go_num, by go_num, by go_num, by omega, HB2, H4⟩
              case measure => simp [intOf]; omega
            · go_wp2_with fail
              refine (flying_h H4.out 0 rfl).mono ?_
              rintro e w5 ⟨rfl, rfl⟩
              have hng : decide ((c.flying.length : Int) + 1 < (c'.flying.length : Int)) = false := by have := HHB.out; simp; omega
              go_wp2_with fail
              refine (flying_h H4.out 0 rfl).mono ?_
              rintro e w5 ⟨rfl, rfl⟩
              go_wp2_with fail
              refine (lost_h H4.out 0 rfl).mono ?_
              rintro e w5 ⟨rfl, rfl⟩
              have HB2 : Hid (Bal fs (j + 1) (inn + 1) out c') := Lib.hid (by
                obtain ⟨u, hu, hB⟩ := HBE.out
                rw [if_neg hdb] at hu
                rw [hu] at hB; exact hB)
              have ht : ((inn : Int) + 1 != (out : Int) + (c'.flying.length : Int) + (c'.lost : Int)) = false := by have := HB2.out.eq; simp; omega
              go_wp2_with fail
              go_roundw
              case rel => exact ⟨j + 1, inn + 1, out, x + 1, c', by omega, by go_num, by go_num, by go_num, by go_num, by omega, HB2, H4⟩
              case measure => simp [intOf]; omega
          · have s0 : (o.kind == 0) = false := by rw [hk]; rfl
            have s1 : (o.kind == 1) = true := by simpa using hk
            obtain ⟨c', hc'⟩ : ∃ c', c' = c.tick.2 := ⟨_, rfl⟩
            obtain ⟨arr, harr⟩ : ∃ arr, arr = c.tick.1 := ⟨_, rfl⟩
            have hbal := tick_bal c
            have hok' := Cab.tick_ok HBL.out.ok
            rw [← hc', ← harr] at hbal
            rw [← hc'] at hok'
            have HC' := Lib.hid hc'; have HA' := Lib.hid harr
            have HOK' := Lib.hid hok'
            have hfl' := hok'.fly
            have hb1 := hbal.1
            have HHB := Lib.hid hbal
            have hal : arr.length ≤ 64 := by omega
            have hlo : c'.lost ≤ 2 * j := by rw [hbal.2.1]; exact hls
            clear hc' harr hok' hbal hk hb1
            have HBE : Hid (Bal fs (j + 1) inn (out + arr.length) c') := Lib.hid (by
              have h2 := HHB.out; have h3 := HBL.out
              exact ⟨HOK'.out, h2.2.2.2.2.trans h3.fs, by rw [h2.2.2.2.1]; have := h3.tk; omega, by rw [h2.2.2.1]; have := h3.se; omega, by omega, by have := h3.eq; omega, by have := h3.le; omega⟩)
            go_wp2_with fail
            refine (tick_h HHA.out 0 rfl (by omega) (by have := HBL.out.tk; omega)).mono ?_
            rintro e w3 ⟨a3, n3, rfl, h⟩
            rw [← HC'.out, ← HA'.out] at h
            rw [← HA'.out]
            have H4 := Lib.hid (h.pick [0, 1] [tCab p c', tRd eCOp (.slice (some ⟨b, off, none⟩) ops.length oc) ops] (by simp) rfl); clear h
            go_wp2_with fail
            refine (flying_h H4.out 0 rfl).mono ?_
            rintro e w5 ⟨rfl, rfl⟩
            go_wp2_with fail
            refine (lost_h H4.out 0 rfl).mono ?_
            rintro e w5 ⟨rfl, rfl⟩
            have ht : ((inn : Int) != (out : Int) + (arr.length : Int) + (c'.flying.length : Int) + (c'.lost : Int)) = false := by have := HBE.out.eq; simp; omega
            go_wp2_with fail
            go_roundw
            case rel => exact ⟨j + 1, inn, out + arr.length, x, c', by omega, by go_num, by go_num, by go_num, by go_num, by omega, HBE, H4⟩
            case measure => simp [intOf]; omega
          · have s0 : (o.kind == 0) = false := by rw [hk]; rfl
            have s1 : (o.kind == 1) = false := by rw [hk]; rfl
            have s2 : (o.kind == 2) = true := by simpa using hk
            have HBE : Hid (Bal fs (j + 1) inn out c.cut) := Lib.hid (by
              have h3 := HBL.out
              exact ⟨Cab.cut_ok h3.ok, h3.fs, by show c.ticks ≤ _; have := h3.tk; omega, by show c.sent ≤ _; have := h3.se; omega, by show c.lost + c.flying.length ≤ _; have := h3.le; have := h3.eq; omega, by show inn = out + 0 + (c.lost + c.flying.length); have := h3.eq; omega, by have := h3.le; omega⟩)
            clear hk
            go_wp2_with fail
            refine (cut_h HHA.out 0 rfl (by omega) (by omega)).mono ?_
            rintro e w3 ⟨rfl, h⟩
            have H4 := Lib.hid (h.pick [0, 1] [tCab p c.cut, tRd eCOp (.slice (some ⟨b, off, none⟩) ops.length oc) ops] (by simp) rfl); clear h
            go_wp2_with fail
            refine (flying_h H4.out 0 rfl).mono ?_
            rintro e w5 ⟨rfl, rfl⟩
            rw [show c.cut.flying.length = 0 from rfl]
            go_wp2_with fail
            refine (up_h H4.out 0 rfl).mono ?_
            rintro e w5 ⟨rfl, rfl⟩
            rw [show c.cut.up = false from rfl]
            go_wp2_with fail
            refine (flying_h H4.out 0 rfl).mono ?_
            rintro e w5 ⟨rfl, rfl⟩
            rw [show c.cut.flying.length = 0 from rfl]
            go_wp2_with fail
            refine (lost_h H4.out 0 rfl).mono ?_
            rintro e w5 ⟨rfl, rfl⟩
            rw [show c.cut.lost = c.lost + c.flying.length from rfl]
            have ht : ((inn : Int) != (out : Int) + ((c.lost + c.flying.length : Nat) : Int)) = false := by have := HEQ.out; simp; omega
            have ht' : ((inn : Int) != (out : Int) + 0 + ((c.lost + c.flying.length : Nat) : Int)) = false := by have := HEQ.out; simp; omega
            go_wp2_with fail
            go_roundw
            case rel => exact ⟨j + 1, inn, out, x, c.cut, by omega, by go_num, by go_num, by go_num, by go_num, by omega, HBE, H4⟩
            case measure => simp [intOf]; omega
          · have s0 : (o.kind == 0) = false := by rw [hk]; rfl
            have s1 : (o.kind == 1) = false := by rw [hk]; rfl
            have s2 : (o.kind == 2) = false := by rw [hk]; rfl
            have s3 : (o.kind == 3) = true := by simpa using hk
            have HBE : Hid (Bal fs (j + 1) inn out c.mend) := Lib.hid (by
              have h3 := HBL.out
              exact ⟨Cab.mend_ok h3.ok, h3.fs, by show c.ticks ≤ _; have := h3.tk; omega, by show c.sent ≤ _; have := h3.se; omega, by show c.lost ≤ _; omega, h3.eq, by have := h3.le; omega⟩)
            clear hk
            go_wp2_with fail
            refine (mend_h HHA.out 0 rfl).mono ?_
            rintro e w3 ⟨rfl, h⟩
            have H4 := Lib.hid (h.pick [0, 1] [tCab p c.mend, tRd eCOp (.slice (some ⟨b, off, none⟩) ops.length oc) ops] (by simp) rfl); clear h
            go_wp2_with fail
            refine (flying_h H4.out 0 rfl).mono ?_
            rintro e w5 ⟨rfl, rfl⟩
            rw [show c.mend.flying = c.flying from rfl]
            go_wp2_with fail
            refine (lost_h H4.out 0 rfl).mono ?_
            rintro e w5 ⟨rfl, rfl⟩
            rw [show c.mend.lost = c.lost from rfl]
            have ht : ((inn : Int) != (out : Int) + (c.flying.length : Int) + (c.lost : Int)) = false := by have := HEQ.out; simp; omega
            go_wp2_with fail
            go_roundw
            case rel => exact ⟨j + 1, inn, out, x, c.mend, by omega, by go_num, by go_num, by go_num, by go_num, by omega, HBE, H4⟩
            case measure => simp [intOf]; omega
          · have s0 : (o.kind == 0) = false := by simpa using hk0
            have s1 : (o.kind == 1) = false := by simpa using hk1
            have s2 : (o.kind == 2) = false := by simpa using hk2
            have s3 : (o.kind == 3) = false := by simpa using hk3
            have HBE : Hid (Bal fs (j + 1) inn out c) := Lib.hid ⟨HBL.out.ok, HBL.out.fs, by have := HBL.out.tk; omega, by have := HBL.out.se; omega, by have := HBL.out.ls; omega, HBL.out.eq, by have := HBL.out.le; omega⟩
            go_wp2_with fail
            refine (flying_h HHA.out 0 rfl).mono ?_
            rintro e w5 ⟨rfl, rfl⟩
            go_wp2_with fail
            refine (lost_h HHA.out 0 rfl).mono ?_
            rintro e w5 ⟨rfl, rfl⟩
            have ht : ((inn : Int) != (out : Int) + (c.flying.length : Int) + (c.lost : Int)) = false := by have := HEQ.out; simp; omega
            go_wp2_with fail
            go_roundw
            case rel => exact ⟨j + 1, inn, out, x, c, by omega, by go_num, by go_num, by go_num, by go_num, by omega, HBE, HHA⟩
            case measure => simp [intOf]; omega
        · have hE := HBL.out
          clear hE
          go_wp2_with fail
          go_ret
          exact ⟨rfl, HH.out.below⟩
  · have hf' : fewB ops fs.length = false := by simpa using hfew
    clear hfew
    go_wp2_with fail
    refine (awake_any w2).mono ?_
    rintro e w3 ⟨rfl, hb⟩
    have HB3 := Lib.hid (HB2.out.trans (hb.mono HB2.out.size)); clear hb
    go_wp2_with fail
    go_ret
    exact ⟨rfl, HB3.out⟩
end Go.Proofs.Ytekojekgjfefkaa
