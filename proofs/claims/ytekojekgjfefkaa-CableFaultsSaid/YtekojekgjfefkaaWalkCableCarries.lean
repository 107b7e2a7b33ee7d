/- The walk of CableCarries. -/
import Derived.Test.YtekojekgjfefkaaCabK
import Derived.Test.YtekojekgjfefkaaCabL
import Derived.Test.YtekojekgjfefkaaWalkCableFull
import Derived.Test.YtekojekgjfefkaaRow
import Derived.Lib.MinMax
namespace Go.Proofs.Ytekojekgjfefkaa
open Go.RowKit

theorem Rd.uniq {w : World} {s : Nat} {v : Value} {n : Nat} {us vs : List Value} (h : Rd w s v n us) (k : Rd w s v n vs) : us = vs := by
  obtain ⟨h1, a, c, rfl, h2, h3, h4, h5⟩ := h
  obtain ⟨k1, a', c', e, k2, k3, k4, k5⟩ := k
  obtain ⟨rfl, rfl⟩ : a = a' ∧ c = c' := by simpa using e
  apply List.ext_getElem?
  intro i
  rcases Nat.lt_or_ge i us.length with hi | hi
  · obtain ⟨u, hu⟩ : ∃ u, us[i]? = some u := ⟨us[i], List.getElem?_eq_getElem hi⟩
    obtain ⟨x, hx⟩ : ∃ x, vs[i]? = some x := ⟨vs[i]'(by omega), List.getElem?_eq_getElem (by omega)⟩
    cases a with
    | none =>
      have := (h4 rfl).1
      subst this
      rw [h1] at hi; simp at hi
    | some ad =>
      have e1 := (h5 ad rfl i u hu).2
      have e2 := (k5 ad rfl i x hx).2
      rw [hu, hx]
      exact congrArg some (Option.some.inj (e1.symm.trans e2))
  · rw [List.getElem?_eq_none hi, List.getElem?_eq_none (by omega)]
theorem els_by {w : World} {Z : BS} : ∀ {D : BS} {us : List Value} {xs : List Byt}, Els eBy w D Z us xs → Els eBy w (fun _ => False) Z us xs
  | _, _, [], h => h
  | _, _, _ :: _, ⟨cs, rest, _, _, e, _, _, _, h1, h2⟩ => ⟨cs, rest, fun _ => False, fun _ => False, e, fun _ f => f, fun _ f => f, fun _ f => f.elim, h1, els_by h2⟩
theorem bb_by {w : World} {Z : BS} {b off n c : Nat} {l : List Byt} (h : RdS eBy w Z (.slice (some ⟨b, off, none⟩) n c) l) {j : Nat} {o : Byt} (hj : l[j]? = some o) {u : Value} (hc : w.cell? ⟨b, off + j, none⟩ = some u) : ByZ w Z u o := by
  obtain ⟨b', off', va, vc, e, h1, h2⟩ := bb_at h hj
  obtain ⟨rfl, rfl⟩ : b = b' ∧ off = off' := by simpa using e
  obtain rfl := Option.some.inj (hc.symm.trans h1)
  exact h2
theorem sq_els {w : World} {T : TypeId} {H Y : BS} {v : Value} {xs : List Byt} {us : List Value} (h : Sq eBy T w H Y v xs) (hr : Rd w 1 v xs.length us) : Els eBy w (fun _ => False) Y us xs := by
  obtain ⟨K, D, us', _, _, _, h3, h4⟩ := h
  obtain rfl := Rd.uniq (show Rd w 1 v xs.length us' from h3.rd) hr
  exact els_by h4
theorem sq_rd {w : World} {T : TypeId} {H Y : BS} {v : Value} {xs : List Byt} (h : Sq eBy T w H Y v xs) : ∃ us, Rd w 1 v xs.length us ∧ ∀ u ∈ us, u.oneCell' = true := by
  obtain ⟨K, D, us, _, _, _, h3, h4⟩ := h
  exact ⟨us, h3.rd, h4.one⟩
set_option maxHeartbeats 16000000 in
set_option maxRecDepth 100000 in
theorem walkCableCarries (W : World) (v0 v1 : Value) (o0 : IsInt .u8 v0) (o1 : IsSl rBytes W v1) :
    Calls Try.prog 4 #[v0, v1] W fun e w' => e = .returned (.bool true) ∧ Below W.heap.size W w' := by
  obtain ⟨m, rfl, hm⟩ := int_u8' o0
  obtain ⟨l, hl⟩ := o1
  have ho := bbs_of hl
  obtain ⟨oa, oc, rfl, hc1, hc2⟩ := ho.shape
  have HS := Lib.hid ((Held.start0 (fun _ => False) (Old W) (fun _ f _ => f) W).addOld (T := tRd eBy (.slice oa l.length oc) l) (RdS.mono ho fun k h => ⟨h, id⟩))
  have HO := Lib.hid ho
  clear ho hl
  unfold maxLen at hc2
  obtain ⟨q, hq⟩ : ∃ q : Nat, q = m % 100 := ⟨_, rfl⟩
  have hq2 : (m : Int) % 100 = (q : Int) := by omega
  have hq3 : q < 100 := by omega
  have HQ := Lib.hid hq2
  clear hq hq2
  go_enter Try.func4, Try.ntmps4
  go_wp2_with fail
  refine (awake_any W).mono ?_
  rintro e w1 ⟨rfl, hb⟩
  have H1 := Lib.hid (HS.out.own hb); have HB1 := Lib.hid hb; clear hb
  by_cases hbig : 150 < l.length
  · go_wp2_with fail
    refine (awake_any w1).mono ?_
    rintro e w2 ⟨rfl, hb⟩
    have HB2 := Lib.hid (HB1.out.trans (hb.mono HB1.out.size)); clear hb
    go_wp2_with fail
    go_ret
    exact ⟨rfl, HB2.out⟩
  · obtain ⟨d, hd⟩ : ∃ d : Nat, d = 1 + q := ⟨_, rfl⟩
    have hd1 : 1 ≤ d := by omega
    have hd2 : d ≤ 100 := by omega
    have HD : Hid ((1 : Int) + (q : Int) = (d : Int)) := Lib.hid (by omega)
    clear hd
    obtain ⟨l6, hl6⟩ : ∃ l6, l6 = l.take 64 := ⟨_, rfl⟩
    have hl6l : l6.length ≤ 64 := by rw [hl6, List.length_take]; omega
    have hl6m : l6.length ≤ l.length := by rw [hl6, List.length_take]; omega
    have HL6 := Lib.hid hl6; clear hl6
    have HOK := Lib.hid (carC_ok (l := l6) hd1 hd2 hl6l)
    have HSX := Lib.hid (fun i => carS_tick (l := l6) (i := i) hd1)
    go_wp2_with fail
    rw [HQ.out, HD.out]
    refine (new0_h H1.out d hd1 hd2).mono ?_
    rintro e w2 ⟨p, rfl, h⟩
    have H2 := Lib.hid (show Held (fun _ => False) (Old W) W [tCab p (carC d l6 0), tRd eBy (.slice oa l.length oc) l, tSq eBy 32 (.slice none 0 0) (l6.take (0 + 1 - d))] w2 by
      rw [carC_0 d l6 hd1, show 0 + 1 - d = 0 by omega]
      exact ((h.add (T := tSq eBy 32 (.slice none 0 0) []) (Below.refl _ _) (Sq.nil _ _ _ _ _)).pick [1, 0, 2] [_, _, _] (by simp) rfl)); clear h
    go_wp2_with fail
    try simp only [HQ.out, HD.out]
    go_loopw [9, 8] (fun i u8 wr => ∃ (j : Nat) (aa : Option Addr) (an ac : Nat), j ≤ l.length + d ∧ i = .int .i64 (j : Int) ∧ u8 = .slice aa an ac ∧ an ≤ 1000 ∧ Hid (an = (l6.take (j + 1 - d)).length) ∧ Hid (Held (fun _ => False) (Old W) W [tCab p (carC d l6 j), tRd eBy (.slice oa l.length oc) l, tSq eBy 32 (.slice aa an ac) (l6.take (j + 1 - d))] wr)) (fun i _ _ => l.length + d - (intOf i).toNat)
    case atStart => exact ⟨0, none, 0, 0, by omega, by go_num, rfl, by omega, Lib.hid (by rw [show 0 + 1 - d = 0 by omega]; rfl), H2⟩
    case round =>
      clear H2
      obtain ⟨j, aa, an, ac, hj, rfl, rfl, han, HAN, HH⟩ := hrel
      by_cases hlt : j < l.length + d
      · have HST := Lib.hid (HSX.out j)
        obtain ⟨xn, hxn⟩ : ∃ xn, (carA d l6 j).length = xn := ⟨_, rfl⟩
        have hcl := carA_len d l6 j
        have hx1 : xn ≤ 1 := by omega
        have hx0 : j + 1 < d → xn = 0 := fun h => by rw [← hxn, hcl.2 h]; rfl
        have HXN := Lib.hid hxn
        clear hxn hcl
        obtain hs | hs := Nat.lt_or_ge j l6.length
        case' inl =>
          obtain ⟨x, hx⟩ : ∃ x, l6[j]? = some x := ⟨l6[j], List.getElem?_eq_getElem hs⟩
          have hj64 : j < 64 := by omega
          have hjl : j < l.length := by omega
          have hxl : l[j]? = some x := by
            rw [HL6.out, List.getElem?_take, if_pos hj64] at hx; exact hx
          obtain ⟨b, off, va, vc, rfl, k0, hby⟩ := bb_at (HO.out.below HH.out.below) hxl
          have HX := Lib.hid hxl; have HK := Lib.hid k0
          have HSN := Lib.hid (carC_send hd1 hl6l hx)
          clear hx hxl hby
          by_cases hx60 : 60 < x.length
          · go_wp2_with fail
            go_ret
            exact ⟨rfl, HH.out.below⟩
          go_wp2_with fail
          refine (send_h HH.out 0 rfl (HOK.out j) (by simp [carC]) (by show j < _; omega) (by show min j _ < _; omega) (by show 0 < _; omega) _ x (by omega) 1 _ rfl (by decide) (fun H Y h => ⟨Y, fun _ h => .inr h, bb_by h HX.out HK.out⟩)).mono ?_
          rintro e w3 ⟨rfl, h⟩
          rw [HSN.out] at h ⊢
          have H3 := Lib.hid (h.pick [0, 1, 2] [tCab p (carS d l6 j), tRd eBy (.slice (some ⟨b, off, none⟩) l.length oc) l, tSq eBy 32 (.slice aa an ac) (l6.take (j + 1 - d))] (by simp) rfl); clear h
        case' inr =>
          have H3 := HH
          rw [carC_past hs] at H3
          have hlm : j < l.length → 64 ≤ j := fun h => by
            have : l6.length = min 64 l.length := by rw [HL6.out, List.length_take]
            omega
          by_cases hjl : j < l.length
        all_goals
          go_wp2_with fail
          refine (tick_h H3.out 0 rfl (by have := (HOK.out j).fly; show (((trP d l6).take (j + 1)).drop (j + 1 - d)).length ≤ _; rw [List.length_drop, List.length_take, trP_length]; omega) (by show j < _; omega)).mono ?_
          rintro e w4 ⟨a4, n4, rfl, h⟩
          rw [HST.out] at h ⊢
          have H4 := Lib.hid (h.pick [0, 1, 2, 3] [tCab p (carC d l6 (j + 1)), tRd eBy _ l, tSq eBy 32 (.slice aa an ac) (l6.take (j + 1 - d)), tSq eBy 32 (.slice a4 (carA d l6 j).length n4) (carA d l6 j)] (by simp) rfl); clear h
          obtain ⟨K, us, hsl, _, hback⟩ := H4.out.app 2 rfl
          rw [← HAN.out] at hsl
          have HSL := Lib.hid (show Sl w4 K 32 1 _ an us from hsl); have HBK := Lib.hid hback
          clear hsl hback
          obtain ⟨G5, Y5, hsx⟩ := H4.out.get 3 rfl
          obtain ⟨us5, hr5, ho5⟩ := sq_rd (show Sq eBy 32 w4 G5 Y5 _ _ from hsx)
          have HR5 := Lib.hid hr5; have HO5 := Lib.hid ho5
          clear hsx hr5 ho5
          try rw [HXN.out]
          obtain rfl | rfl : xn = 0 ∨ xn = 1 := by omega
          all_goals
            go_wp2_with (at_builtin; refine wpList_apps slBB2 rfl _ _ rfl K (.slice aa an ac) an us (by rfl) (by (repeat (first | (with_reducible exact HSL.out) | (with_reducible refine Sl.alloc ?_ _) | (with_reducible refine Sl.drewN ?_ _) | (with_reducible refine Sl.drew ?_)))) _ _ us5 rfl (by rw [HXN.out] at HR5; exact HR5.out) HO5.out (by unfold maxLen; omega) (by omega) ?_; intro v2 w5 hsl2 hf2; obtain ⟨v2a, v2c, rfl⟩ := hsl2.shape; have H5 := Lib.hid (HBK.out _ w5 us5 (carA d l6 j) _ (Below.refl _ _) (by rw [← HAN.out, HXN.out]; exact hsl2) hf2 (fun Y ho => ⟨fun _ => False, Y, fun _ f => f.elim, fun _ h => .inl h, fun _ f => f.elim, by obtain ⟨H, _, h2⟩ := ho 3 _ (by decide) rfl; exact sq_els h2 HR5.out⟩)); clear hsl2 hf2)
            go_roundw
            case rel => exact ⟨j + 1, v2a, _, v2c, by omega, by go_num, rfl, by have h1 := HAN.out; rw [List.length_take] at h1; omega, Lib.hid (by have h1 := HAN.out; have h2 := HXN.out; rw [← carA_app, List.length_append]; omega), Lib.hid (by rw [← carA_app]; exact H5.out.pick [0, 1, 2] [_, _, _] (by simp) rfl)⟩
            case measure => simp [intOf]; omega
      · obtain ⟨hend, htk⟩ := carC_end (d := d) (l := l6) (i := j) (by omega)
        obtain ⟨G5, Y5, hsx⟩ := HH.out.get 2 rfl
        have hsr := Sq.rd (show Sq eBy 32 wr G5 Y5 _ _ from hsx) eBy_cold
        rw [htk] at hsr
        obtain ⟨mn, hmn⟩ : ∃ mn : Nat, mn = min l.length 64 := ⟨_, rfl⟩
        have hmn1 : mn ≤ l.length := by omega
        have hmn2 : mn ≤ 64 := by omega
        have hmin : min (l.length : Int) 64 = (mn : Int) := by omega
        have HMN := Lib.hid hmn
        have HE := Lib.hid hend; have HSR := Lib.hid hsr
        have HV : Hid (RdS eBy wr (Old W) (.slice oa mn oc) l6) := Lib.hid (by
          have hm6 : l.take 64 = l.take (min l.length 64) := by
            rcases Nat.le_total l.length 64 with h | h
            · rw [Nat.min_eq_left h, List.take_length, List.take_of_length_le h]
            · rw [Nat.min_eq_right h]
          rw [HL6.out, hm6, ← HMN.out]
          exact (HO.out.below HH.out.below).take hmn1)
        clear hend htk hsx hsr hmn
        go_wp2_with fail
        refine (same_any wr _ _ _ _ l6 l6 HSR.out HV.out).mono ?_
        rintro e w3 ⟨rfl, hb⟩
        have H3 := Lib.hid (HH.out.own hb); clear hb
        rw [show (l6 == l6) = true by simp]
        go_wp2_with fail
        refine (flying_h H3.out 0 rfl).mono ?_
        rintro e w4 ⟨rfl, rfl⟩
        rw [HE.out]
        go_wp2_with fail
        refine (lost_h H3.out 0 rfl).mono ?_
        rintro e w4 ⟨rfl, rfl⟩
        rw [show (carC d l6 j).lost = 0 from rfl]
        go_wp2_with fail
        go_ret
        exact ⟨rfl, H3.out.below⟩
end Go.Proofs.Ytekojekgjfefkaa
