/- cable.Tick. -/
import Derived.Test.YtekojekgjfefkaaCabE
import Derived.Test.YtekojekgjfefkaaApp
namespace Go.Proofs.Ytekojekgjfefkaa
open Go.RowKit

theorem slBB2 : SlT Try.prog 31 32 (.slice none 0 0) 1 24 := ⟨Try.underlying31, info_parts (by kernel_rfl), rfl, by decide⟩
theorem tr_at {w : World} {F Z : BS} {a : Option Addr} {n c : Nat} {l : List (Nat × Byt)} (h : Sq eTr 66 w F Z (.slice a n c) l) {j : Nat} {x : Nat × Byt} (hj : l[j]? = some x) :
    ∃ b o va vc, a = some ⟨b, o, none⟩ ∧ F b ∧ w.cell? ⟨b, o + j * 2, none⟩ = some (.int .i64 (x.1 : Int)) ∧ w.cell? ⟨b, o + j * 2 + 1, none⟩ = some (.slice va x.2.length vc) ∧ ByZ w Z (.slice va x.2.length vc) x.2 := by
  obtain ⟨b, o, cs, A, e, hb, ⟨v, rfl, hv⟩, _, hc⟩ := h.at (by decide) hj
  obtain ⟨va, vc, rfl⟩ := hv.slice
  exact ⟨b, o, va, vc, e, hb, hc 0 _ rfl, hc 1 _ rfl, hv⟩
theorem tr_by {w : World} {F Z : BS} {b o n c : Nat} {l : List (Nat × Byt)} (h : Sq eTr 66 w F Z (.slice (some ⟨b, o, none⟩) n c) l) {j : Nat} {x : Nat × Byt} (hj : l[j]? = some x) {u : Value} (hc : w.cell? ⟨b, o + j * 2 + 1, none⟩ = some u) : ByZ w Z u x.2 := by
  obtain ⟨b', o', va, vc, e, _, _, h1, h2⟩ := tr_at h hj
  obtain ⟨rfl, rfl⟩ : b = b' ∧ o = o' := by simpa using e
  obtain rfl := Option.some.inj (hc.symm.trans h1)
  exact h2
theorem takeWhile_all {α : Type} {p : α → Bool} : ∀ {l : List α} {j : Nat}, (∀ (i : Nat) x, i < j → l[i]? = some x → p x = true) → j ≤ l.length → (l[j]? = none ∨ ∃ x, l[j]? = some x ∧ p x = false) → l.takeWhile p = l.take j
  | [], j, _, hj, _ => by simp
  | a :: l, 0, _, _, h => by
    rcases h with h | ⟨x, h, hp⟩
    · simp at h
    · obtain rfl : a = x := by simpa using h
      simp [hp]
  | a :: l, j + 1, hall, hj, h => by
    have ha := hall 0 a (by omega) rfl
    rw [List.takeWhile_cons, if_pos ha, List.take_succ_cons]
    congr 1
    exact takeWhile_all (fun i x hi hx => hall (i + 1) x (by omega) (by simpa using hx)) (by simpa using hj) (by simpa using h)
theorem delete_held {F Z : BS} {W w : World} {ts : List Th} {v : Value} {xs : List (Nat × Byt)} (h : Held F Z W ts w) (i : Nat) (hi : ts[i]? = some (tSq eTr 66 v xs)) (k : Nat) (hk : k ≤ xs.length) (hl : xs.length ≤ 1000000) :
    Calls Try.prog 29 #[v, .int .i64 0, .int .i64 (k : Int)] w fun e w' => ∃ (a : Option Addr) (c : Nat), e = .returned (.slice a (xs.length - k) c) ∧ Held F Z W (ts.set i (tSq eTr 66 (.slice a (xs.length - k) c) (xs.drop k))) w' := by
  obtain ⟨G, Y, hs, hd, _, _, hb⟩ := h.use i hi
  refine (delete_any _ G Y hd _ xs hs k hk hl).mono fun e w' ⟨v', he, hs', hf⟩ => ?_
  obtain ⟨a, c, rfl⟩ := hs'.shape
  rw [List.length_drop] at he hs'
  refine ⟨a, c, he, ?_⟩
  have := hb w' (tSq eTr 66 (.slice a (xs.length - k) c) (xs.drop k)) [] (Did.same hf hs' hd)
  rwa [List.append_nil] at this
theorem cab_open {p : Nat} {c : Cab} {w : World} {F Z : BS} (h : (tCab p c).on w F Z) : ∃ fv lv, Star [tBlk p (.cells (cabCells c fv lv) 62 (0, 0)), tRd eFlt fv c.faults, tSq eTr 66 lv c.flying] w F Z := by
  obtain ⟨h0, fv, lv, h1, h2, h3⟩ := h
  refine ⟨fv, lv, Star.cons (T := tBlk p _) (F := fun k => k = p) (G := fun k => F k ∧ k ≠ p) ⟨h1, rfl⟩ (Star.cons (T := tRd eFlt fv c.faults) (F := fun _ => False) (G := fun k => F k ∧ k ≠ p) h2 (Star.one (T := tSq eTr _ lv c.flying) h3) (fun _ f => f.elim) (fun _ f => f.elim) fun _ h => h) (fun k a b => b.2 a) (fun k e => by subst e; exact h0) fun _ h => h.1⟩
theorem cab_close {p : Nat} {c : Cab} {w : World} {F Z : BS} {fv lv : Value} (h : Star [tBlk p (.cells (cabCells c fv lv) 62 (0, 0)), tRd eFlt fv c.faults, tSq eTr 66 lv c.flying] w F Z) : (tCab p c).on w F Z := by
  obtain ⟨A, B, h1, h2, hd, hA, hB⟩ := h.uncons
  obtain ⟨A', B', h3, h4, _, _, hB'⟩ := h2.uncons
  obtain ⟨A2, B2, h5, _, _, hA2, _⟩ := h4.uncons
  have h1' : _ ∧ A p := h1
  exact ⟨hA p h1'.2, fv, lv, h1'.1, h3, Sq.mono h5 (fun k hk => ⟨hB k (hB' k (hA2 k hk)), fun e => by subst e; exact hd _ h1'.2 (hB' _ (hA2 _ hk))⟩) fun _ h => h⟩
/-- what Tick leaves: the cable, and what has arrived -/
def TickPost (p : Nat) (c : Cab) (w : World) (F Z : BS) (e : Ending) (w' : World) : Prop :=
  ∃ v, e = .returned v ∧ Did w F Z [tCab p c.tick.2, tSq eBy 32 v c.tick.1] w'
set_option maxHeartbeats 8000000 in
set_option maxRecDepth 100000 in
theorem tick_any (p : Nat) (c : Cab) (hl : c.flying.length ≤ 1000000) (ht : c.ticks < 1000000000) (w : World) (F Z : BS) (hd : Dj F Z) (h : (tCab p c).on w F Z) :
    Calls Try.prog 18 #[.pointer (some ⟨p, 0, none⟩)] w (TickPost p c w F Z) := by
  obtain ⟨fv, lv, hst⟩ := cab_open h
  have hh := Held.start hst hd
  obtain ⟨G2, Y2, hs⟩ := hh.get 2 rfl
  have hs' : Sq eTr 66 w G2 Y2 lv c.flying := hs
  have hrow := hh.blk 0 rfl
  obtain ⟨la, lc, rfl, lc1, lc2, _⟩ := hs'.le
  obtain ⟨_, _, _, c3, _, _, c6⟩ := cab_cells hrow
  obtain ⟨_, f3, _, _, f6⟩ := cab_free hrow
  have hlt := lt_of_block hrow
  have HROW := Lib.hid hrow
  have HH := Lib.hid hh
  clear hst hh hs hs' hrow h
  go_enter Try.func18, Try.ntmps18
  go_wp2_with fail
  have HH1 := Lib.hid ((HH.out.set 0 rfl (.cells (cabCells { c with ticks := c.ticks + 1 } fv (.slice la c.flying.length lc)) 62 (0, 0)) (w' := w.setCell ⟨p, 3, none⟩ (.int .i64 ((c.ticks : Int) + 1))) (by (repeat (first | (with_reducible exact Fr.refl _ _) | exact Or.inl rfl | (with_reducible refine Fr.setCell ?_ ?_ _) | (with_reducible refine Fr.drewN ?_ _) | (with_reducible refine Fr.drew ?_)))) (by (apply row_trans; focus (repeat (first | (with_reducible exact HROW.out) | (with_reducible apply row_set) | (with_reducible apply row_drewN) | (with_reducible apply row_drew)))); simp [cabCells])).add (T := tSq eBy 32 (.slice none 0 0) []) (Below.refl _ _) (Sq.nil _ _ _ _ _))
  go_loopw [20, 3] (fun i l wr => ∃ (j : Nat) (aa : Option Addr) (ac : Nat), j ≤ c.flying.length ∧ i = .int .i64 j ∧ l = .slice aa j ac ∧ Hid (∀ (i : Nat) x, i < j → c.flying[i]? = some x → x.1 ≤ c.ticks + 1) ∧
    Hid (Held F Z w [tBlk p (.cells (cabCells { c with ticks := c.ticks + 1 } fv (.slice la c.flying.length lc)) 62 (0, 0)), tRd eFlt fv c.faults, tSq eTr 66 (.slice la c.flying.length lc) c.flying, tSq eBy 32 (.slice aa j ac) ((c.flying.take j).map (·.2))] wr)) (fun i _ _ => c.flying.length - (intOf i).toNat)
  case atStart => exact ⟨0, none, 0, by omega, rfl, rfl, Lib.hid fun i x h => by omega, HH1⟩
  case round =>
    clear HH HH1
    obtain ⟨j, aa, ac, hj, rfl, rfl, HA, HH⟩ := hrel
    have hrow := HH.out.blk 0 rfl
    obtain ⟨_, _, _, e3, _, _, e6⟩ := cab_cells hrow
    obtain ⟨_, _, _, _, g6⟩ := cab_free hrow
    have hltr := lt_of_block hrow
    clear hrow
    by_cases hjl : j < c.flying.length
    · obtain ⟨x, hx⟩ : ∃ x, c.flying[j]? = some x := ⟨c.flying[j], List.getElem?_eq_getElem hjl⟩
      obtain ⟨G2, Y2, hs⟩ := HH.out.get 2 rfl
      obtain ⟨b, o, va, vc, rfl, _, d0, d1, hby⟩ := tr_at (show Sq eTr 66 wr G2 Y2 _ _ from hs) hx
      have HX := Lib.hid hx
      clear hs hby hx
      by_cases hdue : x.1 ≤ c.ticks + 1
      · have hdb : decide ((c.ticks : Int) + 1 < (x.1 : Int)) = false := by simp; omega
        obtain ⟨K, us, hsl, _, hback⟩ := HH.out.app 3 rfl
        have HSL := Lib.hid (show Sl wr K 32 1 _ ((c.flying.take j).map (·.2)).length us from hsl); have HBK := Lib.hid hback; have D1 := Lib.hid d1
        clear hsl hback
        have htl : ((c.flying.take j).map (·.2)).length = j := by rw [List.length_map, List.length_take]; omega
        have HTL := Lib.hid htl
        rw [htl] at HSL
        clear htl
        go_wp2_with fail
        go_quiet (fail)
        go_wp2_with (at_builtin; refine wpList_apps slBB2 rfl _ _ rfl K (.slice aa j ac) j us (by rfl) (by (repeat (first | (with_reducible exact HSL.out) | (with_reducible refine Sl.alloc ?_ _) | (with_reducible refine Sl.drewN ?_ _) | (with_reducible refine Sl.drew ?_)))) _ 1 [.slice va x.2.length vc] rfl (rd_one _ _ _ _ (by first | rfl | simp)) (by intro u hu; simp at hu; subst hu; rfl) (by unfold maxLen; omega) (by omega) ?_; intro v2 w3 hsl2 hf2; obtain ⟨v2a, v2c, rfl⟩ := hsl2.shape; have H3 := Lib.hid (HBK.out _ w3 _ [x.2] _ (by (repeat (first | (with_reducible exact Below.refl _ _) | (with_reducible refine Bw.alloc ?_ _) | (with_reducible refine Bw.drewN ?_ _) | (with_reducible refine Bw.drew ?_)))) (by rw [HTL.out]; exact hsl2) hf2 (fun Y ho => ⟨fun _ => False, Y, fun _ f => f.elim, fun _ h => .inl h, fun _ f => f.elim, by obtain ⟨H, _, h2⟩ := ho 2 _ (by decide) rfl; exact Els.single (E := eBy) ⟨_, rfl, (tr_by h2 HX.out D1.out).below (by (repeat (first | (with_reducible exact Below.refl _ _) | (with_reducible refine Bw.alloc ?_ _) | (with_reducible refine Bw.drewN ?_ _) | (with_reducible refine Bw.drew ?_))))⟩⟩)); clear hsl2 hf2)
        go_roundw
        case rel => exact ⟨j + 1, _, _, by omega, by go_num, rfl, Lib.hid fun i y hi hy => by
            rcases Nat.lt_or_ge i j with h | h
            · exact HA.out i y h hy
            · obtain rfl : i = j := by omega
              obtain rfl := Option.some.inj (HX.out.symm.trans hy)
              exact hdue, Lib.hid (by
                have htk : (c.flying.take (j + 1)).map (·.2) = (c.flying.take j).map (·.2) ++ [x.2] := by rw [List.take_add_one, HX.out]; simp
                rw [htk]; exact H3.out)⟩
        case measure => simp [intOf]; omega
      · have hdb : decide ((c.ticks : Int) + 1 < (x.1 : Int)) = true := by simp; omega
        have HT : Hid (c.arrived = c.flying.take j) := Lib.hid (takeWhile_all (fun i y hi hy => by simpa using HA.out i y hi hy) hj (.inr ⟨x, HX.out, by simp; omega⟩))
        go_wp2_with fail
        go_quiet (fail)
        go_wp2_with fail
        refine (delete_held (HH.out.own (by (repeat (first | (with_reducible exact Below.refl _ _) | (with_reducible refine Bw.alloc ?_ _) | (with_reducible refine Bw.drewN ?_ _) | (with_reducible refine Bw.drew ?_))))) 2 rfl j (by omega) hl).mono ?_
        rintro e w4 ⟨v4a, v4c, rfl, h4⟩
        have H4 := Lib.hid h4
        clear h4
        have hrow := H4.out.blk 0 rfl
        obtain ⟨_, _, _, _, k6⟩ := cab_free hrow
        have k6' := (cab_cells hrow).2.2.2.2.2.2
        have HROW4 := Lib.hid hrow
        clear hrow
        go_wp2_with fail
        go_ret
        refine ⟨_, rfl, ?_⟩
        have h5 := H4.out.set 0 rfl (.cells (cabCells c.tick.2 fv (.slice v4a (c.flying.length - j) v4c)) 62 (0, 0)) (w' := w4.setCell ⟨p, 6, none⟩ (.slice v4a (c.flying.length - j) v4c)) (by (repeat (first | (with_reducible exact Fr.refl _ _) | exact Or.inl rfl | (with_reducible refine Fr.setCell ?_ ?_ _) | (with_reducible refine Fr.drewN ?_ _) | (with_reducible refine Fr.drew ?_)))) (by (apply row_trans; focus (repeat (first | (with_reducible exact HROW4.out) | (with_reducible apply row_set) | (with_reducible apply row_drewN) | (with_reducible apply row_drew)))); simp [cabCells, Cab.tick])
        have hm : c.tick.1 = (c.flying.take j).map (·.2) := by unfold Cab.tick; rw [HT.out]
        have hf : c.tick.2.flying = c.flying.drop j := by unfold Cab.tick; rw [HT.out]; show c.flying.drop (c.flying.take j).length = _; rw [List.length_take, Nat.min_eq_left hj]
        rw [hm]
        refine (Held.fold (T := tCab p c.tick.2) (show Held F Z w ([tBlk p (.cells (cabCells c.tick.2 fv (.slice v4a (c.flying.length - j) v4c)) 62 (0, 0)), tRd eFlt fv c.faults, tSq eTr 66 (.slice v4a (c.flying.length - j) v4c) (c.flying.drop j)] ++ [_]) _ from h5) fun G Y _ hst => ?_).did
        rw [← hf] at hst
        exact cab_close hst
    · have HT : Hid (c.arrived = c.flying.take j) := Lib.hid (takeWhile_all (fun i y hi hy => by simpa using HA.out i y hi hy) hj (.inl (List.getElem?_eq_none (by omega))))
      go_wp2_with fail
      refine (delete_held (HH.out.own (by (repeat (first | (with_reducible exact Below.refl _ _) | (with_reducible refine Bw.alloc ?_ _) | (with_reducible refine Bw.drewN ?_ _) | (with_reducible refine Bw.drew ?_))))) 2 rfl j (by omega) hl).mono ?_
      rintro e w4 ⟨v4a, v4c, rfl, h4⟩
      have H4 := Lib.hid h4
      clear h4
      have hrow := H4.out.blk 0 rfl
      obtain ⟨_, _, _, _, k6⟩ := cab_free hrow
      have k6' := (cab_cells hrow).2.2.2.2.2.2
      have HROW4 := Lib.hid hrow
      clear hrow
      go_wp2_with fail
      go_ret
      refine ⟨_, rfl, ?_⟩
      have h5 := H4.out.set 0 rfl (.cells (cabCells c.tick.2 fv (.slice v4a (c.flying.length - j) v4c)) 62 (0, 0)) (w' := w4.setCell ⟨p, 6, none⟩ (.slice v4a (c.flying.length - j) v4c)) (by (repeat (first | (with_reducible exact Fr.refl _ _) | exact Or.inl rfl | (with_reducible refine Fr.setCell ?_ ?_ _) | (with_reducible refine Fr.drewN ?_ _) | (with_reducible refine Fr.drew ?_)))) (by (apply row_trans; focus (repeat (first | (with_reducible exact HROW4.out) | (with_reducible apply row_set) | (with_reducible apply row_drewN) | (with_reducible apply row_drew)))); simp [cabCells, Cab.tick])
      have hm : c.tick.1 = (c.flying.take j).map (·.2) := by unfold Cab.tick; rw [HT.out]
      have hf : c.tick.2.flying = c.flying.drop j := by unfold Cab.tick; rw [HT.out]; show c.flying.drop (c.flying.take j).length = _; rw [List.length_take, Nat.min_eq_left hj]
      rw [hm]
      refine (Held.fold (T := tCab p c.tick.2) (show Held F Z w ([tBlk p (.cells (cabCells c.tick.2 fv (.slice v4a (c.flying.length - j) v4c)) 62 (0, 0)), tRd eFlt fv c.faults, tSq eTr 66 (.slice v4a (c.flying.length - j) v4c) (c.flying.drop j)] ++ [_]) _ from h5) fun G Y _ hst => ?_).did
      rw [← hf] at hst
      exact cab_close hst
end Go.Proofs.Ytekojekgjfefkaa
