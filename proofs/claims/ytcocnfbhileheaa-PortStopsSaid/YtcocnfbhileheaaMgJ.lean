/- Several texts in one: The contracts of bytes.Equal at equal bytes, of bytes.HasPrefix at a beginning. The contract of pair.prefix: what was taken is a beginning of what was offered, and nothing has overflowed. The laws' arguments that are lists of faults; the events one behind the other (plain). -/
import Derived.Test.YtcocnfbhileheaaMgH
import Derived.Laws.BytesArg
import Derived.Test.YtcocnfbhileheaaMgI
import Derived.Test.YtcocnfbhileheaaMgB
import Derived.Test.YtcocnfbhileheaaMgA
/- The contracts of bytes.Equal at equal bytes, of bytes.HasPrefix at a beginning. -/
namespace Go.Proofs.Ytcocnfbhileheaa
open Go.RowKit

/-- bytes as a string -/
def strB (bs : Bytes) : ByteArray := strOfNums (bs.map fun x => U x)
theorem run_convert_by {w : World} {a : Option Addr} {n c : Nat} {bs : Bytes} (h : By w (.slice a n c) bs) : (convert 31 9 (.slice a n c)).run Try.prog w = .ok (.string (strB bs)) w := by
  obtain ⟨_, ⟨rfl, a', c', e, h1, h2⟩ | ⟨b, off, c', e, h0, h1, h2, h3⟩⟩ := h.cases
  · obtain ⟨rfl, rfl, rfl⟩ : a = a' ∧ n = 0 ∧ c = c' := by simpa using e
    cases a with
    | none => exact run_convert_bytes_nil w _ _ Try.underlying31 Try.underlying5 _ _ _ Try.underlying9
    | some a =>
      rw [run_convert_bytes_string w _ _ _ _ _ _ Try.underlying31 Try.underlying5 Try.underlying9]
      have hl : (loadCells a 0).run Try.prog w = .ok (([] : List Int).map (Value.int .u8)).toArray w := by
        simpa using run_loadCells_list (P := Try.prog) w a [] (fun j v hj => by simp at hj)
      rw [run_bytesToString w a 0 c [] hl]
      rfl
  · obtain ⟨rfl, rfl, rfl⟩ : a = some ⟨b, off, none⟩ ∧ n = bs.length ∧ c = c' := by simpa using e
    refine run_convert_bytes_arg w _ _ Try.underlying31 Try.underlying5 b off _ _ (bs.map fun x => U x) (by simp) (fun i hi => ?_) _ Try.underlying9
    rw [h3 i hi]
    simp [List.getD, List.getElem?_map, List.getElem?_eq_getElem hi]
set_option maxRecDepth 100000 in
set_option maxHeartbeats 4000000 in
theorem bytesEqual_refl {u v : Value} {bs : Bytes} {w : World} (hu : By w u bs) (hv : By w v bs) :
    Calls Try.prog 25 #[u, v] w fun e w' => e = .returned (.bool true) ∧ w = w' := by
  obtain ⟨a, ca, rfl⟩ := hu.slice
  obtain ⟨b, cb, rfl⟩ := hv.slice
  have h1 := run_convert_by hu
  have h2 := run_convert_by hv
  generalize strB bs = s at h1 h2
  have h3 : (s.toList == s.toList) = true := by simp
  clear hu hv
  go_enter Try.func25, Try.ntmps25
  go_wp2_with fail
  go_ret
  exact ⟨by simp, rfl⟩
set_option maxRecDepth 100000 in
set_option maxHeartbeats 4000000 in
theorem hasPrefix_c {u v : Value} {xs ys : Bytes} {w : World} (hu : By w u xs) (hv : By w v ys) (h : ys <+: xs) :
    Calls Try.prog 53 #[u, v] w fun e w' => e = .returned (.bool true) ∧ w = w' := by
  obtain ⟨a, ca, rfl⟩ := hu.slice
  obtain ⟨b, cb, rfl⟩ := hv.slice
  obtain ⟨_, hca⟩ := hu.parts
  have hmx : xs.length ≤ maxLen := hu.cases.1
  have hle : ys.length ≤ xs.length := h.length_le
  have hge : decide ((ys.length : Int) ≤ (xs.length : Int)) = true := by simp; omega
  have ht : By w (.slice a ys.length ca) ys := by
    have := hu.take (n := ys.length) hle
    rwa [List.prefix_iff_eq_take.1 h |>.symm] at this
  have HE := Lib.hid (bytesEqual_refl ht hv)
  clear hu hv ht h
  go_enter Try.func53, Try.ntmps53
  go_wp2_with (go_at_call 25; refine HE.out.mono ?_; rintro e w' ⟨rfl, rfl⟩)
  go_ret
  exact ⟨by simp, rfl⟩
end Go.Proofs.Ytcocnfbhileheaa

/- The contract of pair.prefix: what was taken is a beginning of what was offered, and nothing has overflowed. -/
namespace Go.Proofs.Ytcocnfbhileheaa
open Go.RowKit

theorem quiet_add_own {P : Program} {f : FuncId} {args : Array Value} {w : World} {a n : Nat} {v : Value}
    (h : Calls P f args (w.drewN (a + n)) fun e w' => e = .returned v ∧ w.drewN (a + n) = w') :
    Calls P f args (w.drewN (a + n)) fun e w' => e = .returned v ∧ ∃ m, w' = w.drewN (a + m) := h.mono fun _ _ ⟨he, hm⟩ => ⟨he, n, hm.symm⟩
theorem els_u8 {w : World} {Z : BS} : ∀ {F : BS} {us : List Value} {xs : Bytes}, Els eU8 w F Z us xs → us = cu xs
  | _, _, [], h => h
  | _, _, x :: xs, ⟨cs, rest, _, _, e, _, _, _, h1, h2⟩ => by
    rw [e, show cs = [.int .u8 (U x)] from h1, els_u8 h2]; rfl
theorem sq_by8 {w : World} {T : TypeId} {F Z : BS} {v : Value} {xs : Bytes} (h : Sq eU8 T w F Z v xs) : By w v xs := by
  obtain ⟨K, D, us, _, _, _, h3, h4⟩ := h
  have := h3.rd
  rwa [els_u8 h4] at this
section
variable {F Z : BS} {W w : World} {ts : List Th} {x N : Nat} {P : Pr}
theorem Held.bb_at {v : Value} {l : List Bytes} (h : Held F Z W ts w) (i : Nat) (hi : ts[i]? = some (tBB v l)) {c : Nat} {xs : Bytes} (hc : l[c]? = some xs) :
    ∃ b off cap vc, v = .slice (some ⟨b, off, none⟩) l.length cap ∧ l.length ≤ cap ∧ w.cell? ⟨b, off + c, none⟩ = some vc ∧ By w vc xs := by
  obtain ⟨G, Y, hsq⟩ := h.get i hi
  obtain ⟨a, cap, rfl, hcap, _, _⟩ := Sq.le (show Sq (eSq eU8 5) 31 w G Y v l from hsq)
  obtain ⟨b, off, cs, A, rfl, _, ⟨vc, rfl, hr⟩, _, hk⟩ := Sq.at (show Sq (eSq eU8 5) 31 w G Y _ l from hsq) (by decide) hc
  have := hk 0 vc rfl
  simp only [eSq, Nat.mul_one, Nat.add_zero] at this
  exact ⟨b, off, cap, vc, rfl, hcap, this, sq_by8 hr⟩
set_option maxRecDepth 100000 in
set_option maxHeartbeats 16000000 in
theorem pairPrefix_c (hok : P.Ok N) (hg : ∀ c, c < 2 → P.r.got.getD c [] <+: P.l.off.getD c [] ∧ P.l.got.getD c [] <+: P.r.off.getD c []) (ho : P.l.prt.overflows = 0 ∧ P.r.prt.overflows = 0) (h : Held F Z W (tPair x P :: ts) w) :
    Calls Try.prog 22 #[.pointer (some ⟨x, 0, none⟩)] w fun e w' => e = .returned (.bool true) ∧ ∃ n, w' = w.drewN n := by
  obtain ⟨⟨pl, pr, fl, fr, ol, or', gl, gr⟩, h0⟩ := h.pair'
  obtain ⟨c0, c1, _, _, c4, c5, c6, c7⟩ := pair_cells (h0.blk 0 rfl)
  have HH := Lib.hid h0
  have hl2 := hok.l.o2; have hl3 := hok.l.g2; have hr2 := hok.r.o2; have hr3 := hok.r.g2
  have hget : ∀ (l : List Bytes) (c : Nat), l.length = 2 → c < 2 → l[c]? = some (l.getD c []) := fun l c hl hc => getD_of (by omega)
  obtain ⟨b4, o4, k4, v40, e4, q4, d40, y40⟩ := h0.bb_at 5 rfl (hget _ 0 hl2 (by decide))
  obtain ⟨b4', o4', k4', v41, e4', _, d41, y41⟩ := h0.bb_at 5 rfl (hget _ 1 hl2 (by decide))
  obtain ⟨b5, o5, k5, v50, e5, q5, d50, y50⟩ := h0.bb_at 6 rfl (hget _ 0 hr2 (by decide))
  obtain ⟨b5', o5', k5', v51, e5', _, d51, y51⟩ := h0.bb_at 6 rfl (hget _ 1 hr2 (by decide))
  obtain ⟨b6, o6, k6, v60, e6, q6, d60, y60⟩ := h0.bb_at 7 rfl (hget _ 0 hl3 (by decide))
  obtain ⟨b6', o6', k6', v61, e6', _, d61, y61⟩ := h0.bb_at 7 rfl (hget _ 1 hl3 (by decide))
  obtain ⟨b7, o7, k7, v70, e7, q7, d70, y70⟩ := h0.bb_at 8 rfl (hget _ 0 hr3 (by decide))
  obtain ⟨b7', o7', k7', v71, e7', _, d71, y71⟩ := h0.bb_at 8 rfl (hget _ 1 hr3 (by decide))
  dsimp only at c0 c1 c4 c5 c6 c7 e4 e5 e6 e7 e4' e5' e6' e7'
  rw [hl2] at e4 e4' q4
  rw [hr2] at e5 e5' q5
  rw [hl3] at e6 e6' q6
  rw [hr3] at e7 e7' q7
  subst e4 e5 e6 e7
  obtain ⟨⟨rfl, rfl⟩, rfl⟩ : (b4 = b4' ∧ o4 = o4') ∧ k4 = k4' := by simpa using e4'
  obtain ⟨⟨rfl, rfl⟩, rfl⟩ : (b5 = b5' ∧ o5 = o5') ∧ k5 = k5' := by simpa using e5'
  obtain ⟨⟨rfl, rfl⟩, rfl⟩ : (b6 = b6' ∧ o6 = o6') ∧ k6 = k6' := by simpa using e6'
  obtain ⟨⟨rfl, rfl⟩, rfl⟩ : (b7 = b7' ∧ o7 = o7') ∧ k7 = k7' := by simpa using e7'
  clear e4' e5' e6' e7' hget hl2 hl3 hr2 hr3
  simp only [Nat.add_zero] at d40 d50 d60 d70
  have HP50 := Lib.hid (fun n => (hasPrefix_c (y50.drewN n) (y60.drewN n) (hg 0 (by decide)).2))
  have HP51 := Lib.hid (fun n => (hasPrefix_c (y51.drewN n) (y61.drewN n) (hg 1 (by decide)).2))
  have HP40 := Lib.hid (fun n => (hasPrefix_c (y40.drewN n) (y70.drewN n) (hg 0 (by decide)).1))
  have HP41 := Lib.hid (fun n => (hasPrefix_c (y41.drewN n) (y71.drewN n) (hg 1 (by decide)).1))
  have HO := Lib.hid ho
  have hw1 : IntKind.i64.wrap 1 = 1 := by decide
  have hw0 : IntKind.i64.wrap 0 = 0 := by decide
  clear y40 y41 y50 y51 y60 y61 y70 y71 h0 h hok hg ho
  go_enter Try.func22, Try.ntmps22
  go_wp2_with fail
  go_loopw [5] (fun i wr => ∃ q : Nat, q ≤ 2 ∧ i = .int .i64 (q : Int) ∧ ∃ n, wr = w.drewN n) (fun i _ => 2 - (intOf i).toNat)
  case atStart => exact ⟨0, by decide, rfl, 0, rfl⟩
  case round =>
    obtain ⟨q, hq, rfl, n, rfl⟩ := hrel
    obtain rfl | rfl | rfl : q = 0 ∨ q = 1 ∨ q = 2 := by omega
    · go_wp2_with fail
      go_loopw [8] (fun i wr => ∃ q : Nat, q ≤ 2 ∧ i = .int .i64 (q : Int) ∧ ∃ n, wr = w.drewN n) (fun i _ => 2 - (intOf i).toNat)
      case atStart => exact ⟨0, by decide, rfl, _, rfl⟩
      case round =>
        obtain ⟨q, hq, rfl, n, rfl⟩ := hrel
        obtain rfl | rfl | rfl : q = 0 ∨ q = 1 ∨ q = 2 := by omega
        · go_wp2_with fail
          go_quiet ((go_at_call 53; exact quiet_add_own (HP50.out _)))
          go_wp2_with fail
          go_roundw
          case rel => exact ⟨1, by decide, by go_num, _, rfl⟩
          case measure => simp [intOf]
        · go_wp2_with fail
          go_quiet ((go_at_call 53; exact quiet_add_own (HP51.out _)))
          go_wp2_with fail
          go_roundw
          case rel => exact ⟨2, by decide, by go_num, _, rfl⟩
          case measure => simp [intOf]
        · go_wp2_with fail
          go_roundw
          case rel => exact ⟨1, by decide, by go_num, _, rfl⟩
          case measure => simp [intOf]
    · go_wp2_with fail
      go_loopw [8] (fun i wr => ∃ q : Nat, q ≤ 2 ∧ i = .int .i64 (q : Int) ∧ ∃ n, wr = w.drewN n) (fun i _ => 2 - (intOf i).toNat)
      case atStart => exact ⟨0, by decide, rfl, _, rfl⟩
      case round =>
        obtain ⟨q, hq, rfl, n, rfl⟩ := hrel
        obtain rfl | rfl | rfl : q = 0 ∨ q = 1 ∨ q = 2 := by omega
        · go_wp2_with fail
          go_quiet ((go_at_call 53; exact quiet_add_own (HP40.out _)))
          go_wp2_with fail
          go_roundw
          case rel => exact ⟨1, by decide, by go_num, _, rfl⟩
          case measure => simp [intOf]
        · go_wp2_with fail
          go_quiet ((go_at_call 53; exact quiet_add_own (HP41.out _)))
          go_wp2_with fail
          go_roundw
          case rel => exact ⟨2, by decide, by go_num, _, rfl⟩
          case measure => simp [intOf]
        · go_wp2_with fail
          go_roundw
          case rel => exact ⟨2, by decide, by go_num, _, rfl⟩
          case measure => simp [intOf]
    · go_wp2_with fail
      refine (overflows_any (HH.out.drewN n) 1 rfl).mono ?_
      rintro e w' ⟨rfl, rfl⟩
      rw [HO.out.1]
      go_wp2_with fail
      refine (overflows_any (HH.out.drewN n) 2 rfl).mono ?_
      rintro e w' ⟨rfl, rfl⟩
      rw [HO.out.2]
      go_wp2_with fail
      go_ret
      exact ⟨rfl, _, rfl⟩
end
end Go.Proofs.Ytcocnfbhileheaa

/- The laws' arguments that are lists of faults; the events one behind the other (plain). -/
namespace Go.Proofs.Ytcocnfbhileheaa
open Go.RowKit Go.ChangeShapes Go.WideShapes Go.ChangeAt

theorem int_u8' {v : Value} (o : IsInt .u8 v) : ∃ a : Nat, v = .int .u8 (a : Int) ∧ a < 256 := by
  obtain ⟨x, rfl, hx⟩ := o
  have := bounds_u8 hx
  obtain ⟨n, rfl⟩ := Int.eq_ofNat_of_zero_le this.1
  exact ⟨n, rfl, by omega⟩
theorem By.at {w : World} {a : Option Addr} {n c : Nat} {bs : Bytes} (h : By w (.slice a n c) bs) {i : Nat} {x : BitVec 8} (hi : bs[i]? = some x) : ∃ b off, a = some ⟨b, off, none⟩ ∧ w.cell? ⟨b, off + i, none⟩ = some (.int .u8 (U x)) := by
  obtain ⟨_, a', cap, e, h1, h2, h3, h4⟩ := h
  obtain ⟨rfl, rfl, rfl⟩ : a = a' ∧ n = bs.length ∧ c = cap := by simpa using e
  have hil : i < bs.length := by
    rcases Nat.lt_or_ge i bs.length with h | h
    · exact h
    · rw [List.getElem?_eq_none h] at hi; cases hi
  cases a with
  | none => have := (h3 rfl).1; omega
  | some b =>
    obtain ⟨b, off, spot⟩ := b
    have := h4 _ rfl i (.int .u8 (U x)) (by rw [cu, List.getElem?_map, hi]; rfl)
    obtain ⟨rfl, h5⟩ := this
    exact ⟨b, off, rfl, h5⟩
/-- a number of 16 bits -/
def eU16 : El Nat where
  size := 1
  rd _ _ _ cs n := cs = [.int .u16 (n : Int)] ∧ n < 65536
  len h := by rw [h.1]; rfl
  keep h _ _ := h
  mono h _ _ := h
  one h u hu := by rw [h.1] at hu; obtain rfl := List.mem_singleton.1 hu; rfl
def r16 : R Nat := rMap (rInt .u16) Int.toNat
theorem opens16 {H : Type} {enc : TypeId × Value → H} {W : World} : Opens enc Try.prog W 53 (rSlice r16) :=
  opens_slice Try.underlying53 (by kernel_rfl) (opens_map (opens_int Try.underlying45 (by kernel_rfl)) _) (by decide)
theorem u16s_of {W : World} {v : Value} (h : IsSl r16 W v) : ∃ l, RdS eU16 W (Old W) v l := by
  obtain ⟨l, hl⟩ := h
  refine ⟨l, rdS_of (r := r16) (E := eU16) rfl (by decide) (fun cs p hp => ?_) hl⟩
  obtain ⟨n, ⟨rfl, hw⟩, rfl⟩ := hp
  have := bounds_u16 hw
  exact ⟨by rw [Int.toNat_of_nonneg this.1], by omega⟩
end Go.Proofs.Ytcocnfbhileheaa
