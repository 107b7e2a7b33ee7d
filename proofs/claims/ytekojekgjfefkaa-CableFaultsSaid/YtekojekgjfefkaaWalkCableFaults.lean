/- The walk of CableFaults. -/
import Derived.Test.YtekojekgjfefkaaWalkCableCarries
import Derived.Test.YtekojekgjfefkaaCabN
import Derived.Lib.MinMax
namespace Go.Proofs.Ytekojekgjfefkaa
open Go.RowKit

theorem by_at {w : World} {v : Value} {d : Byt} (h : By w v d) {i : Nat} {x : BitVec 8} (hx : d[i]? = some x) : ∃ b off c, v = .slice (some ⟨b, off, none⟩) d.length c ∧ d.length ≤ c ∧ w.cell? ⟨b, off + i, none⟩ = some (.int .u8 (U x)) := by
  have hi := lt_of_get hx
  obtain ⟨_, ⟨rfl, _⟩ | ⟨b, off, c, rfl, _, h1, _, hc⟩⟩ := h.cases
  · simp at hi
  · refine ⟨b, off, c, rfl, h1, ?_⟩
    have := hc i hi
    rwa [List.getD_eq_getElem?_getD, hx] at this
/-- what the loop over the bits of one byte does: x, and how many were counted before it -/
def BitRel (b0 : Nat) (z : BitVec 8) (v : Int) (bits : Nat) : Prop := (v = 0 ∧ bits = b0 + (if z = 0 then 0 else 1)) ∨ (z ≠ 0 ∧ bits = b0 ∧ (v = 1 ∨ v = 2 ∨ v = 4 ∨ v = 8 ∨ v = 16 ∨ v = 32))
theorem bit_start (b0 : Nat) (m : Nat) (h : m < 6) : BitRel b0 (1#8 <<< m) (U (1#8 <<< m)) b0 := by
  refine .inr ?_
  match m, h with
  | 0, _ => exact ⟨by decide, rfl, .inl rfl⟩
  | 1, _ => exact ⟨by decide, rfl, .inr (.inl rfl)⟩
  | 2, _ => exact ⟨by decide, rfl, .inr (.inr (.inl rfl))⟩
  | 3, _ => exact ⟨by decide, rfl, .inr (.inr (.inr (.inl rfl)))⟩
  | 4, _ => exact ⟨by decide, rfl, .inr (.inr (.inr (.inr (.inl rfl))))⟩
  | 5, _ => exact ⟨by decide, rfl, .inr (.inr (.inr (.inr (.inr rfl))))⟩
theorem xor_back (y z : BitVec 8) : y ^^^ z ^^^ y = z := by
  rw [BitVec.xor_comm y z, BitVec.xor_assoc, BitVec.xor_self, BitVec.xor_zero]
theorem flip_any (d : Byt) (arg : Int) : ∃ i0 m : Nat, (0 < d.length → i0 < d.length) ∧ m < 6 ∧ ∀ (i : Nat) x, d[i]? = some x → (flipB d arg)[i]? = some (if i = i0 then x ^^^ (1#8 <<< m) else x) := by
  by_cases h : d = []
  · subst h; exact ⟨0, 0, fun h => h, by decide, fun i x h => by simp at h⟩
  · obtain ⟨i0, m, h1, h2, h3⟩ := flip_get d arg h
    exact ⟨i0, m, fun _ => h1, h2, h3⟩
@[go_sem] theorem and1_of_1 : bits .and .u8 1 1 = 1 := by decide
@[go_sem] theorem and1_of_2 : bits .and .u8 2 1 = 0 := by decide
@[go_sem] theorem and1_of_4 : bits .and .u8 4 1 = 0 := by decide
@[go_sem] theorem and1_of_8 : bits .and .u8 8 1 = 0 := by decide
@[go_sem] theorem and1_of_16 : bits .and .u8 16 1 = 0 := by decide
@[go_sem] theorem and1_of_32 : bits .and .u8 32 1 = 0 := by decide
theorem shl_ne {m : Nat} (h : m < 6) : (1#8 <<< m) ≠ 0 := by
  match m, h with
  | 0, _ => decide
  | 1, _ => decide
  | 2, _ => decide
  | 3, _ => decide
  | 4, _ => decide
  | 5, _ => decide
theorem bit_begin {i0 j bn m0 : Nat} {z : BitVec 8} (hm : m0 < 6) (hz : z = if j = i0 then 1#8 <<< m0 else 0) : BitRel bn z (U z) bn := by
  by_cases h : j = i0
  · rw [if_pos h] at hz; rw [hz]; exact bit_start bn m0 hm
  · rw [if_neg h] at hz; rw [hz]; exact .inl ⟨by decide, by simp⟩
theorem bit_next {i0 j bn bm m0 : Nat} {z : BitVec 8} (hm : m0 < 6) (hz : z = if j = i0 then 1#8 <<< m0 else 0) (hb : bn = if i0 < j then 1 else 0) (he : bm = bn + (if z = 0 then 0 else 1)) : bm = (if i0 < j + 1 then 1 else 0) := by
  by_cases h : j = i0
  · rw [if_pos h] at hz
    rw [hz, if_neg (shl_ne hm)] at he
    rw [if_pos (by omega)]
    rw [if_neg (by omega)] at hb
    omega
  · rw [if_neg h] at hz
    rw [hz, if_pos rfl] at he
    split at hb <;> split <;> omega
theorem int_u16' {v : Value} (o : IsInt .u16 v) : ∃ a : Nat, v = .int .u16 (a : Int) ∧ a < 65536 := by
  obtain ⟨x, rfl, hx⟩ := o
  have := bounds_u16 hx
  obtain ⟨n, rfl⟩ := Int.eq_ofNat_of_zero_le this.1
  exact ⟨n, rfl, by omega⟩
theorem wf_small {n : Int} (h0 : 0 ≤ n) (h1 : n < 1000000) : (Lit.int .i64 n).wf = true := by
  simp [Lit.wf, IntKind.min, IntKind.max, IntKind.signed, IntKind.bits]; omega
theorem rdF_one {w : World} (k n : Nat) (hk : k ≤ 3) (hn : n < 65536) (g : Nat) (hg : g = w.heap.size) : RdS eFlt (w.alloc (.cells #[.int .i64 1, .int .i64 (k : Int), .int .i64 (n : Int)] 39)) (fun j => w.heap.size ≤ j) (.slice (some ⟨g, 0, none⟩) 1 1) [⟨1, k, n⟩] := by
  have hr : Rd (w.alloc (.cells #[.int .i64 1, .int .i64 (k : Int), .int .i64 (n : Int)] 39)) 3 (.slice (some ⟨g, 0, none⟩) 1 1) 1 [.int .i64 1, .int .i64 (k : Int), .int .i64 (n : Int)] := by
    subst hg
    refine ⟨rfl, _, 1, rfl, Nat.le_refl _, by decide, (fun e => by cases e), fun b hb j v hj => ?_⟩
    obtain rfl := Option.some.inj hb
    refine ⟨rfl, ?_⟩
    have h0 : (w.alloc (.cells #[.int .i64 1, .int .i64 (k : Int), .int .i64 (n : Int)] 39)).heap[w.heap.size]? = some (.cells #[.int .i64 1, .int .i64 (k : Int), .int .i64 (n : Int)] 39) := heap_alloc_new w _
    simp only [World.cell?, h0, Nat.zero_add]
    match j, hj with
    | 0, hj => simpa using hj
    | 1, hj => simpa using hj
    | 2, hj => simpa using hj
  refine ⟨_, hr, Els.single ⟨rfl, by show (Lit.int .i64 1).wf = true; decide, by show (Lit.int .i64 (k : Int)).wf = true; exact wf_small (by omega) (by omega), by show (Lit.int .i64 (n : Int)).wf = true; exact wf_small (by omega) (by omega)⟩, fun _ b hb => ?_⟩
  obtain rfl : g = b := by simpa [Value.ownBlock] using hb
  omega
set_option maxHeartbeats 16000000 in
set_option maxRecDepth 100000 in
theorem walkCableFaults (W : World) (v0 v1 v2 : Value) (o0 : IsInt .u8 v0) (o1 : IsInt .u16 v1) (o2 : IsBytes W v2) :
    Calls Try.prog 5 #[v0, v1, v2] W fun e w' => e = .returned (.bool true) ∧ Below W.heap.size W w' := by
  obtain ⟨m, rfl, hm⟩ := int_u8' o0
  obtain ⟨n, rfl, hn⟩ := int_u16' o1
  obtain ⟨d, hd⟩ := o2
  have hz := byZ_of hd
  obtain ⟨a, c, rfl⟩ := hz.slice
  have HS := Lib.hid ((Held.start0 (fun _ => False) (Old W) (fun _ f _ => f) W).addOld (T := tBy (.slice a d.length c) d) (ByZ.mono hz fun k h => ⟨h, id⟩))
  clear hz
  obtain ⟨k, hk⟩ : ∃ k : Nat, k = 1 + m % 3 := ⟨_, rfl⟩
  have hk1 : k = 1 ∨ k = 2 ∨ k = 3 := by omega
  have HK : Hid ((1 : Int) + (m : Int) % 3 = (k : Int)) := Lib.hid (by omega)
  clear hk
  go_enter Try.func5, Try.ntmps5
  go_wp2_with fail
  refine (awake_any W).mono ?_
  rintro e w1 ⟨rfl, hb⟩
  have H1 := Lib.hid (HS.out.own hb); have HB1 := Lib.hid hb; clear hb
  have HD := Lib.hid hd; clear hd
  by_cases hbig : 60 < d.length
  · go_wp2_with fail
    refine (awake_any w1).mono ?_
    rintro e w2 ⟨rfl, hb⟩
    have HB2 := Lib.hid (HB1.out.trans (hb.mono HB1.out.size)); clear hb
    go_wp2_with fail
    go_ret
    exact ⟨rfl, HB2.out⟩
  · go_wp2_with fail
    rw [HK.out]
    have H2 := Lib.hid (H1.out.new (.cells #[.int .i64 1, .int .i64 (k : Int), .int .i64 (n : Int)] 39))
    refine (new_any _ _ _ [⟨1, k, n⟩] (rdF_one k n (by omega) hn _ (by simp)) (by simp) 1 (by decide) (by decide)).mono ?_
    rintro e w2 (⟨hok, _⟩ | ⟨hok, p, rfl, hmd⟩)
    · exfalso
      rcases hk1 with rfl | rfl | rfl <;> simp [okF] at hok <;> omega
    · have H3 := Lib.hid (((H2.out.alloc _).made hmd).pick [0, 1, 2] [tBy (.slice a d.length c) d, tBlk w1.heap.size (.cells #[.int .i64 1, .int .i64 (k : Int), .int .i64 (n : Int)] 39), tCab p (oneC k n 0 0 [])] (by simp) rfl)
      clear hmd hok
      have hOk := fun s l (x : List Byt) (hx : x.length ≤ 64) => oneC_ok (k := (k : Int)) (arg := (n : Int)) (by omega) (by omega) (by omega) s l x hx
      have HOK := Lib.hid hOk; clear hOk
      have HC1 := Lib.hid (oneC_clean (k : Int) (n : Int) 0 0 [] (by decide) (by decide) d)
      go_wp2_with fail
      refine (send_h H3.out 2 rfl (HOK.out _ _ _ (by simp)) (by simp [oneC]) (by show 0 < _; omega) (by show 0 < _; omega) (by show 0 < _; omega) _ d (by omega) 0 _ rfl (by decide) by_rd).mono ?_
      rintro e w3 ⟨rfl, h⟩
      rw [HC1.out] at h ⊢
      have H4 := Lib.hid (h.pick [0, 1, 2] [tBy (.slice a d.length c) d, tBlk w1.heap.size (.cells #[.int .i64 1, .int .i64 (k : Int), .int .i64 (n : Int)] 39), tCab p (oneC k n 1 0 [d])] (by simp) rfl); clear h
      rcases hk1 with rfl | rfl | rfl
      · have HC2 := Lib.hid (show (oneC ((1 : Nat) : Int) (n : Int) 1 0 [d]).send d = (0, oneC ((1 : Nat) : Int) (n : Int) 2 1 [d]) from oneC_drop (n : Int) 0 [d] d)
        have HC3 := Lib.hid (oneC_clean ((1 : Nat) : Int) (n : Int) 2 1 [d] (by decide) (by simp) d)
        have HT := Lib.hid (oneC_tick ((1 : Nat) : Int) (n : Int) 3 1 ([d] ++ [d]))
        go_wp2_with fail
        refine (send_h H4.out 2 rfl (HOK.out _ _ _ (by simp)) (by simp [oneC]) (by show 0 < _; omega) (by show 1 < _; omega) (by show 0 < _; omega) _ d (by omega) 0 _ rfl (by decide) by_rd).mono ?_
        rintro e w4 ⟨rfl, h⟩
        rw [HC2.out] at h ⊢
        have H5 := Lib.hid (h.pick [0, 1, 2] [tBy (.slice a d.length c) d, tBlk w1.heap.size (.cells #[.int .i64 1, .int .i64 ((1 : Nat) : Int), .int .i64 (n : Int)] 39), tCab p (oneC ((1 : Nat) : Int) n 2 1 [d])] (by simp) rfl); clear h
        go_wp2_with fail
        refine (send_h H5.out 2 rfl (HOK.out _ _ _ (by simp)) (by simp [oneC]) (by show 0 < _; omega) (by show 2 < _; omega) (by show 1 < _; omega) _ d (by omega) 0 _ rfl (by decide) by_rd).mono ?_
        rintro e w5 ⟨rfl, h⟩
        rw [HC3.out] at h ⊢
        have H6 := Lib.hid (h.pick [0, 1, 2] [tBy (.slice a d.length c) d, tBlk w1.heap.size (.cells #[.int .i64 1, .int .i64 ((1 : Nat) : Int), .int .i64 (n : Int)] 39), tCab p (oneC ((1 : Nat) : Int) n 3 1 ([d] ++ [d]))] (by simp) rfl); clear h
        go_wp2_with fail
        refine (tick_h H6.out 2 rfl (by simp [oneC]) (by show 0 < _; omega)).mono ?_
        rintro e w6 ⟨a6, n6, rfl, h⟩
        rw [HT.out] at h ⊢
        rw [show ([d] ++ [d]).length = 2 from rfl] at h ⊢
        have H7 := Lib.hid (h.pick [0, 1, 2, 3] [tBy (.slice a d.length c) d, tBlk w1.heap.size (.cells #[.int .i64 1, .int .i64 ((1 : Nat) : Int), .int .i64 (n : Int)] 39), tCab p { oneC ((1 : Nat) : Int) n 3 1 [] with ticks := 1 }, tSq eBy 32 (.slice a6 2 n6) ([d] ++ [d])] (by simp) rfl); clear h
        have kb := H7.out.blk 1 rfl
        have kk := blk_cell (i := 1) kb rfl
        clear kb
        obtain ⟨G7, Y7, hs7⟩ := H7.out.get 3 rfl
        obtain ⟨G8, Y8, hd7⟩ := H7.out.get 0 rfl
        have hsd := fun m => run_str8 (P := Try.prog) (src := 32) (dst := 9) Try.underlying32 Try.underlying5 Try.underlying9 (By.drewN (show ByZ w6 Y8 _ d from hd7).1 m)
        clear hd7
        obtain ⟨b, o, va0, vc0, rfl, c0, hb0⟩ := bys_at (show Sq eBy 32 _ G7 Y7 _ _ from hs7) (j := 0) (d := d) rfl
        rw [Nat.add_zero] at c0
        have hs0 := fun m => run_str8 (P := Try.prog) (src := 32) (dst := 9) Try.underlying32 Try.underlying5 Try.underlying9 (By.drewN hb0.1 m)
        obtain ⟨_, _, va1, vc1, e1, c1, hb1⟩ := bys_at (show Sq eBy 32 _ G7 Y7 _ _ from hs7) (j := 1) (d := d) rfl
        obtain ⟨rfl, rfl⟩ := e1
        have hs1 := fun m => run_str8 (P := Try.prog) (src := 32) (dst := 9) Try.underlying32 Try.underlying5 Try.underlying9 (By.drewN hb1.1 m)
        clear hs7 hb0 hb1
        go_wp2_with fail
        go_quiet (exact Calls.quiet_of_same ((lost_h (H7.out.drewN _) 2 rfl).mono fun e w' h => ⟨show e = .returned (.int .i64 1) from h.1, h.2.symm⟩))
        go_wp2_with fail
        go_ret
        exact ⟨by simp, H7.out.below.trans ((below_drew _ _).mono H7.out.below.size)⟩
      · have HC2 := Lib.hid (show (oneC ((2 : Nat) : Int) (n : Int) 1 0 [d]).send d = (0, oneC ((2 : Nat) : Int) (n : Int) 2 0 ([d] ++ [flipB d (n : Int)])) from oneC_flip (n : Int) 0 [d] (by simp) d)
        have HC3 := Lib.hid (oneC_clean ((2 : Nat) : Int) (n : Int) 2 0 ([d] ++ [flipB d (n : Int)]) (by decide) (by simp) d)
        have HT := Lib.hid (oneC_tick ((2 : Nat) : Int) (n : Int) 3 0 (([d] ++ [flipB d (n : Int)]) ++ [d]))
        go_wp2_with fail
        refine (send_h H4.out 2 rfl (HOK.out _ _ _ (by simp)) (by simp [oneC]) (by show 0 < _; omega) (by show 1 < _; omega) (by show 0 < _; omega) _ d (by omega) 0 _ rfl (by decide) by_rd).mono ?_
        rintro e w4 ⟨rfl, h⟩
        rw [HC2.out] at h ⊢
        have H5 := Lib.hid (h.pick [0, 1, 2] [tBy (.slice a d.length c) d, tBlk w1.heap.size (.cells #[.int .i64 1, .int .i64 ((2 : Nat) : Int), .int .i64 (n : Int)] 39), tCab p (oneC ((2 : Nat) : Int) n 2 0 ([d] ++ [flipB d (n : Int)]))] (by simp) rfl); clear h
        go_wp2_with fail
        refine (send_h H5.out 2 rfl (HOK.out _ _ _ (by simp)) (by simp [oneC]) (by show 0 < _; omega) (by show 2 < _; omega) (by show 0 < _; omega) _ d (by omega) 0 _ rfl (by decide) by_rd).mono ?_
        rintro e w5 ⟨rfl, h⟩
        rw [HC3.out] at h ⊢
        have H6 := Lib.hid (h.pick [0, 1, 2] [tBy (.slice a d.length c) d, tBlk w1.heap.size (.cells #[.int .i64 1, .int .i64 ((2 : Nat) : Int), .int .i64 (n : Int)] 39), tCab p (oneC ((2 : Nat) : Int) n 3 0 (([d] ++ [flipB d (n : Int)]) ++ [d]))] (by simp) rfl); clear h
        go_wp2_with fail
        refine (tick_h H6.out 2 rfl (by simp [oneC]) (by show 0 < _; omega)).mono ?_
        rintro e w6 ⟨a6, n6, rfl, h⟩
        rw [HT.out] at h ⊢
        rw [show (([d] ++ [flipB d (n : Int)]) ++ [d]).length = 3 from rfl] at h ⊢
        have H7 := Lib.hid (h.pick [0, 1, 2, 3] [tBy (.slice a d.length c) d, tBlk w1.heap.size (.cells #[.int .i64 1, .int .i64 ((2 : Nat) : Int), .int .i64 (n : Int)] 39), tCab p { oneC ((2 : Nat) : Int) n 3 0 [] with ticks := 1 }, tSq eBy 32 (.slice a6 3 n6) (([d] ++ [flipB d (n : Int)]) ++ [d])] (by simp) rfl); clear h
        have kb := H7.out.blk 1 rfl
        have kk := blk_cell (i := 1) kb rfl
        clear kb
        obtain ⟨G7, Y7, hs7⟩ := H7.out.get 3 rfl
        obtain ⟨G8, Y8, hd7⟩ := H7.out.get 0 rfl
        have hsd := fun m => run_str8 (P := Try.prog) (src := 32) (dst := 9) Try.underlying32 Try.underlying5 Try.underlying9 (By.drewN (show ByZ w6 Y8 _ d from hd7).1 m)
        have HBD := Lib.hid (show ByZ w6 Y8 _ d from hd7).1
        clear hd7
        obtain ⟨b, o, va0, vc0, rfl, c0, hb0⟩ := bys_at (show Sq eBy 32 _ G7 Y7 _ _ from hs7) (j := 0) (d := d) rfl
        rw [Nat.add_zero] at c0
        have hs0 := fun m => run_str8 (P := Try.prog) (src := 32) (dst := 9) Try.underlying32 Try.underlying5 Try.underlying9 (By.drewN hb0.1 m)
        obtain ⟨_, _, va1, vc1, e1, c1, hb1⟩ := bys_at (show Sq eBy 32 _ G7 Y7 _ _ from hs7) (j := 1) (d := (flipB d (n : Int))) rfl
        obtain ⟨rfl, rfl⟩ := e1
        rw [flipB_length] at c1 hb1
        have hs1 := fun m => run_str8 (P := Try.prog) (src := 32) (dst := 9) Try.underlying32 Try.underlying5 Try.underlying9 (By.drewN hb1.1 m)
        obtain ⟨_, _, va2, vc2, e2, c2, hb2⟩ := bys_at (show Sq eBy 32 _ G7 Y7 _ _ from hs7) (j := 2) (d := d) rfl
        obtain ⟨rfl, rfl⟩ := e2
        have hs2 := fun m => run_str8 (P := Try.prog) (src := 32) (dst := 9) Try.underlying32 Try.underlying5 Try.underlying9 (By.drewN hb2.1 m)
        have HBF := Lib.hid hb1.1
        clear hs7 hb0 hb1 hb2
        go_wp2_with fail
        go_quiet (fail)
        obtain ⟨i0, m0, hi0, hm0, hget⟩ := flip_any d (n : Int)
        have HG := Lib.hid hget; have HM := Lib.hid hm0; have HI := Lib.hid hi0
        clear hget hm0 hi0
        go_wp2_with fail
        go_loopw [156, 11] (fun i u11 wr => ∃ (j N bn : Nat), j ≤ d.length ∧ i = .int .i64 (j : Int) ∧ u11 = .int .i64 (bn : Int) ∧ bn ≤ 1 ∧ Hid (bn = if i0 < j then 1 else 0) ∧ wr = w6.drewN N) (fun i _ _ => d.length - (intOf i).toNat)
        case atStart => exact ⟨0, nq, 0, by omega, by go_num, by go_num, by omega, Lib.hid (by simp), rfl⟩
        case round =>
          obtain ⟨j, N, bn, hj, rfl, rfl, hbn, HBN, rfl⟩ := hrel
          by_cases hlt : j < d.length
          · obtain ⟨x, hx⟩ : ∃ x, d[j]? = some x := ⟨d[j], List.getElem?_eq_getElem hlt⟩
            have hfx := HG.out j x hx
            obtain ⟨z, hz⟩ : ∃ z : BitVec 8, z = if j = i0 then 1#8 <<< m0 else 0 := ⟨_, rfl⟩
            have hfz : (flipB d (n : Int))[j]? = some (x ^^^ z) := by
              rw [hfx, hz]
              split
              · rfl
              · rw [show (0 : BitVec 8) = 0#8 from rfl, BitVec.xor_zero]
            obtain ⟨b1, o1, cc1, e1, _, l1⟩ := by_at HBF.out hfz
            obtain ⟨b2, o2, cc2, e2, _, l2⟩ := by_at HBD.out hx
            rw [flipB_length] at e1
            obtain ⟨rfl, rfl⟩ : va1 = some ⟨b1, o1, none⟩ ∧ vc1 = cc1 := by simpa using e1
            obtain ⟨rfl, rfl⟩ : a = some ⟨b2, o2, none⟩ ∧ c = cc2 := by simpa using e2
            have HZ := Lib.hid hz
            clear hx hfx hz hfz e1 e2
            go_wp2_with fail
            go_quiet (fail)
            go_wp2_with fail
            try simp only [xor_back]
            go_loopw [13, 11] (fun u13 u11 wr => ∃ (v : Int) (bm N2 : Nat), u13 = .int .u8 v ∧ u11 = .int .i64 (bm : Int) ∧ bm ≤ 2 ∧ BitRel bn z v bm ∧ wr = w6.drewN N2) (fun u _ _ => (intOf u).toNat)
            case atStart => exact ⟨U z, bn, N + nq, rfl, rfl, by omega, bit_begin HM.out HZ.out, by simp⟩
            case round =>
              obtain ⟨v, bm, N2, rfl, rfl, hbm, hbr, rfl⟩ := hrel
              rcases hbr with ⟨rfl, he⟩ | ⟨hz0, rfl, hv⟩
              · have HE := Lib.hid (bit_next HM.out HZ.out HBN.out he)
                clear he
                go_wp2_with fail
                go_roundw
                case rel => exact ⟨j + 1, N2, bm, by omega, by go_num, by go_num, by have := HE.out; split at this <;> omega, HE, by trivial⟩
                case measure => simp [intOf]; omega
              · have HZ0 := Lib.hid hz0; clear hz0
                rcases hv with rfl | rfl | rfl | rfl | rfl | rfl
                · go_wp2_with fail
                  go_roundw
                  case rel => exact ⟨0, bm + 1, N2, by go_num, by go_num, by omega, .inl ⟨rfl, by rw [if_neg HZ0.out]⟩, by trivial⟩
                  case measure => simp [intOf]
                all_goals
                  go_wp2_with fail
                  go_roundw
                  case rel => exact ⟨_, bm, N2, by go_num, by go_num, by omega, .inr ⟨HZ0.out, rfl, by simp⟩, by trivial⟩
                  case measure => simp [intOf]
          · obtain rfl : j = d.length := by omega
            have hmin : min (1 : Int) (d.length : Int) = (bn : Int) := by
              have h1 := HBN.out; have h2 := HI.out
              split at h1 <;> omega
            go_wp2_with fail
            go_ret
            exact ⟨by simp, H7.out.below.trans ((below_drew _ _).mono H7.out.below.size)⟩
      · have HC2 := Lib.hid (show (oneC ((3 : Nat) : Int) (n : Int) 1 0 [d]).send d = (0, oneC ((3 : Nat) : Int) (n : Int) 2 0 ([d] ++ [d, d])) from oneC_dbl (n : Int) 0 [d] (by simp) d)
        have HC3 := Lib.hid (oneC_clean ((3 : Nat) : Int) (n : Int) 2 0 ([d] ++ [d, d]) (by decide) (by simp) d)
        have HT := Lib.hid (oneC_tick ((3 : Nat) : Int) (n : Int) 3 0 (([d] ++ [d, d]) ++ [d]))
        go_wp2_with fail
        refine (send_h H4.out 2 rfl (HOK.out _ _ _ (by simp)) (by simp [oneC]) (by show 0 < _; omega) (by show 1 < _; omega) (by show 0 < _; omega) _ d (by omega) 0 _ rfl (by decide) by_rd).mono ?_
        rintro e w4 ⟨rfl, h⟩
        rw [HC2.out] at h ⊢
        have H5 := Lib.hid (h.pick [0, 1, 2] [tBy (.slice a d.length c) d, tBlk w1.heap.size (.cells #[.int .i64 1, .int .i64 ((3 : Nat) : Int), .int .i64 (n : Int)] 39), tCab p (oneC ((3 : Nat) : Int) n 2 0 ([d] ++ [d, d]))] (by simp) rfl); clear h
        go_wp2_with fail
        refine (send_h H5.out 2 rfl (HOK.out _ _ _ (by simp)) (by simp [oneC]) (by show 0 < _; omega) (by show 2 < _; omega) (by show 0 < _; omega) _ d (by omega) 0 _ rfl (by decide) by_rd).mono ?_
        rintro e w5 ⟨rfl, h⟩
        rw [HC3.out] at h ⊢
        have H6 := Lib.hid (h.pick [0, 1, 2] [tBy (.slice a d.length c) d, tBlk w1.heap.size (.cells #[.int .i64 1, .int .i64 ((3 : Nat) : Int), .int .i64 (n : Int)] 39), tCab p (oneC ((3 : Nat) : Int) n 3 0 (([d] ++ [d, d]) ++ [d]))] (by simp) rfl); clear h
        go_wp2_with fail
        refine (tick_h H6.out 2 rfl (by simp [oneC]) (by show 0 < _; omega)).mono ?_
        rintro e w6 ⟨a6, n6, rfl, h⟩
        rw [HT.out] at h ⊢
        rw [show (([d] ++ [d, d]) ++ [d]).length = 4 from rfl] at h ⊢
        have H7 := Lib.hid (h.pick [0, 1, 2, 3] [tBy (.slice a d.length c) d, tBlk w1.heap.size (.cells #[.int .i64 1, .int .i64 ((3 : Nat) : Int), .int .i64 (n : Int)] 39), tCab p { oneC ((3 : Nat) : Int) n 3 0 [] with ticks := 1 }, tSq eBy 32 (.slice a6 4 n6) (([d] ++ [d, d]) ++ [d])] (by simp) rfl); clear h
        have kb := H7.out.blk 1 rfl
        have kk := blk_cell (i := 1) kb rfl
        clear kb
        obtain ⟨G7, Y7, hs7⟩ := H7.out.get 3 rfl
        obtain ⟨G8, Y8, hd7⟩ := H7.out.get 0 rfl
        have hsd := fun m => run_str8 (P := Try.prog) (src := 32) (dst := 9) Try.underlying32 Try.underlying5 Try.underlying9 (By.drewN (show ByZ w6 Y8 _ d from hd7).1 m)
        clear hd7
        obtain ⟨b, o, va0, vc0, rfl, c0, hb0⟩ := bys_at (show Sq eBy 32 _ G7 Y7 _ _ from hs7) (j := 0) (d := d) rfl
        rw [Nat.add_zero] at c0
        have hs0 := fun m => run_str8 (P := Try.prog) (src := 32) (dst := 9) Try.underlying32 Try.underlying5 Try.underlying9 (By.drewN hb0.1 m)
        obtain ⟨_, _, va1, vc1, e1, c1, hb1⟩ := bys_at (show Sq eBy 32 _ G7 Y7 _ _ from hs7) (j := 1) (d := d) rfl
        obtain ⟨rfl, rfl⟩ := e1
        have hs1 := fun m => run_str8 (P := Try.prog) (src := 32) (dst := 9) Try.underlying32 Try.underlying5 Try.underlying9 (By.drewN hb1.1 m)
        obtain ⟨_, _, va2, vc2, e2, c2, hb2⟩ := bys_at (show Sq eBy 32 _ G7 Y7 _ _ from hs7) (j := 2) (d := d) rfl
        obtain ⟨rfl, rfl⟩ := e2
        have hs2 := fun m => run_str8 (P := Try.prog) (src := 32) (dst := 9) Try.underlying32 Try.underlying5 Try.underlying9 (By.drewN hb2.1 m)
        obtain ⟨_, _, va3, vc3, e3, c3, hb3⟩ := bys_at (show Sq eBy 32 _ G7 Y7 _ _ from hs7) (j := 3) (d := d) rfl
        obtain ⟨rfl, rfl⟩ := e3
        have hs3 := fun m => run_str8 (P := Try.prog) (src := 32) (dst := 9) Try.underlying32 Try.underlying5 Try.underlying9 (By.drewN hb3.1 m)
        clear hs7 hb0 hb1 hb2 hb3
        go_wp2_with fail
        go_quiet (exact Calls.quiet_of_same ((lost_h (H7.out.drewN _) 2 rfl).mono fun e w' h => ⟨show e = .returned (.int .i64 0) from h.1, h.2.symm⟩))
        go_wp2_with fail
        go_ret
        exact ⟨by simp, H7.out.below.trans ((below_drew _ _).mono H7.out.below.size)⟩
end Go.Proofs.Ytekojekgjfefkaa
