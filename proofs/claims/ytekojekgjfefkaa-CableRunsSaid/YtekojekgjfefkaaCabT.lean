/- The reference's Tick: a struct by value, two new lists. -/
import Derived.Test.YtekojekgjfefkaaCabS
import Derived.Test.YtekojekgjfefkaaCabF
import Derived.Test.YtekojekgjfefkaaCabH
namespace Go.Proofs.Ytekojekgjfefkaa
open Go.RowKit

theorem slFl : SlT Try.prog 45 71 (.agg #[.int .i64 0, .slice none 0 0]) 2 32 := ⟨Try.underlying45, info_parts (by kernel_rfl), rfl, by decide⟩
theorem fl_at {T : TypeId} {w : World} {F Z : BS} {a : Option Addr} {n c : Nat} {l : List (Nat × Byt)} (h : Sq eTr T w F Z (.slice a n c) l) {j : Nat} {x : Nat × Byt} (hj : l[j]? = some x) :
    ∃ b o va vc, a = some ⟨b, o, none⟩ ∧ F b ∧ w.cell? ⟨b, o + j * 2, none⟩ = some (.int .i64 (x.1 : Int)) ∧ w.cell? ⟨b, o + j * 2 + 1, none⟩ = some (.slice va x.2.length vc) ∧ ByZ w Z (.slice va x.2.length vc) x.2 := by
  obtain ⟨b, o, cs, A, e, hb, ⟨v, rfl, hv⟩, _, hc⟩ := h.at (by decide) hj
  obtain ⟨va, vc, rfl⟩ := hv.slice
  exact ⟨b, o, va, vc, e, hb, hc 0 _ rfl, hc 1 _ rfl, hv⟩
theorem fl_by {T : TypeId} {w : World} {F Z : BS} {b o n c : Nat} {l : List (Nat × Byt)} (h : Sq eTr T w F Z (.slice (some ⟨b, o, none⟩) n c) l) {j : Nat} {x : Nat × Byt} (hj : l[j]? = some x) {u : Value} (hc : w.cell? ⟨b, o + j * 2 + 1, none⟩ = some u) : ByZ w Z u x.2 := by
  obtain ⟨b', o', va, vc, e, _, _, h1, h2⟩ := fl_at h hj
  obtain ⟨rfl, rfl⟩ : b = b' ∧ o = o' := by simpa using e
  obtain rfl := Option.some.inj (hc.symm.trans h1)
  exact h2
/-- what stays in flight, and what arrives, of the first j -/
def rstay (c : Cab) (j : Nat) : List (Nat × Byt) := (c.flying.take j).filter fun x => !(x.1 == c.ticks + 1)
def rarr (c : Cab) (j : Nat) : List Byt := ((c.flying.take j).filter fun x => x.1 == c.ticks + 1).map (·.2)
def refCells (c : Cab) (fv lv : Value) : Array Value := #[.int .i64 (c.delay : Int), fv, .bool (!c.up), .int .i64 (c.sent : Int), .int .i64 (c.ticks : Int), lv, .int .i64 (c.lost : Int)]
theorem heap_size_alloc (w : World) (o : Obj) : (w.alloc o).heap.size = w.heap.size + 1 := by simp
theorem slFlA {w : World} (x : Nat) (va : Option Addr) (n vc g : Nat) (hg : g = w.heap.size) : Rd (w.alloc (.cells #[.int .i64 (x : Int), .slice va n vc] 71)) 2 (.slice (some ⟨g, 0, none⟩) 1 1) 1 [.int .i64 (x : Int), .slice va n vc] := by
  subst hg
  refine ⟨rfl, _, 1, rfl, Nat.le_refl _, by decide, (fun e => by cases e), fun b hb j v hj => ?_⟩
  obtain rfl := Option.some.inj hb
  refine ⟨rfl, ?_⟩
  have h0 : (w.alloc (.cells #[.int .i64 (x : Int), .slice va n vc] 71)).heap[w.heap.size]? = some (.cells #[.int .i64 (x : Int), .slice va n vc] 71) := heap_alloc_new w _
  simp only [World.cell?, h0, Nat.zero_add]
  match j, hj with
  | 0, hj => simpa using hj
  | 1, hj => simpa using hj
theorem rstay_next {c : Cab} {j : Nat} {x : Nat × Byt} (hx : c.flying[j]? = some x) : rstay c (j + 1) = rstay c j ++ (if x.1 = c.ticks + 1 then [] else [x]) ∧ rarr c (j + 1) = rarr c j ++ (if x.1 = c.ticks + 1 then [x.2] else []) := by
  unfold rstay rarr
  rw [List.take_add_one, hx, List.filter_append, List.filter_append, List.map_append]
  by_cases h : x.1 = c.ticks + 1
  · simp [h]
  · simp [h]
theorem rstay_le (c : Cab) (j : Nat) : (rstay c j).length ≤ j := Nat.le_trans (List.length_filter_le _ _) (by rw [List.length_take]; omega)
theorem rarr_le (c : Cab) (j : Nat) : (rarr c j).length ≤ j := by unfold rarr; rw [List.length_map]; exact Nat.le_trans (List.length_filter_le _ _) (by rw [List.length_take]; omega)
set_option maxHeartbeats 8000000 in
set_option maxRecDepth 100000 in
theorem refTick_any (c : Cab) (fa : Option Addr) (fn fc : Nat) (la : Option Addr) (lc : Nat) (hl : c.flying.length ≤ 64) (ht : c.ticks < 1000000000) (w : World) (F Z : BS) (hd : Dj F Z) (h : Sq eTr 71 w F Z (.slice la c.flying.length lc) c.flying) :
    Calls Try.prog 22 #[refV c (.slice fa fn fc) (.slice la c.flying.length lc)] w fun e w' => ∃ v1 v2, e = .returned (.tuple #[refV { c with ticks := c.ticks + 1 } (.slice fa fn fc) v1, v2]) ∧
      Did w F Z [tSq eTr 71 v1 (rstay c c.flying.length), tSq eBy 32 v2 (rarr c c.flying.length)] w' := by
  have hh := (Held.start1 (T := tSq eTr 71 (.slice la c.flying.length lc) c.flying) h hd).new (.cells #[.int .i64 (c.delay : Int), .slice fa fn fc, .bool (!c.up), .int .i64 (c.sent : Int), .int .i64 ((c.ticks : Int) + 1), .slice la c.flying.length lc, .int .i64 (c.lost : Int)] 47)
  have hh2 := hh.new (.cells #[.int .i64 0, .slice none 0 0, .bool false, .int .i64 0, .int .i64 0, .slice none 0 0, .int .i64 0] 47)
  have hsz : (w.alloc (.cells #[.int .i64 (c.delay : Int), .slice fa fn fc, .bool (!c.up), .int .i64 (c.sent : Int), .int .i64 ((c.ticks : Int) + 1), .slice la c.flying.length lc, .int .i64 (c.lost : Int)] 47)).heap.size = w.heap.size + 1 := heap_size_alloc _ _
  rw [hsz] at hh2
  have H2 := Lib.hid hh2
  obtain ⟨_, _, _, _, lm1, lm2, _⟩ : ∃ a b c' d : Nat, c.flying.length ≤ lc ∧ lc ≤ maxLen ∧ True := by
    obtain ⟨a', c', e, h1, h2, _⟩ := h.le
    obtain ⟨rfl, rfl⟩ : la = a' ∧ lc = c' := by simpa using e
    exact ⟨0, 0, 0, 0, h1, h2, trivial⟩
  unfold maxLen at lm2
  clear hh hh2 h hsz
  unfold refV
  go_enter Try.func22, Try.ntmps22
  go_wp2_with fail
  have H3 := Lib.hid ((H2.out.add (T := tSq eTr 71 (.slice none 0 0) (rstay c 0)) (Below.refl _ _) (Sq.nil _ _ _ _ _)).add (T := tSq eBy 32 (.slice none 0 0) (rarr c 0)) (Below.refl _ _) (Sq.nil _ _ _ _ _))
  go_loopw [6, 4, 5] (fun i u4 u5 wr => ∃ (j n4 n5 : Nat) (a4 : Option Addr) (c4 : Nat) (a5 : Option Addr) (c5 : Nat), j ≤ c.flying.length ∧ i = .int .i64 (j : Int) ∧ u4 = .slice a4 n4 c4 ∧ u5 = .slice a5 n5 c5 ∧ n4 ≤ j ∧ n5 ≤ j ∧ Hid ((rstay c j).length = n4 ∧ (rarr c j).length = n5) ∧
    Hid (Held F Z w [tSq eTr 71 (.slice la c.flying.length lc) c.flying, tBlk w.heap.size (.cells #[.int .i64 (c.delay : Int), .slice fa fn fc, .bool (!c.up), .int .i64 (c.sent : Int), .int .i64 ((c.ticks : Int) + 1), .slice la c.flying.length lc, .int .i64 (c.lost : Int)] 47 (0, 0)), tBlk (w.heap.size + 1) (.cells #[.int .i64 0, .slice none 0 0, .bool false, .int .i64 0, .int .i64 0, .slice none 0 0, .int .i64 0] 47 (0, 0)), tSq eTr 71 (.slice a4 n4 c4) (rstay c j), tSq eBy 32 (.slice a5 n5 c5) (rarr c j)] wr)) (fun i _ _ _ => c.flying.length - (intOf i).toNat)
  case atStart => exact ⟨0, 0, 0, none, 0, none, 0, by omega, rfl, rfl, rfl, by omega, by omega, Lib.hid ⟨rfl, rfl⟩, H3⟩
  case round =>
    clear H3 H2
    obtain ⟨j, n4, n5, a4, c4, a5, c5, hj, rfl, rfl, rfl, hn4, hn5, HL, HH⟩ := hrel
    have hrow := HH.out.blk 1 rfl
    have hrow2 := HH.out.blk 2 rfl
    have k0 := blk_cell (i := 0) hrow rfl
    have q0 := blk_cell (i := 0) hrow2 rfl
    have k1 := blk_cell (i := 1) hrow rfl
    have q1 := blk_cell (i := 1) hrow2 rfl
    have k2 := blk_cell (i := 2) hrow rfl
    have q2 := blk_cell (i := 2) hrow2 rfl
    have k3 := blk_cell (i := 3) hrow rfl
    have q3 := blk_cell (i := 3) hrow2 rfl
    have k4 := blk_cell (i := 4) hrow rfl
    have q4 := blk_cell (i := 4) hrow2 rfl
    have k5 := blk_cell (i := 5) hrow rfl
    have q5 := blk_cell (i := 5) hrow2 rfl
    have k6 := blk_cell (i := 6) hrow rfl
    have q6 := blk_cell (i := 6) hrow2 rfl
    have kf := fun i => blk_free hrow i
    have qf := fun i => blk_free hrow2 i
    clear hrow hrow2
    by_cases hlt : j < c.flying.length
    · obtain ⟨x, hx⟩ : ∃ x, c.flying[j]? = some x := ⟨c.flying[j], List.getElem?_eq_getElem hlt⟩
      obtain ⟨G2, Y2, hs⟩ := HH.out.get 0 rfl
      obtain ⟨b, o, va, vc, rfl, _, d0, d1, hby⟩ := fl_at (show Sq eTr 71 wr G2 Y2 _ _ from hs) hx
      have HX := Lib.hid hx
      have HNX := Lib.hid (rstay_next hx)
      have D1 := Lib.hid d1
      clear hs hby hx
      by_cases hdue : x.1 = c.ticks + 1
      · have hdb : ((x.1 : Int) == (c.ticks : Int) + 1) = true := by simp; omega
        obtain ⟨K, us, hsl, _, hback⟩ := HH.out.app 4 rfl
        rw [HL.out.2] at hsl
        have HSL := Lib.hid (show Sl wr K 32 1 _ n5 us from hsl); have HBK := Lib.hid hback
        have HDU := Lib.hid hdue
        clear hsl hback hdue
        have hl4 := HL.out.1; have hl5 := HL.out.2
        have HS2 : Hid (rstay c (j + 1) = rstay c j ∧ rarr c (j + 1) = rarr c j ++ [x.2]) := Lib.hid (by
          have h0 := HNX.out
          rw [if_pos HDU.out, if_pos HDU.out, List.append_nil] at h0; exact h0)
        clear hl4 hl5
        go_wp2_with fail
        go_quiet (fail)
        go_wp2_with (at_builtin; refine wpList_apps slBB2 rfl _ _ rfl K (.slice a5 n5 c5) n5 us (by rfl) (by (repeat (first | (with_reducible exact HSL.out) | (with_reducible refine Sl.alloc ?_ _) | (with_reducible refine Sl.drewN ?_ _) | (with_reducible refine Sl.drew ?_)))) _ 1 [.slice va x.2.length vc] rfl (rd_one _ _ _ _ (by first | rfl | simp)) (by intro u hu; simp at hu; subst hu; rfl) (by unfold maxLen; omega) (by omega) ?_; intro v2 w3 hsl2 hf2; obtain ⟨v2a, v2c, rfl⟩ := hsl2.shape; have H5 := Lib.hid (HBK.out _ w3 _ [x.2] _ (by (repeat (first | (with_reducible exact Below.refl _ _) | (with_reducible refine Bw.alloc ?_ _) | (with_reducible refine Bw.drewN ?_ _) | (with_reducible refine Bw.drew ?_)))) (by rw [HL.out.2]; exact hsl2) hf2 (fun Y ho => ⟨fun _ => False, Y, fun _ f => f.elim, fun _ h => .inl h, fun _ f => f.elim, by obtain ⟨H, _, h2⟩ := ho 0 _ (by decide) rfl; exact Els.single (E := eBy) ⟨_, rfl, (fl_by h2 HX.out D1.out).below (by (repeat (first | (with_reducible exact Below.refl _ _) | (with_reducible refine Bw.alloc ?_ _) | (with_reducible refine Bw.drewN ?_ _) | (with_reducible refine Bw.drew ?_))))⟩⟩)); clear hsl2 hf2)
        go_roundw
        case rel => exact ⟨j + 1, n4, n5 + 1, a4, c4, _, _, by omega, by go_num, rfl, rfl, by omega, by omega, Lib.hid (by rw [HS2.out.1, HS2.out.2, List.length_append]; exact ⟨HL.out.1, by rw [HL.out.2]; rfl⟩), Lib.hid (by rw [HS2.out.1, HS2.out.2]; exact H5.out)⟩
        case measure => simp [intOf]; omega
      · have hdb : ((x.1 : Int) == (c.ticks : Int) + 1) = false := by simp; omega
        obtain ⟨K, us, hsl, _, hback⟩ := HH.out.app 3 rfl
        rw [HL.out.1] at hsl
        have HSL := Lib.hid (show Sl wr K 71 2 _ n4 us from hsl); have HBK := Lib.hid hback
        have HDU := Lib.hid hdue
        clear hsl hback hdue
        have HS2 : Hid (rstay c (j + 1) = rstay c j ++ [x] ∧ rarr c (j + 1) = rarr c j) := Lib.hid (by
          have h0 := HNX.out
          rw [if_neg HDU.out, if_neg HDU.out, List.append_nil] at h0; exact h0)
        go_wp2_with fail
        go_quiet (fail)
        go_wp2_with (at_builtin; refine wpList_apps slFl rfl _ _ rfl K (.slice a4 n4 c4) n4 us (by rfl) (by (repeat (first | (with_reducible exact HSL.out) | (with_reducible refine Sl.alloc ?_ _) | (with_reducible refine Sl.drewN ?_ _) | (with_reducible refine Sl.drew ?_)))) _ 1 [.int .i64 (x.1 : Int), .slice va x.2.length vc] rfl (slFlA _ _ _ _ _ (by first | rfl | simp)) (by intro u hu; simp at hu; rcases hu with rfl | rfl <;> rfl) (by unfold maxLen; omega) (by omega) ?_; intro v2 w3 hsl2 hf2; obtain ⟨v2a, v2c, rfl⟩ := hsl2.shape; have H5 := Lib.hid (HBK.out _ w3 _ [x] _ (by (repeat (first | (with_reducible exact Below.refl _ _) | (with_reducible refine Bw.alloc ?_ _) | (with_reducible refine Bw.drewN ?_ _) | (with_reducible refine Bw.drew ?_)))) (by rw [HL.out.1]; exact hsl2) hf2 (fun Y ho => ⟨fun _ => False, Y, fun _ f => f.elim, fun _ h => .inl h, fun _ f => f.elim, by obtain ⟨H, _, h2⟩ := ho 0 _ (by decide) rfl; exact Els.single (E := eTr) ⟨_, rfl, (fl_by h2 HX.out D1.out).below (by (repeat (first | (with_reducible exact Below.refl _ _) | (with_reducible refine Bw.alloc ?_ _) | (with_reducible refine Bw.drewN ?_ _) | (with_reducible refine Bw.drew ?_))))⟩⟩)); clear hsl2 hf2)
        go_roundw
        case rel => exact ⟨j + 1, n4 + 1, n5, _, _, a5, c5, by omega, by go_num, rfl, rfl, by omega, by omega, Lib.hid (by rw [HS2.out.1, HS2.out.2, List.length_append]; exact ⟨by rw [HL.out.1]; rfl, HL.out.2⟩), Lib.hid (by rw [HS2.out.1, HS2.out.2]; exact H5.out)⟩
        case measure => simp [intOf]; omega
    · obtain rfl : j = c.flying.length := by omega
      go_wp2_with fail
      refine bodyPost_ret (v := .tuple #[refV { c with ticks := c.ticks + 1 } (.slice fa fn fc) (.slice a4 n4 c4), .slice a5 n5 c5]) (by simp [results, Try.results22, go_sem, refV, q0, q1, q2, q3, q4, q5, q6]) rfl ⟨_, _, rfl, ?_⟩
      have HROW := Lib.hid (HH.out.blk 1 rfl)
      have h1 := HH.out.set 1 rfl (.cells #[.int .i64 (c.delay : Int), .slice fa fn fc, .bool (!c.up), .int .i64 (c.sent : Int), .int .i64 ((c.ticks : Int) + 1), .slice a4 n4 c4, .int .i64 (c.lost : Int)] 47 (0, 0)) (w' := wr.setCell ⟨w.heap.size, 5, none⟩ (.slice a4 n4 c4)) (by (repeat (first | (with_reducible exact Fr.refl _ _) | exact Or.inl rfl | (with_reducible refine Fr.setCell ?_ ?_ _) | (with_reducible refine Fr.drewN ?_ _) | (with_reducible refine Fr.drew ?_)))) (by (apply row_trans; focus (repeat (first | (with_reducible exact HROW.out) | (with_reducible apply row_set) | (with_reducible apply row_drewN) | (with_reducible apply row_drew)))); simp)
      have HROW2 := Lib.hid (h1.blk 2 rfl)
      refine (Held.pick (Held.set h1 2 rfl (.cells #[.int .i64 (c.delay : Int), .slice fa fn fc, .bool (!c.up), .int .i64 (c.sent : Int), .int .i64 ((c.ticks : Int) + 1), .slice a4 n4 c4, .int .i64 (c.lost : Int)] 47 (0, 0)) ?_ ?_) [3, 4] [_, _] (by simp) rfl).did
      · (repeat (first | (with_reducible exact Fr.refl _ _) | exact Or.inl rfl | (with_reducible refine Fr.setCell ?_ ?_ _) | (with_reducible refine Fr.drewN ?_ _) | (with_reducible refine Fr.drew ?_)))
      · (apply row_trans; focus (repeat (first | (with_reducible exact HROW2.out) | (with_reducible apply row_set) | (with_reducible apply row_drewN) | (with_reducible apply row_drew))))
        simp
end Go.Proofs.Ytekojekgjfefkaa
