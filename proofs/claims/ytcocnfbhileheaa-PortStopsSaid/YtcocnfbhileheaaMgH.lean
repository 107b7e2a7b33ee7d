/- Several texts in one: Two connected ports in memory. Two connected ports in memory: offer. Two connected ports in memory: take. Two connected ports in memory: act. -/
import Derived.Test.YtcocnfbhileheaaMgG
import Derived.Test.YtcocnfbhileheaaPotF
import Derived.Test.YtcocnfbhileheaaPotG
import Derived.Test.YtcocnfbhileheaaReg
/- Two connected ports in memory. -/
namespace Go.Proofs.Ytcocnfbhileheaa
open Go.RowKit

/-- a byte as an element -/
def eU8 : El (BitVec 8) where
  size := 1
  rd _ _ _ cs x := cs = [.int .u8 (U x)]
  len h := by rw [h]; rfl
  keep h _ _ := h
  mono h _ _ := h
  one h u hu := by rw [h] at hu; obtain rfl := List.mem_singleton.1 hu; rfl
abbrev tBB (v : Value) (l : List Bytes) : Th := tSq (eSq eU8 5) 31 v l
structure PP where
  pl : Nat
  pr : Nat
  fl : Value
  fr : Value
  ol : Value
  or' : Value
  gl : Value
  gr : Value
abbrev pairRow (v : PP) : Obj := .cells #[.pointer (some ⟨v.pl, 0, none⟩), .pointer (some ⟨v.pr, 0, none⟩), v.fl, v.fr, v.ol, v.or', v.gl, v.gr] 51
abbrev pairThs (x : Nat) (P : Pr) (v : PP) : List Th :=
  [tBlk x (pairRow v), tPort v.pl P.l.prt, tPort v.pr P.r.prt, tRd ePt v.fl P.l.fly, tRd ePt v.fr P.r.fly, tBB v.ol P.l.off, tBB v.or' P.r.off, tBB v.gl P.l.got, tBB v.gr P.r.got]
def tPair (x : Nat) (P : Pr) : Th := tEx (pairThs x P)
section
variable {F Z : BS} {W w : World} {ts : List Th} {x : Nat} {P : Pr}
theorem pair_cells {v : PP} (h : w.heap[x]? = some (pairRow v)) : w.cell? ⟨x, 0, none⟩ = some (.pointer (some ⟨v.pl, 0, none⟩)) ∧ w.cell? ⟨x, 1, none⟩ = some (.pointer (some ⟨v.pr, 0, none⟩)) ∧ w.cell? ⟨x, 2, none⟩ = some v.fl ∧ w.cell? ⟨x, 3, none⟩ = some v.fr ∧
    w.cell? ⟨x, 4, none⟩ = some v.ol ∧ w.cell? ⟨x, 5, none⟩ = some v.or' ∧ w.cell? ⟨x, 6, none⟩ = some v.gl ∧ w.cell? ⟨x, 7, none⟩ = some v.gr :=
  ⟨blk_cell h rfl, blk_cell h rfl, blk_cell h rfl, blk_cell h rfl, blk_cell h rfl, blk_cell h rfl, blk_cell h rfl, blk_cell h rfl⟩
theorem Held.pair' (h : Held F Z W (tPair x P :: ts) w) : ∃ v, Held F Z W (pairThs x P v ++ ts) w := Held.opens h
theorem Held.pair_shut {v : PP} (h : Held F Z W (pairThs x P v ++ ts) w) : Held F Z W (tPair x P :: ts) w := Held.shut (f := pairThs x P) h
/-- a byte appended to one of the lists of a list -/
theorem Held.push8 (h : Held F Z W ts w) (i : Nat) {T2 : TypeId} {b off n cap : Nat} {xss : List Bytes} {xs : Bytes} (hi : ts[i]? = some (tSq (eSq eU8 5) T2 (.slice (some ⟨b, off, none⟩) n cap) xss)) {c : Nat} (hc : xss[c]? = some xs) (y : BitVec 8) :
    ∃ va vc K us, w.cell? ⟨b, off + c, none⟩ = some (.slice va xs.length vc) ∧ Sl w K 5 1 (.slice va xs.length vc) xs.length us ∧ (∀ (p : Nat) (j : Nat) (T' : Th), j ≠ i → ts[j]? = some T' → (∀ H Y, T'.on w H Y → H p ∨ Y p) → ¬ K p) ∧
      ∀ (w1 w2 : World) (v2 : Value), Below w.heap.size w w1 → Sl w2 (fun k => K k ∨ w1.heap.size ≤ k) 5 1 v2 (xs.length + 1) (us ++ [.int .u8 (U y)]) → Fr K w1 w2 →
        ∃ g2 off2 cap2, v2 = .slice (some ⟨g2, off2, none⟩) (xs.length + 1) cap2 ∧ w2.cell? ⟨b, off + c, none⟩ = some (.slice va xs.length vc) ∧ (∀ j, w2.frozen? ⟨b, j, none⟩ = false) ∧
          Held F Z W (ts.set i (tSq (eSq eU8 5) T2 (.slice (some ⟨b, off, none⟩) n cap) (xss.set c (xs ++ [y])))) (w2.setCell ⟨b, off + c, none⟩ v2) := by
  have hil := lt_of_get hi
  obtain ⟨vc, hvc, hout⟩ := h.out i hi hc
  have hg : (ts.set i (tSq (eOpt (eSq eU8 5)) T2 (.slice (some ⟨b, off, none⟩) n cap) ((xss.map some).set c none)) ++ [tSq eU8 5 vc xs])[ts.length]? = some (tSq eU8 5 vc xs) := by
    rw [List.getElem?_append_right (by simp), List.length_set, Nat.sub_self]; rfl
  obtain ⟨_, _, hsq⟩ := hout.get _ hg
  obtain ⟨va, k2, rfl⟩ := Sq.shape (show Sq eU8 5 w _ _ vc xs from hsq)
  obtain ⟨K, us, hsl, hKn, hback⟩ := hout.app _ hg
  have hbl : b < w.heap.size := World.block_lt_of_cell? w _ hvc
  have hget : ∀ (j : Nat) (T' : Th), j ≠ i → ts[j]? = some T' → (ts.set i (tSq (eOpt (eSq eU8 5)) T2 (.slice (some ⟨b, off, none⟩) n cap) ((xss.map some).set c none)) ++ [tSq eU8 5 (.slice va xs.length k2) xs])[j]? = some T' := fun j T' hj hT => by
    rw [List.getElem?_append_left (by rw [List.length_set]; exact lt_of_get hT), List.getElem?_set_ne (fun e => hj e.symm)]; exact hT
  have hKb : ¬ K b := hKn b i (tSq (eOpt (eSq eU8 5)) T2 (.slice (some ⟨b, off, none⟩) n cap) ((xss.map some).set c none)) (by omega) (by rw [List.getElem?_append_left (by rw [List.length_set]; exact hil), List.getElem?_set_self hil]) fun H Y h => .inl (Sq.free (show Sq _ _ _ H Y _ _ from h)).2.1
  refine ⟨va, k2, K, us, hvc, hsl, fun p j T' hj hT hp => hKn p j T' (by have := lt_of_get hT; omega) (hget j T' hj hT) hp, fun w1 w2 v2 hb hsl2 hfr => ?_⟩
  obtain ⟨g2, off2, cap2, rfl, _⟩ := Sl.head hsl2 (by omega)
  have hs4 := hback w1 w2 [.int .u8 (U y)] [y] _ hb hsl2 hfr fun Y _ => ⟨fun _ => False, fun _ => False, fun _ f => f.elim, fun _ f => f.elim, fun _ f => f.elim, Els.single (E := eU8) rfl⟩
  rw [List.set_append_right _ _ (by simp), List.length_set, Nat.sub_self, List.set_cons_zero] at hs4
  have hs5 := Held.back (c := c) (yss := xss.set c (xs ++ [y])) hs4 i (List.getElem?_set_self hil) (by rw [List.length_set, List.length_map]; exact lt_of_get hc) set_gap
  rw [List.set_set] at hs5
  refine ⟨g2, off2, cap2, rfl, (World.cell?_of_block (hfr.block b (Nat.lt_of_lt_of_le hbl hb.size) hKb)).trans ((World.cell?_of_block (hb.block b hbl)).trans hvc), ?_, hs5⟩
  obtain ⟨_, _, hh⟩ := hs4.get i (T := tSq (eOpt (eSq eU8 5)) T2 (.slice (some ⟨b, off, none⟩) n cap) ((xss.map some).set c none)) (by rw [List.getElem?_append_left (by rw [List.length_set]; exact hil), List.getElem?_set_self hil])
  exact (Sq.free (show Sq (eOpt (eSq eU8 5)) T2 w2 _ _ (.slice (some ⟨b, off, none⟩) n cap) ((xss.map some).set c none) from hh)).2.2.2
end
end Go.Proofs.Ytcocnfbhileheaa

/- Two connected ports in memory: offer. -/
namespace Go.Proofs.Ytcocnfbhileheaa
open Go.RowKit

section
variable {F Z : BS} {W w : World} {ts : List Th} {x N : Nat} {P : Pr}
set_option maxRecDepth 100000 in
set_option maxHeartbeats 8000000 in
theorem pairOffer_0 (hok : P.Ok N) (hN : N ≤ 100000000) (c : Nat) (hc : c < 2) (y : BitVec 8) (h : Held F Z W (tPair x P :: ts) w) :
    Calls Try.prog 23 #[.pointer (some ⟨x, 0, none⟩), .int .i64 0, .int .i64 (c : Int), .int .u8 (U y)] w fun e w' => e = .returned (.tuple #[]) ∧ Held F Z W (tPair x (P.offer 0 c y) :: ts) w' := by
  obtain ⟨⟨pl, pr, fl, fr, ol, or', gl, gr⟩, h0⟩ := h.pair'
  have hP : P.offer 0 c y = { P with l := P.l.offer c y } := rfl
  have HP := Lib.hid hP
  clear hP h
  have hrow := h0.blk 0 rfl
  obtain ⟨c0, c1, c2, c3, c4, c5, c6, c7⟩ := pair_cells hrow
  dsimp only at c0 c1 c2 c3 c4 c5 c6 c7
  have hb := below_alloc w (.cells #[.int .u8 (U y)] 5)
  have H1 := Lib.hid (h0.lit_by y 5).front
  have HROW := Lib.hid (show (w.alloc (.cells #[.int .u8 (U y)] 5)).heap[x]? = some (pairRow ⟨pl, pr, fl, fr, ol, or', gl, gr⟩) from (hb.block x (lt_of_block hrow)).trans hrow)
  have HPK := Lib.hid hok.l
  have htwo : P.l.prt.rooms.length = 2 := hok.l.two
  have hcr : c < P.l.prt.rooms.length := by omega
  clear hb hrow h0
  rcases offer_cases hok.l hc y with ⟨hw, e⟩ | ⟨hw, e⟩
  · have HE := Lib.hid e
    clear e
    go_enter Try.func23, Try.ntmps23
    go_wp2_with fail
    refine (poffer_full H1.out 2 rfl HPK.out.ok (by omega) c hcr _ 1 1 (by decide) hw).mono ?_
    rintro e w' ⟨rfl, rfl⟩
    go_wp2_with fail
    go_end0
    refine ⟨rfl, ?_⟩
    rw [HP.out, HE.out]
    exact (Held.pair_shut (v := ⟨pl, pr, fl, fr, ol, or', gl, gr⟩) H1.out.tail)
  · have HE := Lib.hid e
    clear e
    go_enter Try.func23, Try.ntmps23
    go_wp2_with fail
    refine (poffer_yes H1.out 2 0 rfl HPK.out.ok (by omega) c hcr _ [y] rfl (by decide) (by show 1 ≤ 64; decide) hw).mono ?_
    rintro e w2 ⟨rfl, h⟩
    have hth := h.tail
    have HSET := Lib.hid (show P.offer 0 c y = { P with l := { P.l with prt := { P.l.prt with waiting := P.l.prt.waiting.set c (P.l.prt.waiting.getD c [] ++ [[y]]) }, off := P.l.off.set c (P.l.off.getD c [] ++ [y]) } } by rw [HP.out, HE.out])
    generalize ({ P.l.prt with waiting := P.l.prt.waiting.set c (P.l.prt.waiting.getD c [] ++ [[y]]) } : Prt) = q at hth HSET
    have h2 : Held F Z W ([tBlk x (pairRow ⟨pl, pr, fl, fr, ol, or', gl, gr⟩), tPort pl q, tPort pr P.r.prt, tRd ePt fl P.l.fly, tRd ePt fr P.r.fly, tBB ol P.l.off, tBB or' P.r.off, tBB gl P.l.got, tBB gr P.r.got] ++ ts) w2 := hth
    have hrow := h2.blk 0 rfl
    have cc := blk_cell (i := 4) hrow rfl
    obtain ⟨_, _, hoff⟩ := h2.get 5 rfl
    obtain ⟨b1, o1, k1, e1, m1, m1'⟩ := sq_some (show Sq (eSq eU8 5) 31 w2 _ _ ol P.l.off from hoff) (by rw [HPK.out.o2]; decide)
    subst e1
    have hx := getD_of (d := []) (show c < P.l.off.length by rw [HPK.out.o2]; exact hc)
    have hxl := getD_all (P := fun l : Bytes => l.length ≤ N) HPK.out.ol (d := []) (Nat.zero_le _) c
    obtain ⟨va, vc, K', us, hvc, hsl, hKn, hback⟩ := h2.push8 5 rfl hx y
    have hKx : ¬ K' x := hKn x 0 _ (by decide) rfl fun _ _ h => .inl h.2
    obtain ⟨xs, hxs⟩ : ∃ xs, xs = P.l.off.getD c [] := ⟨_, rfl⟩
    have HXS := Lib.hid hxs
    rw [← hxs] at hvc hsl hback hxl
    dsimp only at cc
    rw [HPK.out.o2] at cc m1
    have HSL := Lib.hid hsl
    have HBACK := Lib.hid hback
    have HXN := Lib.hid (show xs.length + 1 ≤ 100000001 by omega)
    have HB := Lib.hid (show ¬ b1 = x from fun e => h2.apart 0 5 (by decide) rfl rfl (fun _ _ h => h.2) (fun _ _ h => (Sq.free (show Sq _ _ _ _ _ _ _ from h)).2.1) e.symm)
    have HKX := Lib.hid hKx
    clear hxs hback hsl hKn hxl hx m1' hoff hrow h2 hth h H1 hw HE hKx
    have hci : (c : Int) < 2 := by omega
    go_wp2_with fail
    refine wp_region_held_drew (S := fun w' => w'.cell? ⟨x, 4, none⟩ = some (.slice (some ⟨b1, o1, none⟩) 2 k1)) (by kernel_rfl) cc (fun hS0 => ?_)
    change wpAnyH _ _ _ _ _ (6 + 15) _ _ _
    refine wpAnyH_take_n 0 15 (by kernel_rfl) hS0 (fun _ _ _ _ _ h => h) ?_
    simp only [List.drop_zero, List.take_succ_cons, List.take_zero]
    iterate 15 (refine wpFirst_val (v := ?_) (by rfl) ?_ ?_; rotate_left 1; (focus ((intro w' hS'; go_simp); try with_reducible rfl)); simp only [Act.put, List.setIfInBounds_toArray, List.set_cons_zero, List.set_cons_succ])
    refine wpFirst_nil ?_
    change wpAnyH _ _ _ _ _ (5 + 1) _ _ _
    refine wpAnyH_take_n 16 1 (by kernel_rfl) hS0 (fun _ _ _ _ _ h => h) ?_
    simp only [List.drop_succ_cons, List.drop_zero, List.take_succ_cons, List.take_zero]
    (refine wpFirst_val (v := ?_) (by rfl) ?_ ?_; rotate_left 1; (focus ((intro w' hS'; go_simp); try with_reducible rfl)); simp only [Act.put, List.setIfInBounds_toArray, List.set_cons_zero, List.set_cons_succ])
    refine wpFirst_nil ?_
    have hvd : w2.drew.cell? ⟨b1, o1 + c, none⟩ = some (.slice va xs.length vc) := hvc
    have HBD := Lib.hid (show Below w2.heap.size w2 w2.drew from below_drew w2 1)
    have HSD := Lib.hid (show Sl w2.drew K' 5 1 (.slice va xs.length vc) xs.length us from HSL.out.drew)
    clear HSL
    obtain ⟨wd, hwd⟩ : ∃ wd, wd = w2.drew := ⟨_, rfl⟩
    rw [← hwd] at hvd HBD HSD hS0 ⊢
    clear hwd
    have hal : (wd.alloc (.cells #[.int .u8 (U y)] 5)).cell? ⟨x, 4, none⟩ = some (.slice (some ⟨b1, o1, none⟩) 2 k1) := alloc_cell _ _ hS0
    have hal2 : (wd.alloc (.cells #[.int .u8 (U y)] 5)).cell? ⟨b1, o1 + c, none⟩ = some (.slice va xs.length vc) := alloc_cell _ _ hvd
    refine wpAnyH_two 15 17 (by kernel_rfl) rfl rfl (fun K hK => ?_) (fun K hK => ?_)
    focus
      go_simp
      refine hK.out _ _ hS0 ?_
      clear hK K
      refine wpAnyH_one 17 (by kernel_rfl) rfl (fun K hK => ?_)
      go_simp
      refine hK.out _ _ hal ?_
      clear hK K
    rotate_left
    focus
      go_simp
      refine hK.out _ _ hal ?_
      clear hK K
      refine wpAnyH_one 15 (by kernel_rfl) rfl (fun K hK => ?_)
      go_simp
      refine hK.out _ _ hal ?_
      clear hK K
    all_goals
      refine wpAnyH_one 18 (by kernel_rfl) rfl (fun K hK => ?_)
      refine step_app_sl slB rfl _ _ rfl K' (.slice va xs.length vc) xs.length us rfl (HSD.out.alloc _) _ 1 [.int .u8 (U y)] rfl (rd_one _ _ _ _ rfl) (by intro u hu; simp at hu; subst hu; rfl) (by unfold maxLen; have := HXN.out; omega) (by have := HXN.out; omega) ?_
      intro v2 w3 hsl3 hfr3
      obtain ⟨g2, off2, cap2, rfl, k0, kf, hK5⟩ := HBACK.out _ w3 v2 (HBD.out.trans ((below_alloc wd _).mono HBD.out.size)) hsl3 hfr3
      have HK5 := Lib.hid hK5
      have hx3 : w3.cell? ⟨x, 4, none⟩ = some (.slice (some ⟨b1, o1, none⟩) 2 k1) := (World.cell?_of_block (hfr3.block x (World.block_lt_of_cell? _ _ hal) HKX.out)).trans hal
      clear hsl3 hfr3 HBACK HSD hK5 hal hal2 hS0
      refine hK.out _ _ hx3 ?_
      clear hK K
      simp only [Act.put, List.setIfInBounds_toArray, List.set_cons_zero, List.set_cons_succ]
      refine wpAnyH_one 19 (by kernel_rfl) rfl (fun K hK => ?_)
      go_simp
      refine hK.out _ _ hx3 ?_
      clear hK K
      refine wpAnyH_one 20 (by kernel_rfl) rfl (fun K hK => ?_)
      go_simp
      refine hK.out _ _ (cell_ne (fun e => HB.out e.symm) hx3) ?_
      clear hK K
      refine wpAnyH_done (by kernel_rfl) ?_ _
      go_wp2_with fail
      go_end0
      refine ⟨rfl, ?_⟩
      rw [HSET.out, ← HXS.out]
      exact Held.pair_shut (v := ⟨pl, pr, fl, fr, .slice (some ⟨b1, o1, none⟩) P.l.off.length k1, or', gl, gr⟩) HK5.out
set_option maxRecDepth 100000 in
set_option maxHeartbeats 8000000 in
theorem pairOffer_1 (hok : P.Ok N) (hN : N ≤ 100000000) (c : Nat) (hc : c < 2) (y : BitVec 8) (h : Held F Z W (tPair x P :: ts) w) :
    Calls Try.prog 23 #[.pointer (some ⟨x, 0, none⟩), .int .i64 1, .int .i64 (c : Int), .int .u8 (U y)] w fun e w' => e = .returned (.tuple #[]) ∧ Held F Z W (tPair x (P.offer 1 c y) :: ts) w' := by
  obtain ⟨⟨pl, pr, fl, fr, ol, or', gl, gr⟩, h0⟩ := h.pair'
  have hP : P.offer 1 c y = { P with r := P.r.offer c y } := rfl
  have HP := Lib.hid hP
  clear hP h
  have hrow := h0.blk 0 rfl
  obtain ⟨c0, c1, c2, c3, c4, c5, c6, c7⟩ := pair_cells hrow
  dsimp only at c0 c1 c2 c3 c4 c5 c6 c7
  have hb := below_alloc w (.cells #[.int .u8 (U y)] 5)
  have H1 := Lib.hid (h0.lit_by y 5).front
  have HROW := Lib.hid (show (w.alloc (.cells #[.int .u8 (U y)] 5)).heap[x]? = some (pairRow ⟨pl, pr, fl, fr, ol, or', gl, gr⟩) from (hb.block x (lt_of_block hrow)).trans hrow)
  have HPK := Lib.hid hok.r
  have htwo : P.r.prt.rooms.length = 2 := hok.r.two
  have hcr : c < P.r.prt.rooms.length := by omega
  clear hb hrow h0
  rcases offer_cases hok.r hc y with ⟨hw, e⟩ | ⟨hw, e⟩
  · have HE := Lib.hid e
    clear e
    go_enter Try.func23, Try.ntmps23
    go_wp2_with fail
    refine (poffer_full H1.out 3 rfl HPK.out.ok (by omega) c hcr _ 1 1 (by decide) hw).mono ?_
    rintro e w' ⟨rfl, rfl⟩
    go_wp2_with fail
    go_end0
    refine ⟨rfl, ?_⟩
    rw [HP.out, HE.out]
    exact (Held.pair_shut (v := ⟨pl, pr, fl, fr, ol, or', gl, gr⟩) H1.out.tail)
  · have HE := Lib.hid e
    clear e
    go_enter Try.func23, Try.ntmps23
    go_wp2_with fail
    refine (poffer_yes H1.out 3 0 rfl HPK.out.ok (by omega) c hcr _ [y] rfl (by decide) (by show 1 ≤ 64; decide) hw).mono ?_
    rintro e w2 ⟨rfl, h⟩
    have hth := h.tail
    have HSET := Lib.hid (show P.offer 1 c y = { P with r := { P.r with prt := { P.r.prt with waiting := P.r.prt.waiting.set c (P.r.prt.waiting.getD c [] ++ [[y]]) }, off := P.r.off.set c (P.r.off.getD c [] ++ [y]) } } by rw [HP.out, HE.out])
    generalize ({ P.r.prt with waiting := P.r.prt.waiting.set c (P.r.prt.waiting.getD c [] ++ [[y]]) } : Prt) = q at hth HSET
    have h2 : Held F Z W ([tBlk x (pairRow ⟨pl, pr, fl, fr, ol, or', gl, gr⟩), tPort pl P.l.prt, tPort pr q, tRd ePt fl P.l.fly, tRd ePt fr P.r.fly, tBB ol P.l.off, tBB or' P.r.off, tBB gl P.l.got, tBB gr P.r.got] ++ ts) w2 := hth
    have hrow := h2.blk 0 rfl
    have cc := blk_cell (i := 5) hrow rfl
    obtain ⟨_, _, hoff⟩ := h2.get 6 rfl
    obtain ⟨b1, o1, k1, e1, m1, m1'⟩ := sq_some (show Sq (eSq eU8 5) 31 w2 _ _ or' P.r.off from hoff) (by rw [HPK.out.o2]; decide)
    subst e1
    have hx := getD_of (d := []) (show c < P.r.off.length by rw [HPK.out.o2]; exact hc)
    have hxl := getD_all (P := fun l : Bytes => l.length ≤ N) HPK.out.ol (d := []) (Nat.zero_le _) c
    obtain ⟨va, vc, K', us, hvc, hsl, hKn, hback⟩ := h2.push8 6 rfl hx y
    have hKx : ¬ K' x := hKn x 0 _ (by decide) rfl fun _ _ h => .inl h.2
    obtain ⟨xs, hxs⟩ : ∃ xs, xs = P.r.off.getD c [] := ⟨_, rfl⟩
    have HXS := Lib.hid hxs
    rw [← hxs] at hvc hsl hback hxl
    dsimp only at cc
    rw [HPK.out.o2] at cc m1
    have HSL := Lib.hid hsl
    have HBACK := Lib.hid hback
    have HXN := Lib.hid (show xs.length + 1 ≤ 100000001 by omega)
    have HB := Lib.hid (show ¬ b1 = x from fun e => h2.apart 0 6 (by decide) rfl rfl (fun _ _ h => h.2) (fun _ _ h => (Sq.free (show Sq _ _ _ _ _ _ _ from h)).2.1) e.symm)
    have HKX := Lib.hid hKx
    clear hxs hback hsl hKn hxl hx m1' hoff hrow h2 hth h H1 hw HE hKx
    have hci : (c : Int) < 2 := by omega
    go_wp2_with fail
    refine wp_region_held_drew (S := fun w' => w'.cell? ⟨x, 5, none⟩ = some (.slice (some ⟨b1, o1, none⟩) 2 k1)) (by kernel_rfl) cc (fun hS0 => ?_)
    change wpAnyH _ _ _ _ _ (6 + 15) _ _ _
    refine wpAnyH_take_n 0 15 (by kernel_rfl) hS0 (fun _ _ _ _ _ h => h) ?_
    simp only [List.drop_zero, List.take_succ_cons, List.take_zero]
    iterate 15 (refine wpFirst_val (v := ?_) (by rfl) ?_ ?_; rotate_left 1; (focus ((intro w' hS'; go_simp); try with_reducible rfl)); simp only [Act.put, List.setIfInBounds_toArray, List.set_cons_zero, List.set_cons_succ])
    refine wpFirst_nil ?_
    change wpAnyH _ _ _ _ _ (5 + 1) _ _ _
    refine wpAnyH_take_n 16 1 (by kernel_rfl) hS0 (fun _ _ _ _ _ h => h) ?_
    simp only [List.drop_succ_cons, List.drop_zero, List.take_succ_cons, List.take_zero]
    (refine wpFirst_val (v := ?_) (by rfl) ?_ ?_; rotate_left 1; (focus ((intro w' hS'; go_simp); try with_reducible rfl)); simp only [Act.put, List.setIfInBounds_toArray, List.set_cons_zero, List.set_cons_succ])
    refine wpFirst_nil ?_
    have hvd : w2.drew.cell? ⟨b1, o1 + c, none⟩ = some (.slice va xs.length vc) := hvc
    have HBD := Lib.hid (show Below w2.heap.size w2 w2.drew from below_drew w2 1)
    have HSD := Lib.hid (show Sl w2.drew K' 5 1 (.slice va xs.length vc) xs.length us from HSL.out.drew)
    clear HSL
    obtain ⟨wd, hwd⟩ : ∃ wd, wd = w2.drew := ⟨_, rfl⟩
    rw [← hwd] at hvd HBD HSD hS0 ⊢
    clear hwd
    have hal : (wd.alloc (.cells #[.int .u8 (U y)] 5)).cell? ⟨x, 5, none⟩ = some (.slice (some ⟨b1, o1, none⟩) 2 k1) := alloc_cell _ _ hS0
    have hal2 : (wd.alloc (.cells #[.int .u8 (U y)] 5)).cell? ⟨b1, o1 + c, none⟩ = some (.slice va xs.length vc) := alloc_cell _ _ hvd
    refine wpAnyH_two 15 17 (by kernel_rfl) rfl rfl (fun K hK => ?_) (fun K hK => ?_)
    focus
      go_simp
      refine hK.out _ _ hS0 ?_
      clear hK K
      refine wpAnyH_one 17 (by kernel_rfl) rfl (fun K hK => ?_)
      go_simp
      refine hK.out _ _ hal ?_
      clear hK K
    rotate_left
    focus
      go_simp
      refine hK.out _ _ hal ?_
      clear hK K
      refine wpAnyH_one 15 (by kernel_rfl) rfl (fun K hK => ?_)
      go_simp
      refine hK.out _ _ hal ?_
      clear hK K
    all_goals
      refine wpAnyH_one 18 (by kernel_rfl) rfl (fun K hK => ?_)
      refine step_app_sl slB rfl _ _ rfl K' (.slice va xs.length vc) xs.length us rfl (HSD.out.alloc _) _ 1 [.int .u8 (U y)] rfl (rd_one _ _ _ _ rfl) (by intro u hu; simp at hu; subst hu; rfl) (by unfold maxLen; have := HXN.out; omega) (by have := HXN.out; omega) ?_
      intro v2 w3 hsl3 hfr3
      obtain ⟨g2, off2, cap2, rfl, k0, kf, hK5⟩ := HBACK.out _ w3 v2 (HBD.out.trans ((below_alloc wd _).mono HBD.out.size)) hsl3 hfr3
      have HK5 := Lib.hid hK5
      have hx3 : w3.cell? ⟨x, 5, none⟩ = some (.slice (some ⟨b1, o1, none⟩) 2 k1) := (World.cell?_of_block (hfr3.block x (World.block_lt_of_cell? _ _ hal) HKX.out)).trans hal
      clear hsl3 hfr3 HBACK HSD hK5 hal hal2 hS0
      refine hK.out _ _ hx3 ?_
      clear hK K
      simp only [Act.put, List.setIfInBounds_toArray, List.set_cons_zero, List.set_cons_succ]
      refine wpAnyH_one 19 (by kernel_rfl) rfl (fun K hK => ?_)
      go_simp
      refine hK.out _ _ hx3 ?_
      clear hK K
      refine wpAnyH_one 20 (by kernel_rfl) rfl (fun K hK => ?_)
      go_simp
      refine hK.out _ _ (cell_ne (fun e => HB.out e.symm) hx3) ?_
      clear hK K
      refine wpAnyH_done (by kernel_rfl) ?_ _
      go_wp2_with fail
      go_end0
      refine ⟨rfl, ?_⟩
      rw [HSET.out, ← HXS.out]
      exact Held.pair_shut (v := ⟨pl, pr, fl, fr, ol, .slice (some ⟨b1, o1, none⟩) P.r.off.length k1, gl, gr⟩) HK5.out
end
end Go.Proofs.Ytcocnfbhileheaa

/- Two connected ports in memory: take. -/
namespace Go.Proofs.Ytcocnfbhileheaa
open Go.RowKit

section
variable {F Z : BS} {W w : World} {ts : List Th} {x N : Nat} {P : Pr}
theorem Held.apartZ {A B : Th} {p q : Nat} (h : Held F Z W ts w) (i j : Nat) (hij : i ≠ j) (hi : ts[i]? = some A) (hj : ts[j]? = some B) (ha : ∀ G Y, A.on w G Y → G p) (hb : ∀ G Y, B.on w G Y → G q ∨ Y q) : p ≠ q := by
  obtain ⟨G, Y, hon, hd, _, hoth, _⟩ := h.use i hi
  obtain ⟨H, h1, _, h3⟩ := hoth j B (Ne.symm hij) hj
  rintro rfl
  exact (hb H Y h3).elim (fun hh => h1 p (ha G Y hon) hh) fun hy => hd p (ha G Y hon) hy
theorem by1_at {w : World} {v : Value} {x : BitVec 8} (h : By w v [x]) : ∃ b off cap, v = .slice (some ⟨b, off, none⟩) 1 cap ∧ 1 ≤ cap ∧ w.cell? ⟨b, off, none⟩ = some (.int .u8 (U x)) := by
  obtain ⟨_, ⟨h0, _⟩ | ⟨b, off, cap, rfl, _, h1, _, hc⟩⟩ := h.cases
  · cases h0
  · exact ⟨b, off, cap, rfl, h1, by simpa using hc 0 (by simp)⟩
set_option maxRecDepth 100000 in
set_option maxHeartbeats 8000000 in
theorem pairTake_0 (hok : P.Ok N) (hN : N ≤ 100000000) (c : Nat) (hc : c < 2) (h : Held F Z W (tPair x P :: ts) w) :
    Calls Try.prog 24 #[.pointer (some ⟨x, 0, none⟩), .int .i64 0, .int .i64 (c : Int)] w fun e w' => e = .returned (.bool true) ∧ Held F Z W (tPair x (P.take 0 c) :: ts) w' := by
  obtain ⟨⟨pl, pr, fl, fr, ol, or', gl, gr⟩, h0⟩ := h.pair'
  have hP : P.take 0 c = { P with l := P.l.take c } := rfl
  have HP := Lib.hid hP
  clear hP h
  have hrow := h0.blk 0 rfl
  obtain ⟨c0, c1, c2, c3, c4, c5, c6, c7⟩ := pair_cells hrow
  dsimp only at c0 c1 c2 c3 c4 c5 c6 c7
  have H1 := Lib.hid h0
  have HPK := Lib.hid hok.l
  have htwo : P.l.prt.rooms.length = 2 := hok.l.two
  have hcr : c < P.l.prt.rooms.length := by omega
  clear hrow h0
  rcases take_cases hok.l hc with ⟨hb, hpk, e⟩ | ⟨y, l, hb, hpk, htk, e⟩
  · have HE := Lib.hid e
    clear e hb
    go_enter Try.func24, Try.ntmps24
    go_wp2_with fail
    refine (take_no H1.out 1 rfl HPK.out.ok (c : Int) hpk).mono ?_
    rintro e w' ⟨rfl, rfl⟩
    go_wp2_with fail
    go_ret
    refine ⟨rfl, ?_⟩
    rw [HP.out, HE.out]
    exact (Held.pair_shut (v := ⟨pl, pr, fl, fr, ol, or', gl, gr⟩) H1.out)
  · have HE := Lib.hid e
    have HTK := Lib.hid htk
    clear e hpk htk
    go_enter Try.func24, Try.ntmps24
    go_wp2_with fail
    refine (take_yes H1.out 1 rfl HPK.out.ok (by omega) c hcr [y] l hb).mono ?_
    rintro e w2 ⟨dv, rfl, h⟩
    have hth := h.front
    rw [HTK.out] at hth
    have HSET := Lib.hid (show P.take 0 c = { P with l := { P.l with prt := { P.l.prt with buffer := P.l.prt.buffer.set c l, giv := P.l.prt.giv.set c (P.l.prt.gv c).free, taken := P.l.prt.taken.set c (P.l.prt.taken.getD c 0 + 1) }, got := P.l.got.set c (P.l.got.getD c [] ++ [y]) } } by rw [HP.out, HE.out])
    dsimp only at hth
    generalize ({ P.l.prt with buffer := P.l.prt.buffer.set c l, giv := P.l.prt.giv.set c (P.l.prt.gv c).free, taken := P.l.prt.taken.set c (P.l.prt.taken.getD c 0 + 1) } : Prt) = q at hth HSET
    have h2 : Held F Z W (tBy dv [y] :: [tBlk x (pairRow ⟨pl, pr, fl, fr, ol, or', gl, gr⟩), tPort pl q, tPort pr P.r.prt, tRd ePt fl P.l.fly, tRd ePt fr P.r.fly, tBB ol P.l.off, tBB or' P.r.off, tBB gl P.l.got, tBB gr P.r.got] ++ ts) w2 := hth
    have hrow := h2.blk 1 rfl
    have cc := blk_cell (i := 6) hrow rfl
    obtain ⟨_, _, hoff⟩ := h2.get 8 rfl
    obtain ⟨_, _, hdat⟩ := h2.get 0 rfl
    obtain ⟨b5, o5, k5, e5, _, hd5⟩ := by1_at (show By w2 dv [y] from hdat.1)
    obtain ⟨b1, o1, k1, e1, m1, m1'⟩ := sq_some (show Sq (eSq eU8 5) 31 w2 _ _ gl P.l.got from hoff) (by rw [HPK.out.g2]; decide)
    subst e1 e5
    have hx := getD_of (d := []) (show c < P.l.got.length by rw [HPK.out.g2]; exact hc)
    have hxl := getD_all (P := fun l : Bytes => l.length ≤ N) HPK.out.gl (d := []) (Nat.zero_le _) c
    obtain ⟨va, vc, K', us, hvc, hsl, hKn, hback⟩ := h2.push8 8 rfl hx y
    have hKx : ¬ K' x := hKn x 1 _ (by decide) rfl fun _ _ h => .inl h.2
    have hKd : ¬ K' b5 := hKn b5 0 _ (by decide) rfl fun _ _ h => .inr (h.2 (by show 0 < 1; decide) b5 rfl)
    obtain ⟨xs, hxs⟩ : ∃ xs, xs = P.l.got.getD c [] := ⟨_, rfl⟩
    have HXS := Lib.hid hxs
    rw [← hxs] at hvc hsl hback hxl
    dsimp only at cc
    rw [HPK.out.g2] at cc m1
    have HSL := Lib.hid hsl
    have HBACK := Lib.hid hback
    have HXN := Lib.hid (show xs.length + 1 ≤ 100000001 by omega)
    have HB := Lib.hid (show ¬ b1 = x from fun e => h2.apart 1 8 (by decide) rfl rfl (fun _ _ h => h.2) (fun _ _ h => (Sq.free (show Sq _ _ _ _ _ _ _ from h)).2.1) e.symm)
    have HBD5 := Lib.hid (show ¬ b1 = b5 from fun e => h2.apartZ 8 0 (by decide) rfl rfl (fun _ _ h => (Sq.free (show Sq _ _ _ _ _ _ _ from h)).2.1) (fun _ _ h => .inr (h.2 (by show 0 < 1; decide) b5 rfl)) e)
    have HKX := Lib.hid hKx
    have HKD := Lib.hid hKd
    clear hxs hback hsl hKn hxl hx m1' hoff hdat hrow h2 hth h H1 HE hKx hKd hb HTK
    have hci : (c : Int) < 2 := by omega
    go_wp2_with fail
    refine wp_region_held_drew (S := fun w' => w'.cell? ⟨x, 6, none⟩ = some (.slice (some ⟨b1, o1, none⟩) 2 k1) ∧ w'.cell? ⟨b5, o5, none⟩ = some (.int .u8 (U y))) (by kernel_rfl) ⟨cc, hd5⟩ (fun hS0 => ?_)
    change wpAnyH _ _ _ _ _ (8 + 15) _ _ _
    refine wpAnyH_take_n 0 15 (by kernel_rfl) hS0 (fun _ _ _ _ _ h => h) ?_
    simp only [List.drop_zero, List.take_succ_cons, List.take_zero]
    iterate 15 (refine wpFirst_val (v := ?_) (by rfl) ?_ ?_; rotate_left 1; (focus ((intro w' hS'; have h0 := hS'.1; have h1 := hS'.2; go_simp); try with_reducible rfl)); simp only [Act.put, List.setIfInBounds_toArray, List.set_cons_zero, List.set_cons_succ])
    refine wpFirst_nil ?_
    change wpAnyH _ _ _ _ _ (5 + 3) _ _ _
    refine wpAnyH_take_n 16 3 (by kernel_rfl) hS0 (fun _ _ _ _ _ h => h) ?_
    simp only [List.drop_succ_cons, List.drop_zero, List.take_succ_cons, List.take_zero]
    iterate 3 (refine wpFirst_val (v := ?_) (by rfl) ?_ ?_; rotate_left 1; (focus ((intro w' hS'; have h0 := hS'.1; have h1 := hS'.2; go_simp); try with_reducible rfl)); simp only [Act.put, List.setIfInBounds_toArray, List.set_cons_zero, List.set_cons_succ])
    refine wpFirst_nil ?_
    have hvd : w2.drew.cell? ⟨b1, o1 + c, none⟩ = some (.slice va xs.length vc) := hvc
    have HBD := Lib.hid (show Below w2.heap.size w2 w2.drew from below_drew w2 1)
    have HSD := Lib.hid (show Sl w2.drew K' 5 1 (.slice va xs.length vc) xs.length us from HSL.out.drew)
    clear HSL
    obtain ⟨wd, hwd⟩ : ∃ wd, wd = w2.drew := ⟨_, rfl⟩
    rw [← hwd] at hvd HBD HSD hS0 ⊢
    clear hwd
    obtain ⟨hS0, hS5⟩ := hS0
    have hal : (wd.alloc (.cells #[.int .u8 (U y)] 5)).cell? ⟨x, 6, none⟩ = some (.slice (some ⟨b1, o1, none⟩) 2 k1) := alloc_cell _ _ hS0
    have hal5 : (wd.alloc (.cells #[.int .u8 (U y)] 5)).cell? ⟨b5, o5, none⟩ = some (.int .u8 (U y)) := alloc_cell _ _ hS5
    have hal2 : (wd.alloc (.cells #[.int .u8 (U y)] 5)).cell? ⟨b1, o1 + c, none⟩ = some (.slice va xs.length vc) := alloc_cell _ _ hvd
    refine wpAnyH_two 15 19 (by kernel_rfl) rfl rfl (fun K hK => ?_) (fun K hK => ?_)
    focus
      go_simp
      refine hK.out _ _ ⟨hS0, hS5⟩ ?_
      clear hK K
      refine wpAnyH_one 19 (by kernel_rfl) rfl (fun K hK => ?_)
      go_simp
      refine hK.out _ _ ⟨hal, hal5⟩ ?_
      clear hK K
    rotate_left
    focus
      go_simp
      refine hK.out _ _ ⟨hal, hal5⟩ ?_
      clear hK K
      refine wpAnyH_one 15 (by kernel_rfl) rfl (fun K hK => ?_)
      go_simp
      refine hK.out _ _ ⟨hal, hal5⟩ ?_
      clear hK K
    all_goals
      refine wpAnyH_one 20 (by kernel_rfl) rfl (fun K hK => ?_)
      refine step_app_sl slB rfl _ _ rfl K' (.slice va xs.length vc) xs.length us rfl (HSD.out.alloc _) _ 1 [.int .u8 (U y)] rfl (rd_one _ _ _ _ rfl) (by intro u hu; simp at hu; subst hu; rfl) (by unfold maxLen; have := HXN.out; omega) (by have := HXN.out; omega) ?_
      intro v2 w3 hsl3 hfr3
      obtain ⟨g2, off2, cap2, rfl, k0, kf, hK5⟩ := HBACK.out _ w3 v2 (HBD.out.trans ((below_alloc wd _).mono HBD.out.size)) hsl3 hfr3
      have HK5 := Lib.hid hK5
      have hx3 : w3.cell? ⟨x, 6, none⟩ = some (.slice (some ⟨b1, o1, none⟩) 2 k1) := (World.cell?_of_block (hfr3.block x (World.block_lt_of_cell? _ _ hal) HKX.out)).trans hal
      have hx5 : w3.cell? ⟨b5, o5, none⟩ = some (.int .u8 (U y)) := (World.cell?_of_block (hfr3.block b5 (World.block_lt_of_cell? _ _ hal5) HKD.out)).trans hal5
      clear hsl3 hfr3 HBACK HSD hK5 hal hal2 hal5 hS0 hS5
      refine hK.out _ _ ⟨hx3, hx5⟩ ?_
      clear hK K
      simp only [Act.put, List.setIfInBounds_toArray, List.set_cons_zero, List.set_cons_succ]
      refine wpAnyH_one 21 (by kernel_rfl) rfl (fun K hK => ?_)
      go_simp
      refine hK.out _ _ ⟨hx3, hx5⟩ ?_
      clear hK K
      refine wpAnyH_one 22 (by kernel_rfl) rfl (fun K hK => ?_)
      go_simp
      refine hK.out _ _ ⟨cell_ne (fun e => HB.out e.symm) hx3, cell_ne (fun e => HBD5.out e.symm) hx5⟩ ?_
      clear hK K
      refine wpAnyH_done (by kernel_rfl) ?_ _
      go_wp2_with fail
      go_ret
      refine ⟨rfl, ?_⟩
      rw [HSET.out, ← HXS.out]
      exact Held.pair_shut (v := ⟨pl, pr, fl, fr, ol, or', .slice (some ⟨b1, o1, none⟩) P.l.got.length k1, gr⟩) HK5.out.tail
set_option maxRecDepth 100000 in
set_option maxHeartbeats 8000000 in
theorem pairTake_1 (hok : P.Ok N) (hN : N ≤ 100000000) (c : Nat) (hc : c < 2) (h : Held F Z W (tPair x P :: ts) w) :
    Calls Try.prog 24 #[.pointer (some ⟨x, 0, none⟩), .int .i64 1, .int .i64 (c : Int)] w fun e w' => e = .returned (.bool true) ∧ Held F Z W (tPair x (P.take 1 c) :: ts) w' := by
  obtain ⟨⟨pl, pr, fl, fr, ol, or', gl, gr⟩, h0⟩ := h.pair'
  have hP : P.take 1 c = { P with r := P.r.take c } := rfl
  have HP := Lib.hid hP
  clear hP h
  have hrow := h0.blk 0 rfl
  obtain ⟨c0, c1, c2, c3, c4, c5, c6, c7⟩ := pair_cells hrow
  dsimp only at c0 c1 c2 c3 c4 c5 c6 c7
  have H1 := Lib.hid h0
  have HPK := Lib.hid hok.r
  have htwo : P.r.prt.rooms.length = 2 := hok.r.two
  have hcr : c < P.r.prt.rooms.length := by omega
  clear hrow h0
  rcases take_cases hok.r hc with ⟨hb, hpk, e⟩ | ⟨y, l, hb, hpk, htk, e⟩
  · have HE := Lib.hid e
    clear e hb
    go_enter Try.func24, Try.ntmps24
    go_wp2_with fail
    refine (take_no H1.out 2 rfl HPK.out.ok (c : Int) hpk).mono ?_
    rintro e w' ⟨rfl, rfl⟩
    go_wp2_with fail
    go_ret
    refine ⟨rfl, ?_⟩
    rw [HP.out, HE.out]
    exact (Held.pair_shut (v := ⟨pl, pr, fl, fr, ol, or', gl, gr⟩) H1.out)
  · have HE := Lib.hid e
    have HTK := Lib.hid htk
    clear e hpk htk
    go_enter Try.func24, Try.ntmps24
    go_wp2_with fail
    refine (take_yes H1.out 2 rfl HPK.out.ok (by omega) c hcr [y] l hb).mono ?_
    rintro e w2 ⟨dv, rfl, h⟩
    have hth := h.front
    rw [HTK.out] at hth
    have HSET := Lib.hid (show P.take 1 c = { P with r := { P.r with prt := { P.r.prt with buffer := P.r.prt.buffer.set c l, giv := P.r.prt.giv.set c (P.r.prt.gv c).free, taken := P.r.prt.taken.set c (P.r.prt.taken.getD c 0 + 1) }, got := P.r.got.set c (P.r.got.getD c [] ++ [y]) } } by rw [HP.out, HE.out])
    dsimp only at hth
    generalize ({ P.r.prt with buffer := P.r.prt.buffer.set c l, giv := P.r.prt.giv.set c (P.r.prt.gv c).free, taken := P.r.prt.taken.set c (P.r.prt.taken.getD c 0 + 1) } : Prt) = q at hth HSET
    have h2 : Held F Z W (tBy dv [y] :: [tBlk x (pairRow ⟨pl, pr, fl, fr, ol, or', gl, gr⟩), tPort pl P.l.prt, tPort pr q, tRd ePt fl P.l.fly, tRd ePt fr P.r.fly, tBB ol P.l.off, tBB or' P.r.off, tBB gl P.l.got, tBB gr P.r.got] ++ ts) w2 := hth
    have hrow := h2.blk 1 rfl
    have cc := blk_cell (i := 7) hrow rfl
    obtain ⟨_, _, hoff⟩ := h2.get 9 rfl
    obtain ⟨_, _, hdat⟩ := h2.get 0 rfl
    obtain ⟨b5, o5, k5, e5, _, hd5⟩ := by1_at (show By w2 dv [y] from hdat.1)
    obtain ⟨b1, o1, k1, e1, m1, m1'⟩ := sq_some (show Sq (eSq eU8 5) 31 w2 _ _ gr P.r.got from hoff) (by rw [HPK.out.g2]; decide)
    subst e1 e5
    have hx := getD_of (d := []) (show c < P.r.got.length by rw [HPK.out.g2]; exact hc)
    have hxl := getD_all (P := fun l : Bytes => l.length ≤ N) HPK.out.gl (d := []) (Nat.zero_le _) c
    obtain ⟨va, vc, K', us, hvc, hsl, hKn, hback⟩ := h2.push8 9 rfl hx y
    have hKx : ¬ K' x := hKn x 1 _ (by decide) rfl fun _ _ h => .inl h.2
    have hKd : ¬ K' b5 := hKn b5 0 _ (by decide) rfl fun _ _ h => .inr (h.2 (by show 0 < 1; decide) b5 rfl)
    obtain ⟨xs, hxs⟩ : ∃ xs, xs = P.r.got.getD c [] := ⟨_, rfl⟩
    have HXS := Lib.hid hxs
    rw [← hxs] at hvc hsl hback hxl
    dsimp only at cc
    rw [HPK.out.g2] at cc m1
    have HSL := Lib.hid hsl
    have HBACK := Lib.hid hback
    have HXN := Lib.hid (show xs.length + 1 ≤ 100000001 by omega)
    have HB := Lib.hid (show ¬ b1 = x from fun e => h2.apart 1 9 (by decide) rfl rfl (fun _ _ h => h.2) (fun _ _ h => (Sq.free (show Sq _ _ _ _ _ _ _ from h)).2.1) e.symm)
    have HBD5 := Lib.hid (show ¬ b1 = b5 from fun e => h2.apartZ 9 0 (by decide) rfl rfl (fun _ _ h => (Sq.free (show Sq _ _ _ _ _ _ _ from h)).2.1) (fun _ _ h => .inr (h.2 (by show 0 < 1; decide) b5 rfl)) e)
    have HKX := Lib.hid hKx
    have HKD := Lib.hid hKd
    clear hxs hback hsl hKn hxl hx m1' hoff hdat hrow h2 hth h H1 HE hKx hKd hb HTK
    have hci : (c : Int) < 2 := by omega
    go_wp2_with fail
    refine wp_region_held_drew (S := fun w' => w'.cell? ⟨x, 7, none⟩ = some (.slice (some ⟨b1, o1, none⟩) 2 k1) ∧ w'.cell? ⟨b5, o5, none⟩ = some (.int .u8 (U y))) (by kernel_rfl) ⟨cc, hd5⟩ (fun hS0 => ?_)
    change wpAnyH _ _ _ _ _ (8 + 15) _ _ _
    refine wpAnyH_take_n 0 15 (by kernel_rfl) hS0 (fun _ _ _ _ _ h => h) ?_
    simp only [List.drop_zero, List.take_succ_cons, List.take_zero]
    iterate 15 (refine wpFirst_val (v := ?_) (by rfl) ?_ ?_; rotate_left 1; (focus ((intro w' hS'; have h0 := hS'.1; have h1 := hS'.2; go_simp); try with_reducible rfl)); simp only [Act.put, List.setIfInBounds_toArray, List.set_cons_zero, List.set_cons_succ])
    refine wpFirst_nil ?_
    change wpAnyH _ _ _ _ _ (5 + 3) _ _ _
    refine wpAnyH_take_n 16 3 (by kernel_rfl) hS0 (fun _ _ _ _ _ h => h) ?_
    simp only [List.drop_succ_cons, List.drop_zero, List.take_succ_cons, List.take_zero]
    iterate 3 (refine wpFirst_val (v := ?_) (by rfl) ?_ ?_; rotate_left 1; (focus ((intro w' hS'; have h0 := hS'.1; have h1 := hS'.2; go_simp); try with_reducible rfl)); simp only [Act.put, List.setIfInBounds_toArray, List.set_cons_zero, List.set_cons_succ])
    refine wpFirst_nil ?_
    have hvd : w2.drew.cell? ⟨b1, o1 + c, none⟩ = some (.slice va xs.length vc) := hvc
    have HBD := Lib.hid (show Below w2.heap.size w2 w2.drew from below_drew w2 1)
    have HSD := Lib.hid (show Sl w2.drew K' 5 1 (.slice va xs.length vc) xs.length us from HSL.out.drew)
    clear HSL
    obtain ⟨wd, hwd⟩ : ∃ wd, wd = w2.drew := ⟨_, rfl⟩
    rw [← hwd] at hvd HBD HSD hS0 ⊢
    clear hwd
    obtain ⟨hS0, hS5⟩ := hS0
    have hal : (wd.alloc (.cells #[.int .u8 (U y)] 5)).cell? ⟨x, 7, none⟩ = some (.slice (some ⟨b1, o1, none⟩) 2 k1) := alloc_cell _ _ hS0
    have hal5 : (wd.alloc (.cells #[.int .u8 (U y)] 5)).cell? ⟨b5, o5, none⟩ = some (.int .u8 (U y)) := alloc_cell _ _ hS5
    have hal2 : (wd.alloc (.cells #[.int .u8 (U y)] 5)).cell? ⟨b1, o1 + c, none⟩ = some (.slice va xs.length vc) := alloc_cell _ _ hvd
    refine wpAnyH_two 15 19 (by kernel_rfl) rfl rfl (fun K hK => ?_) (fun K hK => ?_)
    focus
      go_simp
      refine hK.out _ _ ⟨hS0, hS5⟩ ?_
      clear hK K
      refine wpAnyH_one 19 (by kernel_rfl) rfl (fun K hK => ?_)
      go_simp
      refine hK.out _ _ ⟨hal, hal5⟩ ?_
      clear hK K
    rotate_left
    focus
      go_simp
      refine hK.out _ _ ⟨hal, hal5⟩ ?_
      clear hK K
      refine wpAnyH_one 15 (by kernel_rfl) rfl (fun K hK => ?_)
      go_simp
      refine hK.out _ _ ⟨hal, hal5⟩ ?_
      clear hK K
    all_goals
      refine wpAnyH_one 20 (by kernel_rfl) rfl (fun K hK => ?_)
      refine step_app_sl slB rfl _ _ rfl K' (.slice va xs.length vc) xs.length us rfl (HSD.out.alloc _) _ 1 [.int .u8 (U y)] rfl (rd_one _ _ _ _ rfl) (by intro u hu; simp at hu; subst hu; rfl) (by unfold maxLen; have := HXN.out; omega) (by have := HXN.out; omega) ?_
      intro v2 w3 hsl3 hfr3
      obtain ⟨g2, off2, cap2, rfl, k0, kf, hK5⟩ := HBACK.out _ w3 v2 (HBD.out.trans ((below_alloc wd _).mono HBD.out.size)) hsl3 hfr3
      have HK5 := Lib.hid hK5
      have hx3 : w3.cell? ⟨x, 7, none⟩ = some (.slice (some ⟨b1, o1, none⟩) 2 k1) := (World.cell?_of_block (hfr3.block x (World.block_lt_of_cell? _ _ hal) HKX.out)).trans hal
      have hx5 : w3.cell? ⟨b5, o5, none⟩ = some (.int .u8 (U y)) := (World.cell?_of_block (hfr3.block b5 (World.block_lt_of_cell? _ _ hal5) HKD.out)).trans hal5
      clear hsl3 hfr3 HBACK HSD hK5 hal hal2 hal5 hS0 hS5
      refine hK.out _ _ ⟨hx3, hx5⟩ ?_
      clear hK K
      simp only [Act.put, List.setIfInBounds_toArray, List.set_cons_zero, List.set_cons_succ]
      refine wpAnyH_one 21 (by kernel_rfl) rfl (fun K hK => ?_)
      go_simp
      refine hK.out _ _ ⟨hx3, hx5⟩ ?_
      clear hK K
      refine wpAnyH_one 22 (by kernel_rfl) rfl (fun K hK => ?_)
      go_simp
      refine hK.out _ _ ⟨cell_ne (fun e => HB.out e.symm) hx3, cell_ne (fun e => HBD5.out e.symm) hx5⟩ ?_
      clear hK K
      refine wpAnyH_done (by kernel_rfl) ?_ _
      go_wp2_with fail
      go_ret
      refine ⟨rfl, ?_⟩
      rw [HSET.out, ← HXS.out]
      exact Held.pair_shut (v := ⟨pl, pr, fl, fr, ol, or', gl, .slice (some ⟨b1, o1, none⟩) P.r.got.length k1⟩) HK5.out.tail
end
end Go.Proofs.Ytcocnfbhileheaa

/- Two connected ports in memory: act. -/
namespace Go.Proofs.Ytcocnfbhileheaa
open Go.RowKit

theorem byte_div (e : Nat) (he : e < 256) : U (BitVec.ofNat 8 (e / 4)) = ((e / 4 : Nat) : Int) := by
  unfold U; rw [BitVec.toNat_ofNat, Nat.mod_eq_of_lt (by omega)]
theorem and1_i64 (k : Nat) (hk : k < 256) : bits .and .i64 (k : Int) 1 = ((k % 2 : Nat) : Int) := by
  show IntKind.i64.wrap ((BitVec.ofInt 64 (k : Int) &&& BitVec.ofInt 64 1).toNat : Int) = _
  rw [show BitVec.ofInt 64 (k : Int) = BitVec.ofNat 64 k from BitVec.ofInt_natCast .., show BitVec.ofInt 64 1 = 1#64 from rfl, BitVec.toNat_and, BitVec.toNat_ofNat, Nat.mod_eq_of_lt (by omega), show (1#64).toNat = 1 from rfl, Nat.and_one_is_mod]
  exact IntWalk.i64_in _ (by omega)
section
variable {F Z : BS} {W w : World} {ts : List Th} {x N : Nat} {P : Pr}
theorem pairOffer_c (hok : P.Ok N) (hN : N ≤ 100000000) (s : Nat) (hs : s < 2) (c : Nat) (hc : c < 2) (y : BitVec 8) (h : Held F Z W (tPair x P :: ts) w) :
    Calls Try.prog 23 #[.pointer (some ⟨x, 0, none⟩), .int .i64 (s : Int), .int .i64 (c : Int), .int .u8 (U y)] w fun e w' => e = .returned (.tuple #[]) ∧ Held F Z W (tPair x (P.offer s c y) :: ts) w' := by
  obtain rfl | rfl : s = 0 ∨ s = 1 := by omega
  · exact pairOffer_0 hok hN c hc y h
  · exact pairOffer_1 hok hN c hc y h
theorem pairTake_c (hok : P.Ok N) (hN : N ≤ 100000000) (s : Nat) (hs : s < 2) (c : Nat) (hc : c < 2) (h : Held F Z W (tPair x P :: ts) w) :
    Calls Try.prog 24 #[.pointer (some ⟨x, 0, none⟩), .int .i64 (s : Int), .int .i64 (c : Int)] w fun e w' => e = .returned (.bool true) ∧ Held F Z W (tPair x (P.take s c) :: ts) w' := by
  obtain rfl | rfl : s = 0 ∨ s = 1 := by omega
  · exact pairTake_0 hok hN c hc h
  · exact pairTake_1 hok hN c hc h
set_option maxRecDepth 100000 in
set_option maxHeartbeats 4000000 in
theorem pairAct_c (hok : P.Ok N) (hN : N ≤ 100000000) (e : Nat) (he : e < 256) (h : Held F Z W (tPair x P :: ts) w) :
    Calls Try.prog 20 #[.pointer (some ⟨x, 0, none⟩), .int .u8 (e : Int)] w fun e' w' => e' = .returned (.bool true) ∧ Held F Z W (tPair x (P.act e) :: ts) w' := by
  have HO := Lib.hid (pairOffer_c hok hN (e % 2) (by omega) (e / 2 % 2) (by omega) (BitVec.ofNat 8 (e / 4)) h)
  have HT := Lib.hid (pairTake_c hok hN (e % 2) (by omega) (e / 2 % 2) (by omega) h)
  rw [byte_div e he] at HO
  have HH := Lib.hid h
  have HA : Hid (P.act e = if e / 4 % 4 ≤ 1 then P.offer (e % 2) (e / 2 % 2) (BitVec.ofNat 8 (e / 4)) else if e / 4 % 4 = 2 then P.take (e % 2) (e / 2 % 2) else P) := Lib.hid rfl
  clear h hok hN
  have hb1 := and1_i64 e he
  have hb2 := and1_i64 (e / 2) (by omega)
  rw [show ((e / 2 : Nat) : Int) = (e : Int) / 2 by omega] at hb2
  have hk : (e / 4 % 4 = 0 ∧ (e : Int) / 4 % 4 = 0) ∨ (e / 4 % 4 = 1 ∧ (e : Int) / 4 % 4 = 1) ∨ (e / 4 % 4 = 2 ∧ (e : Int) / 4 % 4 = 2) ∨ (e / 4 % 4 = 3 ∧ (e : Int) / 4 % 4 = 3) := by omega
  rw [show ((e / 4 : Nat) : Int) = (e : Int) / 4 by omega] at HO
  rcases hk with ⟨k1, k2⟩ | ⟨k1, k2⟩ | ⟨k1, k2⟩ | ⟨k1, k2⟩
  · have HA := Lib.hid (HA.out.trans (if_pos (by omega)))
    clear k1
    go_enter Try.func20, Try.ntmps20
    go_wp2_with fail
    refine HO.out.mono ?_
    rintro e' w' ⟨rfl, h⟩
    have H2 := Lib.hid h; clear h
    go_wp2_with fail
    go_ret
    exact ⟨rfl, by rw [HA.out]; exact H2.out⟩
  · have HA := Lib.hid (HA.out.trans (if_pos (by omega)))
    clear k1
    go_enter Try.func20, Try.ntmps20
    go_wp2_with fail
    refine HO.out.mono ?_
    rintro e' w' ⟨rfl, h⟩
    have H2 := Lib.hid h; clear h
    go_wp2_with fail
    go_ret
    exact ⟨rfl, by rw [HA.out]; exact H2.out⟩
  · have HA := Lib.hid ((HA.out.trans (if_neg (by omega))).trans (if_pos k1))
    clear k1
    go_enter Try.func20, Try.ntmps20
    go_wp2_with fail
    refine HT.out.mono ?_
    rintro e' w' ⟨rfl, h⟩
    have H2 := Lib.hid h; clear h
    go_wp2_with fail
    go_ret
    exact ⟨rfl, by rw [HA.out]; exact H2.out⟩
  · have HA := Lib.hid ((HA.out.trans (if_neg (by omega))).trans (if_neg (by omega)))
    clear k1
    go_enter Try.func20, Try.ntmps20
    go_wp2_with fail
    go_ret
    exact ⟨rfl, by rw [HA.out]; exact HH.out⟩
end
end Go.Proofs.Ytcocnfbhileheaa
