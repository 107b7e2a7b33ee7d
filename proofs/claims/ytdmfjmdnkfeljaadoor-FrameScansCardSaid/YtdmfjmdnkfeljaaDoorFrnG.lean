/- The contract of the reference's Push. -/
import Derived.Test.YtdmfjmdnkfeljaaDoorFrnF
import Derived.Test.YtdmfjmdnkfeljaaDoorFrnD
namespace Go.Proofs.YtdmfjmdnkfeljaaDoor
open Go.RowKit

theorem sr_cells {w : World} {s : Nat} {a b c : Value} {T : TypeId} (h : w.heap[s]? = some (.cells #[a, b, c] T)) : w.cell? ⟨s, 0, none⟩ = some a ∧ w.cell? ⟨s, 1, none⟩ = some b ∧ w.cell? ⟨s, 2, none⟩ = some c := ⟨blk_cell (i := 0) h rfl, blk_cell (i := 1) h rfl, blk_cell (i := 2) h rfl⟩
theorem sts3 {w : World} {s : Nat} {a b c : Value} {T : TypeId} (h : w.heap[s]? = some (.cells #[a, b, c] T)) (x y z : Value) : (((w.setCell ⟨s, 0, none⟩ x).setCell ⟨s, 1, none⟩ y).setCell ⟨s, 2, none⟩ z).heap[s]? = some (.cells #[x, y, z] T) := by (apply row_trans; focus (repeat (first | (with_reducible exact h) | (with_reducible apply row_set) | (with_reducible apply row_drewN) | (with_reducible apply row_drew)))); rfl
theorem sts3_other {w : World} {s k : Nat} (hk : k ≠ s) (x y z : Value) : (((w.setCell ⟨s, 0, none⟩ x).setCell ⟨s, 1, none⟩ y).setCell ⟨s, 2, none⟩ z).heap[k]? = w.heap[k]? :=
  (Below.heap_setCell _ _ _ _ hk).trans ((Below.heap_setCell _ _ _ _ hk).trans (Below.heap_setCell _ _ _ _ hk))
/-- what the reference's Push does -/
def RefP (w : World) (s : Sc) (x : Byte) (e : Ending) (w' : World) : Prop := ∃ (a : Option Addr) (c : Nat) (r : Pk) (f : Bool) (ra : Option Addr) (rc : Nat), e = .returned (.tuple #[.agg #[.bool (s.push x).1.inside, .slice a (s.push x).1.data.length c, .int .i64 ((s.push x).1.bad : Int)], .agg #[.int .u8 (U r.kind), .int .i64 r.cls, .int .i64 r.number, .int .i64 r.value, .slice ra r.pay.length rc], .bool f]) ∧
  ByZ w' (fun k => w.heap.size ≤ k) (.slice a (s.push x).1.data.length c) (s.push x).1.data ∧ ByZ w' (fun k => w.heap.size ≤ k) (.slice ra r.pay.length rc) r.pay ∧ (s.push x).2 = (if f then some r else none) ∧ (f = false → r = Pk.zero) ∧ Below w.heap.size w w'
/-- the two results are laid -/
def fin8 (wx : World) (m n : Nat) (u0 u1 u2 v0 v1 v2 v3 v4 : Value) : World := (((((((( wx.setCell ⟨m, 0, none⟩ u0).setCell ⟨m, 1, none⟩ u1).setCell ⟨m, 2, none⟩ u2).setCell ⟨n, 0, none⟩ v0).setCell ⟨n, 1, none⟩ v1).setCell ⟨n, 2, none⟩ v2).setCell ⟨n, 3, none⟩ v3).setCell ⟨n, 4, none⟩ v4)
theorem fin8_other {wx : World} {m n k : Nat} (h1 : k ≠ m) (h2 : k ≠ n) (u0 u1 u2 v0 v1 v2 v3 v4 : Value) : (fin8 wx m n u0 u1 u2 v0 v1 v2 v3 v4).heap[k]? = wx.heap[k]? := (sts5_other h2 _ _ _ _ _).trans (sts3_other h1 _ _ _)
theorem fin8_1 {wx : World} {m n : Nat} (hne : m ≠ n) {a b c : Value} {T : TypeId} (h : wx.heap[m]? = some (.cells #[a, b, c] T)) (u0 u1 u2 v0 v1 v2 v3 v4 : Value) : (fin8 wx m n u0 u1 u2 v0 v1 v2 v3 v4).heap[m]? = some (.cells #[u0, u1, u2] T) := (sts5_other hne _ _ _ _ _).trans (sts3 h _ _ _)
theorem fin8_2 {wx : World} {m n : Nat} (hne : m ≠ n) {a b c d e : Value} {T : TypeId} (h : wx.heap[n]? = some (.cells #[a, b, c, d, e] T)) (u0 u1 u2 v0 v1 v2 v3 v4 : Value) : (fin8 wx m n u0 u1 u2 v0 v1 v2 v3 v4).heap[n]? = some (.cells #[v0, v1, v2, v3, v4] T) := sts5 ((sts3_other (Ne.symm hne) _ _ _).trans h) _ _ _ _ _
theorem fin8_below {wx w : World} {B m n : Nat} (h : Below B w wx) (hm : B ≤ m) (hn : B ≤ n) (u0 u1 u2 v0 v1 v2 v3 v4 : Value) : Below B w (fin8 wx m n u0 u1 u2 v0 v1 v2 v3 v4) :=
  (Below.setCell (Below.setCell (Below.setCell (Below.setCell (Below.setCell (Below.setCell (Below.setCell (Below.setCell h hm _) hm _) hm _) hn _) hn _) hn _) hn _) hn _)
theorem RefP.mk {w wx : World} {s s' : Sc} {x : Byte} {o : Option Pk} (hp : s.push x = (s', o)) (hb : Below w.heap.size w wx) (a : Option Addr) (c : Nat) (r : Pk) (f : Bool) (ra : Option Addr) (rc : Nat) (ho : o = (if f then some r else none)) (hr : f = false → r = Pk.zero)
    {i : Bool} {d : List Byte} {b : Int} (hi : i = s'.inside) (hd : d = s'.data) (hbb : b = (s'.bad : Int)) (h1 : (By w (.slice a d.length c) d ∧ d = []) ∨ Nb wx (w.heap.size + 1 + 1 + 1) (.slice a d.length c) d) (h2 : Nb wx (w.heap.size + 1 + 1 + 1) (.slice ra r.pay.length rc) r.pay) (u0 u1 u2 v0 v1 v2 v3 v4 : Value) :
    RefP w s x (.returned (.tuple #[.agg #[.bool i, .slice a d.length c, .int .i64 b], .agg #[.int .u8 (U r.kind), .int .i64 r.cls, .int .i64 r.number, .int .i64 r.value, .slice ra r.pay.length rc], .bool f])) (fin8 wx (w.heap.size + 1) (w.heap.size + 1 + 1) u0 u1 u2 v0 v1 v2 v3 v4) := by
  subst hi; subst hd; subst hbb
  have hbf := fin8_below hb (Nat.le_succ _) (show w.heap.size ≤ w.heap.size + 1 + 1 by omega) u0 u1 u2 v0 v1 v2 v3 v4
  have hk : ∀ {v : Value} {bs : List Byte}, Nb wx (w.heap.size + 1 + 1 + 1) v bs → ByZ (fin8 wx (w.heap.size + 1) (w.heap.size + 1 + 1) u0 u1 u2 v0 v1 v2 v3 v4) (fun k => w.heap.size ≤ k) v bs := fun h => by
    have h' : Nb (fin8 wx (w.heap.size + 1) (w.heap.size + 1 + 1) u0 u1 u2 v0 v1 v2 v3 v4) (w.heap.size + 1 + 1 + 1) _ _ := Sl.keep h fun k hk _ => fin8_other (by have hk' : w.heap.size + 1 + 1 + 1 ≤ k := hk; omega) (by have hk' : w.heap.size + 1 + 1 + 1 ≤ k := hk; omega) _ _ _ _ _ _ _ _
    exact ⟨h'.by, fun _ b hb => by have := h'.own b hb; show w.heap.size ≤ b; omega⟩
  refine ⟨a, c, r, f, ra, rc, by rw [hp], ?_, hk h2, by rw [hp]; exact ho, hr, hbf⟩
  rw [hp]
  exact h1.elim (fun h => ⟨h.1.below hbf, fun h0 => by rw [h.2] at h0; simp at h0⟩) hk
theorem RefP.drew {w w' : World} {s : Sc} {x : Byte} {e : Ending} (h : RefP w s x e w') : RefP w s x e w'.drew := by
  obtain ⟨a, c, r, f, ra, rc, h1, h2, h3, h4, h5, h6⟩ := h
  exact ⟨a, c, r, f, ra, rc, h1, h2.below (below_drew _ 1), h3.below (below_drew _ 1), h4, h5, Bw.drew h6⟩
section
variable {s : Sc} {w : World} {a : Option Addr} {c : Nat}
set_option maxRecDepth 100000 in
set_option maxHeartbeats 4000000 in
theorem refP_start (hs : By w (.slice a s.data.length c) s.data) (hb : s.bad < 900000) :
    Calls Tryd.prog 29 #[.agg #[.bool s.inside, .slice a s.data.length c, .int .i64 (s.bad : Int)], .int .u8 (U (49 : Byte))] w (RefP w s 49) := by
  have HP := Lib.hid (push_49 s)
  have HV := Lib.hid hs
  clear hs
  obtain ⟨si, sd, sbd⟩ := s
  dsimp only at HV hb HP ⊢
  cases si
  · go_enter Tryd.func29, Tryd.ntmps29; go_wp2_with fail; obtain ⟨w1, hw1⟩ : ∃ w1, w1 = ((w.alloc (.cells #[.bool false, .slice a sd.length c, .int .i64 (sbd : Int)] 48)).alloc (.cells #[.bool false, .slice none 0 0, .int .i64 0] 48)).alloc (.cells #[.int .u8 0, .int .i64 0, .int .i64 0, .int .i64 0, .slice none 0 0] 24) := ⟨_, rfl⟩; rw [← hw1]; have HA1 := Lib.hid (show w1.heap[w.heap.size]? = some (.cells #[.bool false, .slice a sd.length c, .int .i64 (sbd : Int)] 48) by rw [hw1]; exact (Below.heap_alloc _ _ _ (by simp <;> omega)).trans ((Below.heap_alloc _ _ _ (by simp <;> omega)).trans (heap_alloc_new w _))); have HA2 := Lib.hid (show w1.heap[w.heap.size + 1]? = some (.cells #[.bool false, .slice none 0 0, .int .i64 0] 48) by rw [hw1]; refine (Below.heap_alloc _ _ _ (by simp <;> omega)).trans ?_; have h := heap_alloc_new (w.alloc (.cells #[.bool false, .slice a sd.length c, .int .i64 (sbd : Int)] 48)) (.cells #[.bool false, .slice none 0 0, .int .i64 0] 48); rw [World.size_alloc] at h; exact h); have HA3 := Lib.hid (show w1.heap[w.heap.size + 1 + 1]? = some (.cells #[.int .u8 0, .int .i64 0, .int .i64 0, .int .i64 0, .slice none 0 0] 24) by rw [hw1]; have h := heap_alloc_new ((w.alloc (.cells #[.bool false, .slice a sd.length c, .int .i64 (sbd : Int)] 48)).alloc (.cells #[.bool false, .slice none 0 0, .int .i64 0] 48)) (.cells #[.int .u8 0, .int .i64 0, .int .i64 0, .int .i64 0, .slice none 0 0] 24); rw [World.size_alloc, World.size_alloc] at h; exact h); have HB1 := Lib.hid (show Below w.heap.size w w1 by rw [hw1]; (repeat (first | (with_reducible exact Below.refl _ _) | (with_reducible refine Bw.alloc ?_ _) | (with_reducible refine Bw.drewN ?_ _) | (with_reducible refine Bw.drew ?_)))); clear hw1; (refine (refIndex_any 49 w1).mono ?_); rintro e w2 ⟨rfl, hb⟩; have HS2 := Lib.hid ((hb.block _ (lt_of_block HA1.out)).trans HA1.out); have HR2 := Lib.hid ((hb.block _ (lt_of_block HA2.out)).trans HA2.out); have HQ2 := Lib.hid ((hb.block _ (lt_of_block HA3.out)).trans HA3.out); have HB2 := Lib.hid (HB1.out.trans (hb.mono HB1.out.size)); clear hb; obtain ⟨s0, s1, s2⟩ := sr_cells HS2.out; have sf := fun i => blk_free HS2.out i; obtain ⟨r0, r1, r2⟩ := sr_cells HR2.out; have rf := fun i => blk_free HR2.out i; obtain ⟨q0, q1, q2, q3, q4⟩ := pk_cells HQ2.out; have qf := fun i => blk_free HQ2.out i; have hsl := lt_of_block HS2.out; have hrl := lt_of_block HR2.out; have hql := lt_of_block HQ2.out
    go_wp2_with fail
    have hrx : (w2).heap[w.heap.size + 1]? = some (.cells #[.bool false, .slice none 0 0, .int .i64 0] 48) := (by first | exact HR2.out | ((apply row_trans; focus (repeat (first | (with_reducible exact HR2.out) | (with_reducible apply row_set) | (with_reducible apply row_drewN) | (with_reducible apply row_drew) | (with_reducible apply row_alloc) | (apply row_set_other (by first | omega | (simp <;> omega)))))); rfl)); have hqx : (w2).heap[w.heap.size + 1 + 1]? = some (.cells #[.int .u8 0, .int .i64 0, .int .i64 0, .int .i64 0, .slice none 0 0] 24) := (by first | exact HQ2.out | ((apply row_trans; focus (repeat (first | (with_reducible exact HQ2.out) | (with_reducible apply row_set) | (with_reducible apply row_drewN) | (with_reducible apply row_drew) | (with_reducible apply row_alloc) | (apply row_set_other (by first | omega | (simp <;> omega)))))); rfl)); obtain ⟨f0, f1, f2⟩ := sr_cells (fin8_1 (show w.heap.size + 1 ≠ w.heap.size + 1 + 1 by omega) hrx (.bool true) (.slice none ([] : List Byte).length 0) (.int .i64 ((sbd : Nat) : Int)) (.int .u8 0) (.int .i64 0) (.int .i64 0) (.int .i64 0) (.slice none 0 0)); obtain ⟨g0, g1, g2, g3, g4⟩ := pk_cells (fin8_2 (show w.heap.size + 1 ≠ w.heap.size + 1 + 1 by omega) hqx (.bool true) (.slice none ([] : List Byte).length 0) (.int .i64 ((sbd : Nat) : Int)) (.int .u8 0) (.int .i64 0) (.int .i64 0) (.int .i64 0) (.slice none 0 0)); unfold fin8 at f0 f1 f2 g0 g1 g2 g3 g4; (try simp only [List.length_append] at f0 f1 f2 g0 g1 g2 g3 g4); (try simp only [List.length_cons] at f0 f1 f2 g0 g1 g2 g3 g4); (try simp only [List.length_nil] at f0 f1 f2 g0 g1 g2 g3 g4); (try simp only [Nat.zero_add] at f0 f1 f2 g0 g1 g2 g3 g4); exact bodyPost_ret (v := .tuple #[.agg #[.bool true, .slice none ([] : List Byte).length 0, .int .i64 ((sbd : Nat) : Int)], .agg #[.int .u8 0, .int .i64 0, .int .i64 0, .int .i64 0, .slice none 0 0], .bool false]) (by simp [results, Tryd.results29, go_sem, f0, f1, f2, g0, g1, g2, g3, g4]) rfl (RefP.mk HP.out (w := w) (wx := w2) HB2.out none 0 Pk.zero false none 0 rfl (fun _ => rfl) (d := []) rfl rfl rfl (.inl ⟨By.of_nil w, rfl⟩) (Nb.nil _ _) _ _ _ _ _ _ _ _)
  · go_enter Tryd.func29, Tryd.ntmps29; go_wp2_with fail; obtain ⟨w1, hw1⟩ : ∃ w1, w1 = ((w.alloc (.cells #[.bool true, .slice a sd.length c, .int .i64 (sbd : Int)] 48)).alloc (.cells #[.bool false, .slice none 0 0, .int .i64 0] 48)).alloc (.cells #[.int .u8 0, .int .i64 0, .int .i64 0, .int .i64 0, .slice none 0 0] 24) := ⟨_, rfl⟩; rw [← hw1]; have HA1 := Lib.hid (show w1.heap[w.heap.size]? = some (.cells #[.bool true, .slice a sd.length c, .int .i64 (sbd : Int)] 48) by rw [hw1]; exact (Below.heap_alloc _ _ _ (by simp <;> omega)).trans ((Below.heap_alloc _ _ _ (by simp <;> omega)).trans (heap_alloc_new w _))); have HA2 := Lib.hid (show w1.heap[w.heap.size + 1]? = some (.cells #[.bool false, .slice none 0 0, .int .i64 0] 48) by rw [hw1]; refine (Below.heap_alloc _ _ _ (by simp <;> omega)).trans ?_; have h := heap_alloc_new (w.alloc (.cells #[.bool true, .slice a sd.length c, .int .i64 (sbd : Int)] 48)) (.cells #[.bool false, .slice none 0 0, .int .i64 0] 48); rw [World.size_alloc] at h; exact h); have HA3 := Lib.hid (show w1.heap[w.heap.size + 1 + 1]? = some (.cells #[.int .u8 0, .int .i64 0, .int .i64 0, .int .i64 0, .slice none 0 0] 24) by rw [hw1]; have h := heap_alloc_new ((w.alloc (.cells #[.bool true, .slice a sd.length c, .int .i64 (sbd : Int)] 48)).alloc (.cells #[.bool false, .slice none 0 0, .int .i64 0] 48)) (.cells #[.int .u8 0, .int .i64 0, .int .i64 0, .int .i64 0, .slice none 0 0] 24); rw [World.size_alloc, World.size_alloc] at h; exact h); have HB1 := Lib.hid (show Below w.heap.size w w1 by rw [hw1]; (repeat (first | (with_reducible exact Below.refl _ _) | (with_reducible refine Bw.alloc ?_ _) | (with_reducible refine Bw.drewN ?_ _) | (with_reducible refine Bw.drew ?_)))); clear hw1; (refine (refIndex_any 49 w1).mono ?_); rintro e w2 ⟨rfl, hb⟩; have HS2 := Lib.hid ((hb.block _ (lt_of_block HA1.out)).trans HA1.out); have HR2 := Lib.hid ((hb.block _ (lt_of_block HA2.out)).trans HA2.out); have HQ2 := Lib.hid ((hb.block _ (lt_of_block HA3.out)).trans HA3.out); have HB2 := Lib.hid (HB1.out.trans (hb.mono HB1.out.size)); clear hb; obtain ⟨s0, s1, s2⟩ := sr_cells HS2.out; have sf := fun i => blk_free HS2.out i; obtain ⟨r0, r1, r2⟩ := sr_cells HR2.out; have rf := fun i => blk_free HR2.out i; obtain ⟨q0, q1, q2, q3, q4⟩ := pk_cells HQ2.out; have qf := fun i => blk_free HQ2.out i; have hsl := lt_of_block HS2.out; have hrl := lt_of_block HR2.out; have hql := lt_of_block HQ2.out
    go_wp2_with fail
    have hrx : ((w2.setCell ⟨w.heap.size, 2, none⟩ (.int .i64 ((sbd : Int) + 1)))).heap[w.heap.size + 1]? = some (.cells #[.bool false, .slice none 0 0, .int .i64 0] 48) := (by first | exact HR2.out | ((apply row_trans; focus (repeat (first | (with_reducible exact HR2.out) | (with_reducible apply row_set) | (with_reducible apply row_drewN) | (with_reducible apply row_drew) | (with_reducible apply row_alloc) | (apply row_set_other (by first | omega | (simp <;> omega)))))); rfl)); have hqx : ((w2.setCell ⟨w.heap.size, 2, none⟩ (.int .i64 ((sbd : Int) + 1)))).heap[w.heap.size + 1 + 1]? = some (.cells #[.int .u8 0, .int .i64 0, .int .i64 0, .int .i64 0, .slice none 0 0] 24) := (by first | exact HQ2.out | ((apply row_trans; focus (repeat (first | (with_reducible exact HQ2.out) | (with_reducible apply row_set) | (with_reducible apply row_drewN) | (with_reducible apply row_drew) | (with_reducible apply row_alloc) | (apply row_set_other (by first | omega | (simp <;> omega)))))); rfl)); obtain ⟨f0, f1, f2⟩ := sr_cells (fin8_1 (show w.heap.size + 1 ≠ w.heap.size + 1 + 1 by omega) hrx (.bool true) (.slice none ([] : List Byte).length 0) (.int .i64 ((sbd : Int) + 1)) (.int .u8 0) (.int .i64 0) (.int .i64 0) (.int .i64 0) (.slice none 0 0)); obtain ⟨g0, g1, g2, g3, g4⟩ := pk_cells (fin8_2 (show w.heap.size + 1 ≠ w.heap.size + 1 + 1 by omega) hqx (.bool true) (.slice none ([] : List Byte).length 0) (.int .i64 ((sbd : Int) + 1)) (.int .u8 0) (.int .i64 0) (.int .i64 0) (.int .i64 0) (.slice none 0 0)); unfold fin8 at f0 f1 f2 g0 g1 g2 g3 g4; (try simp only [List.length_append] at f0 f1 f2 g0 g1 g2 g3 g4); (try simp only [List.length_cons] at f0 f1 f2 g0 g1 g2 g3 g4); (try simp only [List.length_nil] at f0 f1 f2 g0 g1 g2 g3 g4); (try simp only [Nat.zero_add] at f0 f1 f2 g0 g1 g2 g3 g4); exact bodyPost_ret (v := .tuple #[.agg #[.bool true, .slice none ([] : List Byte).length 0, .int .i64 ((sbd : Int) + 1)], .agg #[.int .u8 0, .int .i64 0, .int .i64 0, .int .i64 0, .slice none 0 0], .bool false]) (by simp [results, Tryd.results29, go_sem, f0, f1, f2, g0, g1, g2, g3, g4]) rfl (RefP.mk HP.out (w := w) (wx := (w2.setCell ⟨w.heap.size, 2, none⟩ (.int .i64 ((sbd : Int) + 1)))) (HB2.out.setCell (Nat.le_refl _) _) none 0 Pk.zero false none 0 rfl (fun _ => rfl) (d := []) rfl rfl (by show (sbd : Int) + 1 = ((sbd + 1 : Nat) : Int); omega) (.inl ⟨By.of_nil w, rfl⟩) (Nb.nil _ _) _ _ _ _ _ _ _ _)
set_option maxRecDepth 100000 in
set_option maxHeartbeats 4000000 in
theorem refP_out {x : Byte} (hx : x ≠ 49) (hi : s.inside = false) (hd0 : s.data = []) (hs : By w (.slice a s.data.length c) s.data) (hb : s.bad < 900000) :
    Calls Tryd.prog 29 #[.agg #[.bool s.inside, .slice a s.data.length c, .int .i64 (s.bad : Int)], .int .u8 (U x)] w (RefP w s x) := by
  have HP := Lib.hid (push_out hx hi)
  have HV := Lib.hid hs
  have HD0 := Lib.hid hd0
  clear hs hd0
  obtain ⟨si, sd, sbd⟩ := s
  dsimp only at HV hb HP hi HD0 ⊢
  subst hi
  have hne : (U x == 49) = false := by
    rw [Bool.eq_false_iff]; intro h; exact hx (by have h2 : U x = 49 := by simpa using h
                                                  apply BitVec.eq_of_toNat_eq; have h3 : ((x.toNat : Nat) : Int) = 49 := h2; show x.toNat = 49; omega)
  clear hx
  go_enter Tryd.func29, Tryd.ntmps29; go_wp2_with fail; obtain ⟨w1, hw1⟩ : ∃ w1, w1 = ((w.alloc (.cells #[.bool false, .slice a sd.length c, .int .i64 (sbd : Int)] 48)).alloc (.cells #[.bool false, .slice none 0 0, .int .i64 0] 48)).alloc (.cells #[.int .u8 0, .int .i64 0, .int .i64 0, .int .i64 0, .slice none 0 0] 24) := ⟨_, rfl⟩; rw [← hw1]; have HA1 := Lib.hid (show w1.heap[w.heap.size]? = some (.cells #[.bool false, .slice a sd.length c, .int .i64 (sbd : Int)] 48) by rw [hw1]; exact (Below.heap_alloc _ _ _ (by simp <;> omega)).trans ((Below.heap_alloc _ _ _ (by simp <;> omega)).trans (heap_alloc_new w _))); have HA2 := Lib.hid (show w1.heap[w.heap.size + 1]? = some (.cells #[.bool false, .slice none 0 0, .int .i64 0] 48) by rw [hw1]; refine (Below.heap_alloc _ _ _ (by simp <;> omega)).trans ?_; have h := heap_alloc_new (w.alloc (.cells #[.bool false, .slice a sd.length c, .int .i64 (sbd : Int)] 48)) (.cells #[.bool false, .slice none 0 0, .int .i64 0] 48); rw [World.size_alloc] at h; exact h); have HA3 := Lib.hid (show w1.heap[w.heap.size + 1 + 1]? = some (.cells #[.int .u8 0, .int .i64 0, .int .i64 0, .int .i64 0, .slice none 0 0] 24) by rw [hw1]; have h := heap_alloc_new ((w.alloc (.cells #[.bool false, .slice a sd.length c, .int .i64 (sbd : Int)] 48)).alloc (.cells #[.bool false, .slice none 0 0, .int .i64 0] 48)) (.cells #[.int .u8 0, .int .i64 0, .int .i64 0, .int .i64 0, .slice none 0 0] 24); rw [World.size_alloc, World.size_alloc] at h; exact h); have HB1 := Lib.hid (show Below w.heap.size w w1 by rw [hw1]; (repeat (first | (with_reducible exact Below.refl _ _) | (with_reducible refine Bw.alloc ?_ _) | (with_reducible refine Bw.drewN ?_ _) | (with_reducible refine Bw.drew ?_)))); clear hw1; (refine (refIndex_any x w1).mono ?_); rintro e w2 ⟨rfl, hb⟩; have HS2 := Lib.hid ((hb.block _ (lt_of_block HA1.out)).trans HA1.out); have HR2 := Lib.hid ((hb.block _ (lt_of_block HA2.out)).trans HA2.out); have HQ2 := Lib.hid ((hb.block _ (lt_of_block HA3.out)).trans HA3.out); have HB2 := Lib.hid (HB1.out.trans (hb.mono HB1.out.size)); clear hb; obtain ⟨s0, s1, s2⟩ := sr_cells HS2.out; have sf := fun i => blk_free HS2.out i; obtain ⟨r0, r1, r2⟩ := sr_cells HR2.out; have rf := fun i => blk_free HR2.out i; obtain ⟨q0, q1, q2, q3, q4⟩ := pk_cells HQ2.out; have qf := fun i => blk_free HQ2.out i; have hsl := lt_of_block HS2.out; have hrl := lt_of_block HR2.out; have hql := lt_of_block HQ2.out
  go_wp2_with fail
  have hrx : (w2).heap[w.heap.size + 1]? = some (.cells #[.bool false, .slice none 0 0, .int .i64 0] 48) := (by first | exact HR2.out | ((apply row_trans; focus (repeat (first | (with_reducible exact HR2.out) | (with_reducible apply row_set) | (with_reducible apply row_drewN) | (with_reducible apply row_drew) | (with_reducible apply row_alloc) | (apply row_set_other (by first | omega | (simp <;> omega)))))); rfl)); have hqx : (w2).heap[w.heap.size + 1 + 1]? = some (.cells #[.int .u8 0, .int .i64 0, .int .i64 0, .int .i64 0, .slice none 0 0] 24) := (by first | exact HQ2.out | ((apply row_trans; focus (repeat (first | (with_reducible exact HQ2.out) | (with_reducible apply row_set) | (with_reducible apply row_drewN) | (with_reducible apply row_drew) | (with_reducible apply row_alloc) | (apply row_set_other (by first | omega | (simp <;> omega)))))); rfl)); obtain ⟨f0, f1, f2⟩ := sr_cells (fin8_1 (show w.heap.size + 1 ≠ w.heap.size + 1 + 1 by omega) hrx (.bool false) (.slice a (sd : List Byte).length c) (.int .i64 ((sbd : Nat) : Int)) (.int .u8 0) (.int .i64 0) (.int .i64 0) (.int .i64 0) (.slice none 0 0)); obtain ⟨g0, g1, g2, g3, g4⟩ := pk_cells (fin8_2 (show w.heap.size + 1 ≠ w.heap.size + 1 + 1 by omega) hqx (.bool false) (.slice a (sd : List Byte).length c) (.int .i64 ((sbd : Nat) : Int)) (.int .u8 0) (.int .i64 0) (.int .i64 0) (.int .i64 0) (.slice none 0 0)); unfold fin8 at f0 f1 f2 g0 g1 g2 g3 g4; (try simp only [List.length_append] at f0 f1 f2 g0 g1 g2 g3 g4); (try simp only [List.length_cons] at f0 f1 f2 g0 g1 g2 g3 g4); (try simp only [List.length_nil] at f0 f1 f2 g0 g1 g2 g3 g4); (try simp only [Nat.zero_add] at f0 f1 f2 g0 g1 g2 g3 g4); exact bodyPost_ret (v := .tuple #[.agg #[.bool false, .slice a (sd : List Byte).length c, .int .i64 ((sbd : Nat) : Int)], .agg #[.int .u8 0, .int .i64 0, .int .i64 0, .int .i64 0, .slice none 0 0], .bool false]) (by simp [results, Tryd.results29, go_sem, f0, f1, f2, g0, g1, g2, g3, g4]) rfl (RefP.mk HP.out (w := w) (wx := w2) HB2.out a c Pk.zero false none 0 rfl (fun _ => rfl) (d := sd) rfl rfl rfl (.inl ⟨HV.out, HD0.out⟩) (Nb.nil _ _) _ _ _ _ _ _ _ _)
theorem U_ne {x y : Byte} (h : x ≠ y) (n : Int) (hn : U y = n) : (U x == n) = false := by
  rw [Bool.eq_false_iff]; intro h2
  have h3 : U x = U y := by rw [hn]; simpa using h2
  apply h; apply BitVec.eq_of_toNat_eq
  have h4 : ((x.toNat : Nat) : Int) = ((y.toNat : Nat) : Int) := h3
  omega
set_option maxRecDepth 100000 in
set_option maxHeartbeats 4000000 in
theorem refP_data {x : Byte} (hx : isData x = true) (hi : s.inside = true) (hl : s.data.length < 162) (hs : By w (.slice a s.data.length c) s.data) (hb : s.bad < 900000) :
    Calls Tryd.prog 29 #[.agg #[.bool s.inside, .slice a s.data.length c, .int .i64 (s.bad : Int)], .int .u8 (U x)] w (RefP w s x) := by
  have HP := Lib.hid (push_data hx hi hl)
  have HV := Lib.hid hs
  clear hs
  obtain ⟨si, sd, sbd⟩ := s
  dsimp only at HV hb HP hi hl ⊢
  subst hi
  have hne : (U x == 49) = false := U_ne (data_ne x hx).1 49 rfl
  have hne2 : (U x == 50) = false := U_ne (data_ne x hx).2 50 rfl
  obtain ⟨hix, hix16⟩ := idxI_data hx
  have HIX := Lib.hid hix
  clear hx hix
  go_enter Tryd.func29, Tryd.ntmps29; go_wp2_with fail; obtain ⟨w1, hw1⟩ : ∃ w1, w1 = ((w.alloc (.cells #[.bool true, .slice a sd.length c, .int .i64 (sbd : Int)] 48)).alloc (.cells #[.bool false, .slice none 0 0, .int .i64 0] 48)).alloc (.cells #[.int .u8 0, .int .i64 0, .int .i64 0, .int .i64 0, .slice none 0 0] 24) := ⟨_, rfl⟩; rw [← hw1]; have HA1 := Lib.hid (show w1.heap[w.heap.size]? = some (.cells #[.bool true, .slice a sd.length c, .int .i64 (sbd : Int)] 48) by rw [hw1]; exact (Below.heap_alloc _ _ _ (by simp <;> omega)).trans ((Below.heap_alloc _ _ _ (by simp <;> omega)).trans (heap_alloc_new w _))); have HA2 := Lib.hid (show w1.heap[w.heap.size + 1]? = some (.cells #[.bool false, .slice none 0 0, .int .i64 0] 48) by rw [hw1]; refine (Below.heap_alloc _ _ _ (by simp <;> omega)).trans ?_; have h := heap_alloc_new (w.alloc (.cells #[.bool true, .slice a sd.length c, .int .i64 (sbd : Int)] 48)) (.cells #[.bool false, .slice none 0 0, .int .i64 0] 48); rw [World.size_alloc] at h; exact h); have HA3 := Lib.hid (show w1.heap[w.heap.size + 1 + 1]? = some (.cells #[.int .u8 0, .int .i64 0, .int .i64 0, .int .i64 0, .slice none 0 0] 24) by rw [hw1]; have h := heap_alloc_new ((w.alloc (.cells #[.bool true, .slice a sd.length c, .int .i64 (sbd : Int)] 48)).alloc (.cells #[.bool false, .slice none 0 0, .int .i64 0] 48)) (.cells #[.int .u8 0, .int .i64 0, .int .i64 0, .int .i64 0, .slice none 0 0] 24); rw [World.size_alloc, World.size_alloc] at h; exact h); have HB1 := Lib.hid (show Below w.heap.size w w1 by rw [hw1]; (repeat (first | (with_reducible exact Below.refl _ _) | (with_reducible refine Bw.alloc ?_ _) | (with_reducible refine Bw.drewN ?_ _) | (with_reducible refine Bw.drew ?_)))); clear hw1; (refine (refIndex_any x w1).mono ?_); rintro e w2 ⟨rfl, hb⟩; have HS2 := Lib.hid ((hb.block _ (lt_of_block HA1.out)).trans HA1.out); have HR2 := Lib.hid ((hb.block _ (lt_of_block HA2.out)).trans HA2.out); have HQ2 := Lib.hid ((hb.block _ (lt_of_block HA3.out)).trans HA3.out); have HB2 := Lib.hid (HB1.out.trans (hb.mono HB1.out.size)); clear hb; obtain ⟨s0, s1, s2⟩ := sr_cells HS2.out; have sf := fun i => blk_free HS2.out i; obtain ⟨r0, r1, r2⟩ := sr_cells HR2.out; have rf := fun i => blk_free HR2.out i; obtain ⟨q0, q1, q2, q3, q4⟩ := pk_cells HQ2.out; have qf := fun i => blk_free HQ2.out i; have hsl := lt_of_block HS2.out; have hrl := lt_of_block HR2.out; have hql := lt_of_block HQ2.out
  rw [HIX.out]
  generalize idx x = n at *
  have hn0 : (0 : Int) ≤ (n : Int) ∧ (n : Int) ≤ 15 := by omega
  have hw2s := HB2.out.size
  have HLT := Lib.hid hql
  have tok1 : True := trivial
  go_wp2_with (first
    | (at_builtin; have _t := tok1; refine wpList_nb rfl _ _ rfl w2.heap.size (.slice (some ⟨w2.heap.size, 0, none⟩) 0 0) [] rfl (Nb.lit w2 w2.heap.size [] #[] 0 rfl (Nat.le_refl _) rfl rfl (by decide)) (.slice a sd.length c) sd rfl (HV.out.below (HB2.out.trans ((below_alloc w2 _).mono hw2s))) (by show 0 + _ ≤ _; omega) (by simp) ?_; intro xa xc w3 hn3 hb3; simp only [List.length_nil, Nat.zero_add, List.nil_append] at hn3 ⊢; clear tok1; have hb3' := (below_alloc w2 (.cells #[] 5)).trans hb3; have HN3 := Lib.hid hn3; have HB3 := Lib.hid hb3'; (have hsr := (hb3'.block _ (by have := HLT.out; omega)).trans HS2.out; have hrr := (hb3'.block _ (by have := HLT.out; omega)).trans HR2.out; have hqr := (hb3'.block _ (by have := HLT.out; omega)).trans HQ2.out; clear HS2 HR2 HQ2; clear s0 s1 s2 sf r0 r1 r2 rf q0 q1 q2 q3 q4 qf hsl hrl hql; have HS2 := Lib.hid hsr; have HR2 := Lib.hid hrr; have HQ2 := Lib.hid hqr; clear hsr hrr hqr; obtain ⟨s0, s1, s2⟩ := sr_cells HS2.out; have sf := fun i => blk_free HS2.out i; obtain ⟨r0, r1, r2⟩ := sr_cells HR2.out; have rf := fun i => blk_free HR2.out i; obtain ⟨q0, q1, q2, q3, q4⟩ := pk_cells HQ2.out; have qf := fun i => blk_free HQ2.out i; have hsl := lt_of_block HS2.out; have hrl := lt_of_block HR2.out; have hql := lt_of_block HQ2.out); clear hn3 hb3 hb3')
    | (at_builtin; refine wpList_nb rfl _ _ rfl w2.heap.size (.slice xa sd.length xc) sd rfl (HN3.out.below (below_alloc w3 _)) (.slice (some ⟨w3.heap.size, 0, none⟩) 1 1) [x] rfl (By_lit _ _ _ _ [x] 1 1 rfl rfl rfl (Nat.le_refl _) (by decide)) (by show sd.length + 1 ≤ _; omega) (by simp; have := HB3.out.size; omega) ?_; intro ya yc w4 hn4 hb4; have hb4' := ((below_alloc w3 (.cells #[.int .u8 (U x)] 5)).mono HB3.out.size).trans hb4; have HN4 := Lib.hid hn4; have HB4 := Lib.hid (HB3.out.trans hb4'); (have hsr := (hb4'.block _ (by have := HLT.out; omega)).trans HS2.out; have hrr := (hb4'.block _ (by have := HLT.out; omega)).trans HR2.out; have hqr := (hb4'.block _ (by have := HLT.out; omega)).trans HQ2.out; clear HS2 HR2 HQ2; clear s0 s1 s2 sf r0 r1 r2 rf q0 q1 q2 q3 q4 qf hsl hrl hql; have HS2 := Lib.hid hsr; have HR2 := Lib.hid hrr; have HQ2 := Lib.hid hqr; clear hsr hrr hqr; obtain ⟨s0, s1, s2⟩ := sr_cells HS2.out; have sf := fun i => blk_free HS2.out i; obtain ⟨r0, r1, r2⟩ := sr_cells HR2.out; have rf := fun i => blk_free HR2.out i; obtain ⟨q0, q1, q2, q3, q4⟩ := pk_cells HQ2.out; have qf := fun i => blk_free HQ2.out i; have hsl := lt_of_block HS2.out; have hrl := lt_of_block HR2.out; have hql := lt_of_block HQ2.out); clear hn4 hb4 hb4'))
  have HBF := Lib.hid (HB2.out.trans (HB4.out.mono hw2s))
  have HNF := Lib.hid (show Nb (w4.setCell ⟨w.heap.size, 1, none⟩ (.slice ya (sd.length + 1) yc)) (w.heap.size + 1 + 1 + 1) (.slice ya (sd ++ [x]).length yc) (sd ++ [x]) by
    rw [List.length_append]
    exact Nb.lower (B := w2.heap.size) (Sl.keep HN4.out fun k hk _ => Below.heap_setCell _ _ _ _ (by show k ≠ w.heap.size; have hk' : w2.heap.size ≤ k := hk; have := HLT.out; omega)) (by have := HLT.out; omega))
  have hrx : ((w4.setCell ⟨w.heap.size, 1, none⟩ (.slice ya (sd.length + 1) yc))).heap[w.heap.size + 1]? = some (.cells #[.bool false, .slice none 0 0, .int .i64 0] 48) := (by first | exact HR2.out | ((apply row_trans; focus (repeat (first | (with_reducible exact HR2.out) | (with_reducible apply row_set) | (with_reducible apply row_drewN) | (with_reducible apply row_drew) | (with_reducible apply row_alloc) | (apply row_set_other (by first | omega | (simp <;> omega)))))); rfl)); have hqx : ((w4.setCell ⟨w.heap.size, 1, none⟩ (.slice ya (sd.length + 1) yc))).heap[w.heap.size + 1 + 1]? = some (.cells #[.int .u8 0, .int .i64 0, .int .i64 0, .int .i64 0, .slice none 0 0] 24) := (by first | exact HQ2.out | ((apply row_trans; focus (repeat (first | (with_reducible exact HQ2.out) | (with_reducible apply row_set) | (with_reducible apply row_drewN) | (with_reducible apply row_drew) | (with_reducible apply row_alloc) | (apply row_set_other (by first | omega | (simp <;> omega)))))); rfl)); obtain ⟨f0, f1, f2⟩ := sr_cells (fin8_1 (show w.heap.size + 1 ≠ w.heap.size + 1 + 1 by omega) hrx (.bool true) (.slice ya ((sd ++ [x]) : List Byte).length yc) (.int .i64 ((sbd : Nat) : Int)) (.int .u8 0) (.int .i64 0) (.int .i64 0) (.int .i64 0) (.slice none 0 0)); obtain ⟨g0, g1, g2, g3, g4⟩ := pk_cells (fin8_2 (show w.heap.size + 1 ≠ w.heap.size + 1 + 1 by omega) hqx (.bool true) (.slice ya ((sd ++ [x]) : List Byte).length yc) (.int .i64 ((sbd : Nat) : Int)) (.int .u8 0) (.int .i64 0) (.int .i64 0) (.int .i64 0) (.slice none 0 0)); unfold fin8 at f0 f1 f2 g0 g1 g2 g3 g4; (try simp only [List.length_append] at f0 f1 f2 g0 g1 g2 g3 g4); (try simp only [List.length_cons] at f0 f1 f2 g0 g1 g2 g3 g4); (try simp only [List.length_nil] at f0 f1 f2 g0 g1 g2 g3 g4); (try simp only [Nat.zero_add] at f0 f1 f2 g0 g1 g2 g3 g4); exact bodyPost_ret (v := .tuple #[.agg #[.bool true, .slice ya ((sd ++ [x]) : List Byte).length yc, .int .i64 ((sbd : Nat) : Int)], .agg #[.int .u8 0, .int .i64 0, .int .i64 0, .int .i64 0, .slice none 0 0], .bool false]) (by simp [results, Tryd.results29, go_sem, f0, f1, f2, g0, g1, g2, g3, g4]) rfl (RefP.mk HP.out (w := w) (wx := (w4.setCell ⟨w.heap.size, 1, none⟩ (.slice ya (sd.length + 1) yc))) (HBF.out.setCell (Nat.le_refl _) _) ya yc Pk.zero false none 0 rfl (fun _ => rfl) (d := (sd ++ [x])) rfl rfl rfl (.inr HNF.out) (Nb.nil _ _) _ _ _ _ _ _ _ _)
set_option maxRecDepth 100000 in
set_option maxHeartbeats 4000000 in
theorem refP_bad {x : Byte} (hx : x ≠ 49) (hx2 : x ≠ 50) (hi : s.inside = true) (hl : ¬ (isData x = true ∧ s.data.length < 162)) (hs : By w (.slice a s.data.length c) s.data) (hb : s.bad < 900000) :
    Calls Tryd.prog 29 #[.agg #[.bool s.inside, .slice a s.data.length c, .int .i64 (s.bad : Int)], .int .u8 (U x)] w (RefP w s x) := by
  have HP := Lib.hid (push_bad hx hi hl (fun hh => hx2 hh.1))
  have HV := Lib.hid hs
  clear hs
  obtain ⟨si, sd, sbd⟩ := s
  dsimp only at HV hb HP hi hl ⊢
  subst hi
  have hne : (U x == 49) = false := U_ne hx 49 rfl
  have hne2 : (U x == 50) = false := U_ne hx2 50 rfl
  have hcase : (0 ≤ idxI x ∧ idxI x ≤ 15 ∧ 162 ≤ sd.length) ∨ idxI x < 0 ∨ (0 ≤ idxI x ∧ 15 < idxI x) := by
    cases hd : isData x with
    | true =>
      obtain ⟨h1, h2⟩ := idxI_data hd
      exact .inl ⟨by omega, by omega, by rw [hd] at hl; have : ¬ sd.length < 162 := fun h => hl ⟨rfl, h⟩; omega⟩
    | false =>
      rcases idxI_bad hd with h | h
      · exact .inr (.inl h)
      · exact .inr (.inr ⟨by omega, h⟩)
  clear hx hx2 hl
  rcases hcase with ⟨h1, h2, h3⟩ | h1 | ⟨h1, h2⟩
  all_goals
    go_enter Tryd.func29, Tryd.ntmps29; go_wp2_with fail; obtain ⟨w1, hw1⟩ : ∃ w1, w1 = ((w.alloc (.cells #[.bool true, .slice a sd.length c, .int .i64 (sbd : Int)] 48)).alloc (.cells #[.bool false, .slice none 0 0, .int .i64 0] 48)).alloc (.cells #[.int .u8 0, .int .i64 0, .int .i64 0, .int .i64 0, .slice none 0 0] 24) := ⟨_, rfl⟩; rw [← hw1]; have HA1 := Lib.hid (show w1.heap[w.heap.size]? = some (.cells #[.bool true, .slice a sd.length c, .int .i64 (sbd : Int)] 48) by rw [hw1]; exact (Below.heap_alloc _ _ _ (by simp <;> omega)).trans ((Below.heap_alloc _ _ _ (by simp <;> omega)).trans (heap_alloc_new w _))); have HA2 := Lib.hid (show w1.heap[w.heap.size + 1]? = some (.cells #[.bool false, .slice none 0 0, .int .i64 0] 48) by rw [hw1]; refine (Below.heap_alloc _ _ _ (by simp <;> omega)).trans ?_; have h := heap_alloc_new (w.alloc (.cells #[.bool true, .slice a sd.length c, .int .i64 (sbd : Int)] 48)) (.cells #[.bool false, .slice none 0 0, .int .i64 0] 48); rw [World.size_alloc] at h; exact h); have HA3 := Lib.hid (show w1.heap[w.heap.size + 1 + 1]? = some (.cells #[.int .u8 0, .int .i64 0, .int .i64 0, .int .i64 0, .slice none 0 0] 24) by rw [hw1]; have h := heap_alloc_new ((w.alloc (.cells #[.bool true, .slice a sd.length c, .int .i64 (sbd : Int)] 48)).alloc (.cells #[.bool false, .slice none 0 0, .int .i64 0] 48)) (.cells #[.int .u8 0, .int .i64 0, .int .i64 0, .int .i64 0, .slice none 0 0] 24); rw [World.size_alloc, World.size_alloc] at h; exact h); have HB1 := Lib.hid (show Below w.heap.size w w1 by rw [hw1]; (repeat (first | (with_reducible exact Below.refl _ _) | (with_reducible refine Bw.alloc ?_ _) | (with_reducible refine Bw.drewN ?_ _) | (with_reducible refine Bw.drew ?_)))); clear hw1; (refine (refIndex_any x w1).mono ?_); rintro e w2 ⟨rfl, hb⟩; have HS2 := Lib.hid ((hb.block _ (lt_of_block HA1.out)).trans HA1.out); have HR2 := Lib.hid ((hb.block _ (lt_of_block HA2.out)).trans HA2.out); have HQ2 := Lib.hid ((hb.block _ (lt_of_block HA3.out)).trans HA3.out); have HB2 := Lib.hid (HB1.out.trans (hb.mono HB1.out.size)); clear hb; obtain ⟨s0, s1, s2⟩ := sr_cells HS2.out; have sf := fun i => blk_free HS2.out i; obtain ⟨r0, r1, r2⟩ := sr_cells HR2.out; have rf := fun i => blk_free HR2.out i; obtain ⟨q0, q1, q2, q3, q4⟩ := pk_cells HQ2.out; have qf := fun i => blk_free HQ2.out i; have hsl := lt_of_block HS2.out; have hrl := lt_of_block HR2.out; have hql := lt_of_block HQ2.out
    generalize idxI x = n at *
    go_wp2_with fail
    have hrx : (w2).heap[w.heap.size + 1]? = some (.cells #[.bool false, .slice none 0 0, .int .i64 0] 48) := (by first | exact HR2.out | ((apply row_trans; focus (repeat (first | (with_reducible exact HR2.out) | (with_reducible apply row_set) | (with_reducible apply row_drewN) | (with_reducible apply row_drew) | (with_reducible apply row_alloc) | (apply row_set_other (by first | omega | (simp <;> omega)))))); rfl)); have hqx : (w2).heap[w.heap.size + 1 + 1]? = some (.cells #[.int .u8 0, .int .i64 0, .int .i64 0, .int .i64 0, .slice none 0 0] 24) := (by first | exact HQ2.out | ((apply row_trans; focus (repeat (first | (with_reducible exact HQ2.out) | (with_reducible apply row_set) | (with_reducible apply row_drewN) | (with_reducible apply row_drew) | (with_reducible apply row_alloc) | (apply row_set_other (by first | omega | (simp <;> omega)))))); rfl)); obtain ⟨f0, f1, f2⟩ := sr_cells (fin8_1 (show w.heap.size + 1 ≠ w.heap.size + 1 + 1 by omega) hrx (.bool false) (.slice none ([] : List Byte).length 0) (.int .i64 ((sbd : Int) + 1)) (.int .u8 0) (.int .i64 0) (.int .i64 0) (.int .i64 0) (.slice none 0 0)); obtain ⟨g0, g1, g2, g3, g4⟩ := pk_cells (fin8_2 (show w.heap.size + 1 ≠ w.heap.size + 1 + 1 by omega) hqx (.bool false) (.slice none ([] : List Byte).length 0) (.int .i64 ((sbd : Int) + 1)) (.int .u8 0) (.int .i64 0) (.int .i64 0) (.int .i64 0) (.slice none 0 0)); unfold fin8 at f0 f1 f2 g0 g1 g2 g3 g4; (try simp only [List.length_append] at f0 f1 f2 g0 g1 g2 g3 g4); (try simp only [List.length_cons] at f0 f1 f2 g0 g1 g2 g3 g4); (try simp only [List.length_nil] at f0 f1 f2 g0 g1 g2 g3 g4); (try simp only [Nat.zero_add] at f0 f1 f2 g0 g1 g2 g3 g4); exact bodyPost_ret (v := .tuple #[.agg #[.bool false, .slice none ([] : List Byte).length 0, .int .i64 ((sbd : Int) + 1)], .agg #[.int .u8 0, .int .i64 0, .int .i64 0, .int .i64 0, .slice none 0 0], .bool false]) (by simp [results, Tryd.results29, go_sem, f0, f1, f2, g0, g1, g2, g3, g4]) rfl (RefP.mk HP.out (w := w) (wx := w2) HB2.out none 0 Pk.zero false none 0 rfl (fun _ => rfl) (d := []) rfl rfl (by show (sbd : Int) + 1 = ((sbd + 1 : Nat) : Int); omega) (.inl ⟨By.of_nil w, rfl⟩) (Nb.nil _ _) _ _ _ _ _ _ _ _)
set_option maxRecDepth 100000 in
set_option maxHeartbeats 4000000 in
theorem refP_end (hi : s.inside = true) (hs : By w (.slice a s.data.length c) s.data) (hb : s.bad < 900000) (hlen : s.data.length ≤ 1000) :
    Calls Tryd.prog 29 #[.agg #[.bool s.inside, .slice a s.data.length c, .int .i64 (s.bad : Int)], .int .u8 (U (50 : Byte))] w (RefP w s 50) := by
  have HPE := Lib.hid (fun p he hp => push_end (p := p) hi he hp)
  have HPB := Lib.hid (fun he => push_bad (x := 50) (by decide) hi (fun hh => absurd hh.1 (by decide)) he)
  have HV := Lib.hid hs
  clear hs
  obtain ⟨si, sd, sbd⟩ := s
  dsimp only at HV hb HPE HPB hi hlen ⊢
  subst hi
  have HIX : Hid (idxI 50 = 17) := Lib.hid (by decide)
  go_enter Tryd.func29, Tryd.ntmps29; go_wp2_with fail; obtain ⟨w1, hw1⟩ : ∃ w1, w1 = ((w.alloc (.cells #[.bool true, .slice a sd.length c, .int .i64 (sbd : Int)] 48)).alloc (.cells #[.bool false, .slice none 0 0, .int .i64 0] 48)).alloc (.cells #[.int .u8 0, .int .i64 0, .int .i64 0, .int .i64 0, .slice none 0 0] 24) := ⟨_, rfl⟩; rw [← hw1]; have HA1 := Lib.hid (show w1.heap[w.heap.size]? = some (.cells #[.bool true, .slice a sd.length c, .int .i64 (sbd : Int)] 48) by rw [hw1]; exact (Below.heap_alloc _ _ _ (by simp <;> omega)).trans ((Below.heap_alloc _ _ _ (by simp <;> omega)).trans (heap_alloc_new w _))); have HA2 := Lib.hid (show w1.heap[w.heap.size + 1]? = some (.cells #[.bool false, .slice none 0 0, .int .i64 0] 48) by rw [hw1]; refine (Below.heap_alloc _ _ _ (by simp <;> omega)).trans ?_; have h := heap_alloc_new (w.alloc (.cells #[.bool true, .slice a sd.length c, .int .i64 (sbd : Int)] 48)) (.cells #[.bool false, .slice none 0 0, .int .i64 0] 48); rw [World.size_alloc] at h; exact h); have HA3 := Lib.hid (show w1.heap[w.heap.size + 1 + 1]? = some (.cells #[.int .u8 0, .int .i64 0, .int .i64 0, .int .i64 0, .slice none 0 0] 24) by rw [hw1]; have h := heap_alloc_new ((w.alloc (.cells #[.bool true, .slice a sd.length c, .int .i64 (sbd : Int)] 48)).alloc (.cells #[.bool false, .slice none 0 0, .int .i64 0] 48)) (.cells #[.int .u8 0, .int .i64 0, .int .i64 0, .int .i64 0, .slice none 0 0] 24); rw [World.size_alloc, World.size_alloc] at h; exact h); have HB1 := Lib.hid (show Below w.heap.size w w1 by rw [hw1]; (repeat (first | (with_reducible exact Below.refl _ _) | (with_reducible refine Bw.alloc ?_ _) | (with_reducible refine Bw.drewN ?_ _) | (with_reducible refine Bw.drew ?_)))); clear hw1; (refine (refIndex_any 50 w1).mono ?_); rintro e w2 ⟨rfl, hb⟩; have HS2 := Lib.hid ((hb.block _ (lt_of_block HA1.out)).trans HA1.out); have HR2 := Lib.hid ((hb.block _ (lt_of_block HA2.out)).trans HA2.out); have HQ2 := Lib.hid ((hb.block _ (lt_of_block HA3.out)).trans HA3.out); have HB2 := Lib.hid (HB1.out.trans (hb.mono HB1.out.size)); clear hb; obtain ⟨s0, s1, s2⟩ := sr_cells HS2.out; have sf := fun i => blk_free HS2.out i; obtain ⟨r0, r1, r2⟩ := sr_cells HR2.out; have rf := fun i => blk_free HR2.out i; obtain ⟨q0, q1, q2, q3, q4⟩ := pk_cells HQ2.out; have qf := fun i => blk_free HQ2.out i; have hsl := lt_of_block HS2.out; have hrl := lt_of_block HR2.out; have hql := lt_of_block HQ2.out
  rw [HIX.out]
  have HLT := Lib.hid hql
  go_wp2_with fail
  refine (refDecS_any _ sd w2 (HV.out.below HB2.out) (by omega)).mono ?_
  rintro e w3 ⟨bv, rfl, hn3, hb3⟩
  have hbn := hn3.by
  obtain ⟨ba, bc, rfl⟩ := hbn.slice
  have HN3 := Lib.hid hbn
  have HSL := Lib.hid (show (decS sd).1.length ≤ 1000 by
    unfold decS
    split
    · simp
    · split
      · show (decB sd).length ≤ _; rw [decB_length]; omega
      · simp)
  (have hsr := (hb3.block _ (by have := HLT.out; omega)).trans HS2.out; have hrr := (hb3.block _ (by have := HLT.out; omega)).trans HR2.out; have hqr := (hb3.block _ (by have := HLT.out; omega)).trans HQ2.out; clear HS2 HR2 HQ2; clear s0 s1 s2 sf r0 r1 r2 rf q0 q1 q2 q3 q4 qf hsl hrl hql; have HS2 := Lib.hid hsr; have HR2 := Lib.hid hrr; have HQ2 := Lib.hid hqr; clear hsr hrr hqr; obtain ⟨s0, s1, s2⟩ := sr_cells HS2.out; have sf := fun i => blk_free HS2.out i; obtain ⟨r0, r1, r2⟩ := sr_cells HR2.out; have rf := fun i => blk_free HR2.out i; obtain ⟨q0, q1, q2, q3, q4⟩ := pk_cells HQ2.out; have qf := fun i => blk_free HQ2.out i; have hsl := lt_of_block HS2.out; have hrl := lt_of_block HR2.out; have hql := lt_of_block HQ2.out)
  have HB3 := Lib.hid (HB2.out.trans (hb3.mono HB2.out.size))
  have HL3 := Lib.hid (Nat.lt_of_lt_of_le HLT.out hb3.size)
  clear hn3 hb3 hbn
  obtain ⟨r, hr⟩ : ∃ r, r = decS sd := ⟨_, rfl⟩
  rw [← hr] at HN3 HSL ⊢
  have HR := Lib.hid hr; clear hr
  obtain ⟨bs, n2, e2⟩ := r
  dsimp only at HN3 HSL ⊢
  go_wp2_with fail
  refine (decR_any _ bs w3 HN3.out (by have := HSL.out; omega)).mono ?_
  rintro e w4 ⟨ra, rc, rfl, hn4, hb4⟩
  clear HLT
  have HLT := HL3
  (have hsr := (hb4.block _ (by have := HLT.out; omega)).trans HS2.out; have hrr := (hb4.block _ (by have := HLT.out; omega)).trans HR2.out; have hqr := (hb4.block _ (by have := HLT.out; omega)).trans HQ2.out; clear HS2 HR2 HQ2; clear s0 s1 s2 sf r0 r1 r2 rf q0 q1 q2 q3 q4 qf hsl hrl hql; have HS2 := Lib.hid hsr; have HR2 := Lib.hid hrr; have HQ2 := Lib.hid hqr; clear hsr hrr hqr; obtain ⟨s0, s1, s2⟩ := sr_cells HS2.out; have sf := fun i => blk_free HS2.out i; obtain ⟨r0, r1, r2⟩ := sr_cells HR2.out; have rf := fun i => blk_free HR2.out i; obtain ⟨q0, q1, q2, q3, q4⟩ := pk_cells HQ2.out; have qf := fun i => blk_free HQ2.out i; have hsl := lt_of_block HS2.out; have hrl := lt_of_block HR2.out; have hql := lt_of_block HQ2.out)
  have HB4 := Lib.hid (HB3.out.trans (hb4.mono HB3.out.size))
  have HN4 := Lib.hid hn4
  clear hn4 hb4
  obtain ⟨q, hq⟩ : ∃ q, q = decP bs := ⟨_, rfl⟩
  rw [← hq] at HN4 ⊢
  have HPQ := Lib.hid hq; clear hq
  obtain ⟨q, qf'⟩ := q
  dsimp only at HN4 ⊢
  go_upto_region 14 with (fail)
  obtain ⟨w5, hw5⟩ : ∃ w5, w5 = w4.alloc (.cells #[.int .u8 (U q.kind), .int .i64 q.cls, .int .i64 q.number, .int .i64 q.value, .slice ra q.pay.length rc] 24) := ⟨_, rfl⟩
  rw [← hw5]
  have hb5 : Below w4.heap.size w4 w5 := by rw [hw5]; exact below_alloc w4 _
  have HY5 := Lib.hid (show w5.heap[w4.heap.size]? = some (.cells #[.int .u8 (U q.kind), .int .i64 q.cls, .int .i64 q.number, .int .i64 q.value, .slice ra q.pay.length rc] 24) by rw [hw5]; exact heap_alloc_new w4 _)
  have h45 : w4.heap.size < w5.heap.size := lt_of_block HY5.out
  clear hw5
  have HL4 := Lib.hid hql
  clear HLT
  have HLT := HL4
  (have hsr := (hb5.block _ (by have := HLT.out; omega)).trans HS2.out; have hrr := (hb5.block _ (by have := HLT.out; omega)).trans HR2.out; have hqr := (hb5.block _ (by have := HLT.out; omega)).trans HQ2.out; clear HS2 HR2 HQ2; clear s0 s1 s2 sf r0 r1 r2 rf q0 q1 q2 q3 q4 qf hsl hrl hql; have HS2 := Lib.hid hsr; have HR2 := Lib.hid hrr; have HQ2 := Lib.hid hqr; clear hsr hrr hqr; obtain ⟨s0, s1, s2⟩ := sr_cells HS2.out; have sf := fun i => blk_free HS2.out i; obtain ⟨r0, r1, r2⟩ := sr_cells HR2.out; have rf := fun i => blk_free HR2.out i; obtain ⟨q0, q1, q2, q3, q4⟩ := pk_cells HQ2.out; have qf := fun i => blk_free HQ2.out i; have hsl := lt_of_block HS2.out; have hrl := lt_of_block HR2.out; have hql := lt_of_block HQ2.out)
  have HB5 := Lib.hid (HB4.out.trans (hb5.mono HB4.out.size))
  have HN5 := Lib.hid (HN4.out.below hb5)
  clear hb5
  obtain ⟨y0, y1, y2, y3, y4⟩ := pk_cells HY5.out
  by_cases hok : e2 = 0 ∧ qf' = 0
  · obtain ⟨rfl, rfl⟩ := hok
    have HP := Lib.hid (HPE.out q (by rw [← HR.out]) (by rw [← HR.out]; exact HPQ.out.symm))
    clear HPE HPB
    go_wp2_with fail
    refine wp_region_held_drew (S := fun w' => w'.heap[w.heap.size]? = some (.cells #[.bool true, .slice a sd.length c, .int .i64 (sbd : Int)] 48) ∧ w'.heap[w4.heap.size]? = some (.cells #[.int .u8 (U q.kind), .int .i64 q.cls, .int .i64 q.number, .int .i64 q.value, .slice ra q.pay.length rc] 24)) (by kernel_rfl) ⟨HS2.out, HY5.out⟩ (fun hS0 => ?_)
    change wpAnyH _ _ _ _ _ (3 + 4) _ _ _
    refine wpAnyH_take_n 0 4 (by kernel_rfl) hS0 (fun _ _ _ _ _ h => h) ?_
    simp only [List.drop_zero, List.take_succ_cons, List.take_zero]
    iterate 4 (refine wpFirst_val (v := ?_) (by rfl) ?_ ?_; rotate_left 1; (focus ((intro w' hS'; obtain ⟨k0, k1, k2⟩ := sr_cells hS'.1; obtain ⟨l0, l1, l2, l3, l4⟩ := pk_cells hS'.2; clear hS'; go_simp); try with_reducible rfl)); simp only [Act.put, List.setIfInBounds_toArray, List.set_cons_zero, List.set_cons_succ])
    refine wpFirst_nil ?_
    refine wpAnyH_one 4 (by kernel_rfl) rfl (fun K hK => ?_)
    go_simp
    have hne1 : w.heap.size ≠ w.heap.size + 1 := by omega
    have hne2 : w4.heap.size ≠ w.heap.size + 1 := by have := HLT.out; omega
    have hne3 : w4.heap.size ≠ w.heap.size + 1 + 1 := by have := HLT.out; omega
    obtain ⟨w6, hw6⟩ : ∃ w6, w6 = (((w5.setCell ⟨w.heap.size + 1, 0, none⟩ (.bool false)).setCell ⟨w.heap.size + 1, 1, none⟩ (.slice none 0 0)).setCell ⟨w.heap.size + 1, 2, none⟩ (.int .i64 (sbd : Int))) := ⟨_, rfl⟩
    have HS6 := Lib.hid (show w6.heap[w.heap.size]? = some (.cells #[.bool true, .slice a sd.length c, .int .i64 (sbd : Int)] 48) by rw [hw6]; exact (sts3_other hne1 _ _ _).trans HS2.out)
    have HY6 := Lib.hid (show w6.heap[w4.heap.size]? = some (.cells #[.int .u8 (U q.kind), .int .i64 q.cls, .int .i64 q.number, .int .i64 q.value, .slice ra q.pay.length rc] 24) by rw [hw6]; exact (sts3_other hne2 _ _ _).trans HY5.out)
    have HQ6 := Lib.hid (show w6.heap[w.heap.size + 1 + 1]? = some (.cells #[.int .u8 0, .int .i64 0, .int .i64 0, .int .i64 0, .slice none 0 0] 24) by rw [hw6]; exact (sts3_other (by omega) _ _ _).trans HQ2.out)
    have HW6 := Lib.hid hw6
    rw [← hw6]
    clear hw6
    refine hK.out _ _ ⟨HS6.out, HY6.out⟩ ?_
    clear hK K
    clear s0 s1 s2 sf r0 r1 r2 rf q0 q1 q2 q3 q4 qf hsl hrl hql
    clear y0 y1 y2 y3 y4
    obtain ⟨q0, q1, q2, q3, q4⟩ := pk_cells HQ6.out
    have qf := fun i => blk_free HQ6.out i
    have hql := lt_of_block HQ6.out
    refine wpAnyH_one 5 (by kernel_rfl) rfl (fun K hK => ?_)
    go_simp
    obtain ⟨w7, hw7⟩ : ∃ w7, w7 = ((((w6.setCell ⟨w.heap.size + 1 + 1, 0, none⟩ (.int .u8 (U q.kind))).setCell ⟨w.heap.size + 1 + 1, 1, none⟩ (.int .i64 q.cls)).setCell ⟨w.heap.size + 1 + 1, 2, none⟩ (.int .i64 q.number)).setCell ⟨w.heap.size + 1 + 1, 3, none⟩ (.int .i64 q.value)).setCell ⟨w.heap.size + 1 + 1, 4, none⟩ (.slice ra q.pay.length rc) := ⟨_, rfl⟩
    have HS7 := Lib.hid (show w7.heap[w.heap.size]? = some (.cells #[.bool true, .slice a sd.length c, .int .i64 (sbd : Int)] 48) by rw [hw7]; exact (sts5_other (by omega) _ _ _ _ _).trans HS6.out)
    have HY7 := Lib.hid (show w7.heap[w4.heap.size]? = some (.cells #[.int .u8 (U q.kind), .int .i64 q.cls, .int .i64 q.number, .int .i64 q.value, .slice ra q.pay.length rc] 24) by rw [hw7]; exact (sts5_other hne3 _ _ _ _ _).trans HY6.out)
    have HW7 := Lib.hid hw7
    rw [← hw7]
    clear hw7
    refine hK.out _ _ ⟨HS7.out, HY7.out⟩ ?_
    clear hK K
    clear q0 q1 q2 q3 q4 qf hql
    refine wpAnyH_one 6 (by kernel_rfl) rfl (fun K hK => ?_)
    go_simp
    refine hK.out _ _ ⟨HS7.out, HY7.out⟩ ?_
    clear hK K
    refine wpAnyH_done (by kernel_rfl) ?_ _
    go_wp2_with fail
    have hfin : fin8 w5 (w.heap.size + 1) (w.heap.size + 1 + 1) (.bool false) (.slice none 0 0) (.int .i64 (sbd : Int)) (.int .u8 (U q.kind)) (.int .i64 q.cls) (.int .i64 q.number) (.int .i64 q.value) (.slice ra q.pay.length rc) = w7 := by rw [HW7.out, HW6.out]; rfl
    have hrp := RefP.mk HP.out (w := w) (wx := w5) HB5.out none 0 q true ra rc rfl (fun h => by cases h) (d := []) rfl rfl rfl (.inl ⟨By.of_nil w, rfl⟩) (HN5.out.lower (by have := HL3.out; omega)) (.bool false) (.slice none 0 0) (.int .i64 (sbd : Int)) (.int .u8 (U q.kind)) (.int .i64 q.cls) (.int .i64 q.number) (.int .i64 q.value) (.slice ra q.pay.length rc)
    have hg1 := fin8_1 (show w.heap.size + 1 ≠ w.heap.size + 1 + 1 by omega) HR2.out (.bool false) (.slice none 0 0) (.int .i64 (sbd : Int)) (.int .u8 (U q.kind)) (.int .i64 q.cls) (.int .i64 q.number) (.int .i64 q.value) (.slice ra q.pay.length rc)
    have hg2 := fin8_2 (show w.heap.size + 1 ≠ w.heap.size + 1 + 1 by omega) HQ2.out (.bool false) (.slice none 0 0) (.int .i64 (sbd : Int)) (.int .u8 (U q.kind)) (.int .i64 q.cls) (.int .i64 q.number) (.int .i64 q.value) (.slice ra q.pay.length rc)
    rw [hfin] at hrp hg1 hg2
    clear hfin
    obtain ⟨f0, f1, f2⟩ := sr_cells hg1
    obtain ⟨g0, g1, g2, g3, g4⟩ := pk_cells hg2
    exact bodyPost_ret (v := .tuple #[.agg #[.bool false, .slice none 0 0, .int .i64 (sbd : Int)], .agg #[.int .u8 (U q.kind), .int .i64 q.cls, .int .i64 q.number, .int .i64 q.value, .slice ra q.pay.length rc], .bool true]) (by simp [results, Tryd.results29, go_sem, f0, f1, f2, g0, g1, g2, g3, g4]) rfl hrp.drew
  · have HP := Lib.hid (HPB.out (fun hh => hok (by have h1 := hh.2.1; have h2 := hh.2.2; rw [← HR.out] at h1 h2; dsimp only at h1 h2; rw [← HPQ.out] at h2; exact ⟨h1, h2⟩)))
    clear HPE HPB
    by_cases he2 : e2 = 0
    · have hf2 : (qf' == 0) = false := by simpa using fun h => hok ⟨he2, h⟩
      subst he2
      clear hok
      go_wp2_with fail
      have hrx : (w5).heap[w.heap.size + 1]? = some (.cells #[.bool false, .slice none 0 0, .int .i64 0] 48) := (by first | exact HR2.out | ((apply row_trans; focus (repeat (first | (with_reducible exact HR2.out) | (with_reducible apply row_set) | (with_reducible apply row_drewN) | (with_reducible apply row_drew) | (with_reducible apply row_alloc) | (apply row_set_other (by first | omega | (simp <;> omega)))))); rfl)); have hqx : (w5).heap[w.heap.size + 1 + 1]? = some (.cells #[.int .u8 0, .int .i64 0, .int .i64 0, .int .i64 0, .slice none 0 0] 24) := (by first | exact HQ2.out | ((apply row_trans; focus (repeat (first | (with_reducible exact HQ2.out) | (with_reducible apply row_set) | (with_reducible apply row_drewN) | (with_reducible apply row_drew) | (with_reducible apply row_alloc) | (apply row_set_other (by first | omega | (simp <;> omega)))))); rfl)); obtain ⟨f0, f1, f2⟩ := sr_cells (fin8_1 (show w.heap.size + 1 ≠ w.heap.size + 1 + 1 by omega) hrx (.bool false) (.slice none ([] : List Byte).length 0) (.int .i64 ((sbd : Int) + 1)) (.int .u8 0) (.int .i64 0) (.int .i64 0) (.int .i64 0) (.slice none 0 0)); obtain ⟨g0, g1, g2, g3, g4⟩ := pk_cells (fin8_2 (show w.heap.size + 1 ≠ w.heap.size + 1 + 1 by omega) hqx (.bool false) (.slice none ([] : List Byte).length 0) (.int .i64 ((sbd : Int) + 1)) (.int .u8 0) (.int .i64 0) (.int .i64 0) (.int .i64 0) (.slice none 0 0)); unfold fin8 at f0 f1 f2 g0 g1 g2 g3 g4; (try simp only [List.length_append] at f0 f1 f2 g0 g1 g2 g3 g4); (try simp only [List.length_cons] at f0 f1 f2 g0 g1 g2 g3 g4); (try simp only [List.length_nil] at f0 f1 f2 g0 g1 g2 g3 g4); (try simp only [Nat.zero_add] at f0 f1 f2 g0 g1 g2 g3 g4); exact bodyPost_ret (v := .tuple #[.agg #[.bool false, .slice none ([] : List Byte).length 0, .int .i64 ((sbd : Int) + 1)], .agg #[.int .u8 0, .int .i64 0, .int .i64 0, .int .i64 0, .slice none 0 0], .bool false]) (by simp [results, Tryd.results29, go_sem, f0, f1, f2, g0, g1, g2, g3, g4]) rfl (RefP.mk HP.out (w := w) (wx := w5) HB5.out none 0 Pk.zero false none 0 rfl (fun _ => rfl) (d := []) rfl rfl (by show (sbd : Int) + 1 = ((sbd + 1 : Nat) : Int); omega) (.inl ⟨By.of_nil w, rfl⟩) (Nb.nil _ _) _ _ _ _ _ _ _ _)
    · have hf2 : (e2 == 0) = false := by simpa using he2
      clear hok he2
      go_wp2_with fail
      have hrx : (w5).heap[w.heap.size + 1]? = some (.cells #[.bool false, .slice none 0 0, .int .i64 0] 48) := (by first | exact HR2.out | ((apply row_trans; focus (repeat (first | (with_reducible exact HR2.out) | (with_reducible apply row_set) | (with_reducible apply row_drewN) | (with_reducible apply row_drew) | (with_reducible apply row_alloc) | (apply row_set_other (by first | omega | (simp <;> omega)))))); rfl)); have hqx : (w5).heap[w.heap.size + 1 + 1]? = some (.cells #[.int .u8 0, .int .i64 0, .int .i64 0, .int .i64 0, .slice none 0 0] 24) := (by first | exact HQ2.out | ((apply row_trans; focus (repeat (first | (with_reducible exact HQ2.out) | (with_reducible apply row_set) | (with_reducible apply row_drewN) | (with_reducible apply row_drew) | (with_reducible apply row_alloc) | (apply row_set_other (by first | omega | (simp <;> omega)))))); rfl)); obtain ⟨f0, f1, f2⟩ := sr_cells (fin8_1 (show w.heap.size + 1 ≠ w.heap.size + 1 + 1 by omega) hrx (.bool false) (.slice none ([] : List Byte).length 0) (.int .i64 ((sbd : Int) + 1)) (.int .u8 0) (.int .i64 0) (.int .i64 0) (.int .i64 0) (.slice none 0 0)); obtain ⟨g0, g1, g2, g3, g4⟩ := pk_cells (fin8_2 (show w.heap.size + 1 ≠ w.heap.size + 1 + 1 by omega) hqx (.bool false) (.slice none ([] : List Byte).length 0) (.int .i64 ((sbd : Int) + 1)) (.int .u8 0) (.int .i64 0) (.int .i64 0) (.int .i64 0) (.slice none 0 0)); unfold fin8 at f0 f1 f2 g0 g1 g2 g3 g4; (try simp only [List.length_append] at f0 f1 f2 g0 g1 g2 g3 g4); (try simp only [List.length_cons] at f0 f1 f2 g0 g1 g2 g3 g4); (try simp only [List.length_nil] at f0 f1 f2 g0 g1 g2 g3 g4); (try simp only [Nat.zero_add] at f0 f1 f2 g0 g1 g2 g3 g4); exact bodyPost_ret (v := .tuple #[.agg #[.bool false, .slice none ([] : List Byte).length 0, .int .i64 ((sbd : Int) + 1)], .agg #[.int .u8 0, .int .i64 0, .int .i64 0, .int .i64 0, .slice none 0 0], .bool false]) (by simp [results, Tryd.results29, go_sem, f0, f1, f2, g0, g1, g2, g3, g4]) rfl (RefP.mk HP.out (w := w) (wx := w5) HB5.out none 0 Pk.zero false none 0 rfl (fun _ => rfl) (d := []) rfl rfl (by show (sbd : Int) + 1 = ((sbd + 1 : Nat) : Int); omega) (.inl ⟨By.of_nil w, rfl⟩) (Nb.nil _ _) _ _ _ _ _ _ _ _)
/-- the reference's Push, at any symbol -/
theorem refP_any (x : Byte) (hd : s.inside = false → s.data = []) (hl : s.data.length ≤ 162) (hs : By w (.slice a s.data.length c) s.data) (hb : s.bad < 900000) :
    Calls Tryd.prog 29 #[.agg #[.bool s.inside, .slice a s.data.length c, .int .i64 (s.bad : Int)], .int .u8 (U x)] w (RefP w s x) := by
  by_cases hx : x = 49
  · subst hx; exact refP_start hs hb
  · cases hi : s.inside with
    | false => have := refP_out hx hi (hd hi) hs hb; rwa [hi] at this
    | true =>
      by_cases hx2 : x = 50
      · subst hx2; have := refP_end hi hs hb (by omega); rwa [hi] at this
      · by_cases hl2 : isData x = true ∧ s.data.length < 162
        · have := refP_data hl2.1 hi hl2.2 hs hb; rwa [hi] at this
        · have := refP_bad hx hx2 hi hl2 hs hb; rwa [hi] at this
theorem RefP.held {F Z : BS} {W w' : World} {ts : List Th} {x : Byte} {e : Ending} (h : Held F Z W ts w) (hr : RefP w s x e w') : ∃ (a : Option Addr) (c : Nat) (r : Pk) (f : Bool) (ra : Option Addr) (rc : Nat), e = .returned (.tuple #[.agg #[.bool (s.push x).1.inside, .slice a (s.push x).1.data.length c, .int .i64 ((s.push x).1.bad : Int)], .agg #[.int .u8 (U r.kind), .int .i64 r.cls, .int .i64 r.number, .int .i64 r.value, .slice ra r.pay.length rc], .bool f]) ∧
    (s.push x).2 = (if f then some r else none) ∧ (f = false → r = Pk.zero) ∧ Held F Z W (ts ++ [tBy (.slice a (s.push x).1.data.length c) (s.push x).1.data, tBy (.slice ra r.pay.length rc) r.pay]) w' := by
  obtain ⟨a, c, r, f, ra, rc, h1, h2, h3, h4, h5, h6⟩ := hr
  refine ⟨a, c, r, f, ra, rc, h1, h4, h5, h.adds ⟨Fr.of_below (Fr.refl _ w) h6, fun k => w.heap.size ≤ k, fun k hk => .inr (.inr hk), Star.two (G := fun _ => False) (H := fun _ => False) h2 h3 (fun _ f => f.elim) (fun _ f => f.elim) fun _ f => f.elim⟩⟩
end
end Go.Proofs.YtdmfjmdnkfeljaaDoor
