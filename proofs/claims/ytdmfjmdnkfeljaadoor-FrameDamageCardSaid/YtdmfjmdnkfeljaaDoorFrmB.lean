/- The contract of linecode.Encode. The table of symbols must lie as laid; at most 100000 bytes. -/
import Derived.Test.YtdmfjmdnkfeljaaDoorFrmA
namespace Go.Proofs.YtdmfjmdnkfeljaaDoor
open Go.RowKit

theorem and15_u8 (x : Byte) : bits .and .u8 (x.toNat : Int) 15 = (x.toNat : Int) % 16 := by
  have h := (bits_u8 x 15#8).2.1
  have e : (U (15#8)) = 15 := by decide
  rw [e] at h
  show bits .and .u8 (U x) 15 = _
  rw [h]
  unfold U
  rw [BitVec.toNat_and]
  have : x.toNat &&& (15#8).toNat = x.toNat % 16 := Nat.and_two_pow_sub_one_eq_mod _ 4
  rw [this]; rfl
theorem enc_take (bs : List Byte) (k : Nat) (h : k < bs.length) : encS (bs.take (k + 1)) = encS (bs.take k) ++ [sym ((bs.getD k 0).toNat / 16), sym ((bs.getD k 0).toNat % 16)] := by
  rw [take_getD bs k 0 h, encS_app]; rfl
/-- bytes in new memory, from block B on -/
def Nb (w : World) (B : Nat) (v : Value) (bs : List Byte) : Prop := Sl w (fun k => B ≤ k) 5 1 v bs.length (cu bs)
section
variable {w w' : World} {B : Nat} {v : Value} {bs : List Byte}
theorem Nb.by (h : Nb w B v bs) : By w v bs := Sl.rd h
theorem Nb.own (h : Nb w B v bs) : ∀ b, v.ownBlock = some b → B ≤ b := by
  intro b hb
  rcases h.2 with ⟨e, _⟩ | ⟨g, o, cp, cur, e, hF, _⟩
  · rw [e] at hb; cases hb
  · rw [e] at hb
    obtain rfl : g = b := by simpa [Value.ownBlock] using hb
    exact hF
theorem Nb.below (h : Nb w B v bs) (hb : Below w.heap.size w w') : Nb w' B v bs := Sl.keep h fun k _ hk => hb.block k hk
theorem Nb.lower (h : Nb w B v bs) {C : Nat} (hc : C ≤ B) : Nb w C v bs := Sl.mono h fun k hk => by omega
theorem Nb.nil (w : World) (B : Nat) : Nb w B (.slice none 0 0) [] := Sl.nil _ _ _ _
theorem Nb.of_ow (h : Ow 5 w B v bs) : Nb w B v bs := Sl.of_own h fun _ h => h
theorem Nb.slice (h : Nb w B v bs) : ∃ a c, v = .slice a bs.length c := h.by.slice
/-- a new block of cells, read as a slice that may grow -/
theorem Nb.lit (w : World) (g : Nat) (bs : List Byte) (arr : Array Value) (n : Nat) (hg : g = w.heap.size) (hB : B ≤ w.heap.size) (hc : arr.toList = cu bs) (hn : n = bs.length) (hm : n ≤ 1000000) : Nb (w.alloc (.cells arr 5)) B (.slice (some ⟨g, 0, none⟩) n n) bs := by
  subst hg
  subst hn
  have hs : arr.size = bs.length := by rw [← Array.length_toList, hc, cu_length]
  refine ⟨by rw [cu_length, Nat.mul_one], .inr ⟨w.heap.size, 0, bs.length, arr, rfl, hB, heap_alloc_new w _, Nat.le_refl _, by unfold maxLen; omega, by rw [hs]; omega, ?_⟩⟩
  rw [List.drop_zero, hc, Nat.mul_one, List.take_of_length_le (by rw [cu_length]; exact Nat.le_refl _)]
end
/-- append to bytes in new memory -/
theorem wpList_nb {w : World} {ops : Array Oper} {rest : List Oper} {o : Oper} {a : Act} {Q : Exit → Act → World → Prop}
    (hg : o.guard = none) (s x : Operand) (hop : o.op = Op.call { callee := Callee.builtin Builtin.append, args := #[s, x], argTypes := #[22, 22] })
    (B : Nat) (v : Value) (xs : List Byte) (hs : a.eval s = v) (hown : Nb w B v xs) (y : Value) (ys : List Byte) (hx : a.eval x = y) (hr : By w y ys) (hl : xs.length + ys.length ≤ 1000000) (hB : B ≤ w.heap.size)
    (hK : ∀ a' c' w', Nb w' B (.slice a' (xs.length + ys.length) c') (xs ++ ys) → Below B w w' → wpList Tryd.prog ops Q rest (a.put o.dst (.slice a' (xs.length + ys.length) c')) w') : wpList Tryd.prog ops Q (o :: rest) a w := by
  refine wpList_apps slB hg s x hop (fun k => B ≤ k) v xs.length (cu xs) hs hown y ys.length (cu ys) hx hr cu_one (by unfold maxLen; omega) (by omega) fun v' w' h1 h2 => ?_
  obtain ⟨a', c', rfl⟩ := h1.shape
  refine hK a' c' w' ?_ (h2.below hB fun _ h => h)
  unfold Nb
  rw [List.length_append, ← cu_app]
  exact h1.mono fun k hk => hk.elim id fun h => Nat.le_trans hB h
theorem step_nb {ops : Array Oper} {o : Oper} {a : Act} {w : World} {K : Act → World → Prop} {Q : Exit → Act → World → Prop} {E : Prop}
    (hg : o.guard = none) (s x : Operand) (hop : o.op = Op.call { callee := Callee.builtin Builtin.append, args := #[s, x], argTypes := #[22, 22] })
    (B : Nat) (v : Value) (xs : List Byte) (hs : a.eval s = v) (hown : Nb w B v xs) (y : Value) (ys : List Byte) (hx : a.eval x = y) (hr : By w y ys) (hl : xs.length + ys.length ≤ 1000000) (hB : B ≤ w.heap.size)
    (hK : ∀ a' c' w', Nb w' B (.slice a' (xs.length + ys.length) c') (xs ++ ys) → Below B w w' → K (a.put o.dst (.slice a' (xs.length + ys.length) c')) w') :
    if Region.wanted o (yielded ops a.tmps) = true then Oper.wp Tryd.prog o a w K Q else E := by
  refine step_app_sl slB hg s x hop (fun k => B ≤ k) v xs.length (cu xs) hs hown y ys.length (cu ys) hx hr cu_one (by unfold maxLen; omega) (by omega) fun v' w' h1 h2 => ?_
  obtain ⟨a', c', rfl⟩ := h1.shape
  refine hK a' c' w' ?_ (h2.below hB fun _ h => h)
  unfold Nb
  rw [List.length_append, ← cu_app]
  exact h1.mono fun k hk => hk.elim id fun h => Nat.le_trans hB h
theorem Ow.drew {T : TypeId} {w : World} {base : Nat} {v : Value} {bs : List Byte} (h : Ow T w base v bs) : Ow T w.drew base v bs := h
set_option maxHeartbeats 4000000 in
theorem enc_any (v : Value) (bs : List Byte) (w : World) (hb : By w v bs) (hv : Val w) (hm : bs.length ≤ 100000) :
    Calls Tryd.prog 40 #[v] w fun e w' => ∃ v', e = .returned v' ∧ Nb w' w.heap.size v' (encS bs) ∧ Below w.heap.size w w' := by
  have HB := Lib.hid hb; have HV := Lib.hid hv
  obtain ⟨a, cap, rfl⟩ := hb.slice
  clear hb hv
  go_enter Tryd.func40, Tryd.ntmps40
  go_wp2_with (at_make; refine wpList_mk slB rfl _ _ rfl w.heap.size _ rfl rfl (by omega) (by omega) (by unfold maxLen; omega) (Nat.le_refl _) ?_; intro w1 hown1 hg1; have HB1 := Lib.hid ((Below.refl w.heap.size w).grown hg1 (Nat.le_refl _) (fun k e => by cases e)); have HO1 := Lib.hid (show Nb w1 w.heap.size _ [] from Sl.of_own hown1 fun _ h => h); clear hown1 hg1)
  go_loopw [3, 12] (fun u3 i wr => ∃ k : Nat, k ≤ bs.length ∧ i = .int .i64 (k : Int) ∧ Hid (Nb wr w.heap.size u3 (encS (bs.take k))) ∧ Hid (Below w.heap.size w wr)) (fun _ i _ => bs.length - (intOf i).toNat)
  case atStart => exact ⟨0, by omega, by go_num, HO1, HB1⟩
  case round =>
    clear HO1 HB1
    obtain ⟨k, hk, rfl, HO, HBW⟩ := hrel
    by_cases hlt : k < bs.length
    · obtain ⟨_, ⟨h0, _⟩ | ⟨bb, off, cp, e, _, _, _, hc⟩⟩ := (HB.out.below HBW.out).cases
      · rw [h0] at hlt; simp at hlt
      · obtain ⟨rfl, rfl⟩ : a = some ⟨bb, off, none⟩ ∧ cap = cp := by simpa using e
        have hck := hc k hlt
        have HE := Lib.hid (enc_take bs k hlt)
        clear hc e
        generalize hx : bs.getD k 0 = x at *
        have HX := Lib.hid hx; clear hx
        rw [U_eq] at hck
        have hx256 : x.toNat < 256 := x.isLt
        have hand := and15_u8 x
        have hd1 : (0 : Int) ≤ (x.toNat : Int) / 16 ∧ (x.toNat : Int) / 16 < 20 := by omega
        have hd2 : ((x.toNat : Int) / 16).toNat = x.toNat / 16 := by omega
        have hd3 : (0 : Int) ≤ (x.toNat : Int) % 16 ∧ (x.toNat : Int) % 16 < 20 := by omega
        have hd4 : ((x.toNat : Int) % 16).toNat = x.toNat % 16 := by omega
        have hv1 := HV.out.below HBW.out (x.toNat / 16) (by omega)
        have hv2 := HV.out.below HBW.out (x.toNat % 16) (by omega)
        have hl2 : (encS (bs.take k)).length ≤ 200000 := by rw [encS_length, List.length_take]; omega
        generalize hxs : encS (bs.take k) = xs at *
        have HXS := Lib.hid hxs; clear hxs
        obtain ⟨ua, uc, rfl⟩ := HO.out.slice
        have hwr := HBW.out.size
        have hg0 : 0 < w.heap.size := World.block_lt_of_cell? _ _ (HV.out 0 (by decide))
        go_wp2_with fail
        go_region_held3 (fun w' => w'.cell? ⟨0, x.toNat / 16, none⟩ = some (.int .u8 (U (sym (x.toNat / 16)))) ∧ w'.cell? ⟨0, x.toNat % 16, none⟩ = some (.int .u8 (U (sym (x.toNat % 16))))) (first | exact ⟨hv1, hv2⟩ | exact ⟨hw1, hw2⟩ | exact ⟨cell_later (show Below wr.heap.size wr _ by (repeat (first | (with_reducible exact Below.refl _ _) | (with_reducible refine Bw.alloc ?_ _) | (with_reducible refine Bw.drewN ?_ _) | (with_reducible refine Bw.drew ?_)))) hv1, cell_later (show Below wr.heap.size wr _ by (repeat (first | (with_reducible exact Below.refl _ _) | (with_reducible refine Bw.alloc ?_ _) | (with_reducible refine Bw.drewN ?_ _) | (with_reducible refine Bw.drew ?_)))) hv2⟩)
          ((refine step_nb (by rfl) _ _ (by rfl) w.heap.size _ xs (by rfl) (by exact HO.out.below (by (repeat (first | (with_reducible exact Below.refl _ _) | (with_reducible refine Bw.alloc ?_ _) | (with_reducible refine Bw.drewN ?_ _) | (with_reducible refine Bw.drew ?_))))) _ [sym (x.toNat / 16), sym (x.toNat % 16)] (by rfl) (By_lit _ _ _ _ [sym (x.toNat / 16), sym (x.toNat % 16)] 2 2 (by simp) rfl rfl (Nat.le_refl _) (by decide)) (by show xs.length + 2 ≤ _; omega) (by simp; omega) ?_; intro a' c' w2 hn2 hb2; have hw1 := (hb2.cell (p := ⟨0, x.toNat / 16, none⟩) hg0).trans (cell_later (show Below wr.heap.size wr _ by (repeat (first | (with_reducible exact Below.refl _ _) | (with_reducible refine Bw.alloc ?_ _) | (with_reducible refine Bw.drewN ?_ _) | (with_reducible refine Bw.drew ?_)))) hv1); have hw2 := (hb2.cell (p := ⟨0, x.toNat % 16, none⟩) hg0).trans (cell_later (show Below wr.heap.size wr _ by (repeat (first | (with_reducible exact Below.refl _ _) | (with_reducible refine Bw.alloc ?_ _) | (with_reducible refine Bw.drewN ?_ _) | (with_reducible refine Bw.drew ?_)))) hv2); have HN2 := Lib.hid hn2; have HB2 := Lib.hid (HBW.out.trans (Below.trans ((show Below wr.heap.size wr _ by (repeat (first | (with_reducible exact Below.refl _ _) | (with_reducible refine Bw.alloc ?_ _) | (with_reducible refine Bw.drewN ?_ _) | (with_reducible refine Bw.drew ?_)))).mono hwr) hb2)); clear hn2 hb2))
        go_wp2_with fail
        go_roundw
        case rel => exact ⟨k + 1, by omega, by go_num, Lib.hid (by rw [HE.out]; exact HN2.out), HB2⟩
        case measure => simp [intOf]; omega
    · obtain rfl : k = bs.length := by omega
      go_wp2_with fail
      go_ret
      exact ⟨_, rfl, by have := HO.out; rw [List.take_length] at this; exact this, HBW.out⟩
end Go.Proofs.YtdmfjmdnkfeljaaDoor
