/- The reference's Decode of packets: plain facts, and the short and malformed strings. -/
import Derived.Test.YtdmfjmdnkfeljaaDoorFrmJ
namespace Go.Proofs.YtdmfjmdnkfeljaaDoor
open Go.RowKit

theorem num_congr {l r : List Byte} : ∀ k, (∀ j, j < k → l.getD j 0 = r.getD j 0) → num l k = num r k
  | 0, _ => rfl
  | k + 1, h => by
    show 256 * num l k + _ = 256 * num r k + _
    rw [num_congr k fun j hj => h j (by omega), h k (by omega)]
theorem getD_take_lt {l : List Byte} {k n : Nat} (h : k < n) : (l.take n).getD k 0 = l.getD k 0 := by
  unfold List.getD; rw [List.getElem?_take, if_pos h]
theorem getD_drop' (l : List Byte) (n k : Nat) : (l.drop n).getD k 0 = l.getD (n + k) 0 := by
  unfold List.getD; rw [List.getElem?_drop]
theorem ofBody_take (bs : List Byte) (n : Nat) (h : 13 ≤ n) : ofBody (bs.take n) = ⟨bs.getD 0 0, ((bs.getD 1 0).toNat : Int), (num ((bs.drop 2).take 5) 5 : Nat), (num ((bs.drop 7).take 5) 5 : Nat), (bs.drop 13).take (n - 13)⟩ := by
  unfold ofBody
  have e1 : num ((bs.take n).drop 2) 5 = num ((bs.drop 2).take 5) 5 := num_congr 5 fun j hj => by rw [getD_drop', getD_take_lt (by omega), getD_take_lt hj, getD_drop']
  have e2 : num ((bs.take n).drop 7) 5 = num ((bs.drop 7).take 5) 5 := num_congr 5 fun j hj => by rw [getD_drop', getD_take_lt (by omega), getD_take_lt hj, getD_drop']
  rw [getD_take_lt (by omega), getD_take_lt (by omega), e1, e2, List.drop_take]
theorem sealed_bytes (bs : List Byte) (n : Nat) (hn : bs.length = n + 4) : isSealed bs = true ↔ ∀ k, k < 4 → bs.getD (n + k) 0 = (csum (bs.take n) >>> (8 * k)).setWidth 8 := by
  have hln : (bs.take n).length = n := by rw [List.length_take]; omega
  have hle : ∀ S : BitVec 32, ∀ k, k < 4 → (le4 S).getD k 0 = (S >>> (8 * k)).setWidth 8 := fun S k hk => by
    have : k = 0 ∨ k = 1 ∨ k = 2 ∨ k = 3 := by omega
    rcases this with rfl | rfl | rfl | rfl <;> simp [le4]
  rw [isSealed_iff bs (by omega), show bs.length - 4 = n by omega]
  constructor
  · intro h k hk
    rw [← hle _ k hk]
    have : bs.getD (n + k) 0 = (sealed (bs.take n)).getD (n + k) 0 := congrArg (fun l : List Byte => l.getD (n + k) 0) h
    rw [this]
    unfold sealed List.getD
    rw [List.getElem?_append_right (by omega), hln, Nat.add_sub_cancel_left]
  · intro h
    unfold sealed
    conv => lhs; rw [← List.take_append_drop n bs]
    congr 1
    apply List.ext_getElem
    · simp [le4]; omega
    · intro k h1 h2
      have hk : k < 4 := by simpa [le4] using h2
      have h3 := (h k hk).trans (hle (csum (bs.take n)) k hk).symm
      rw [← getD_drop'] at h3
      have h4 : n + k < bs.length := by omega
      simpa [List.getD, h1, h2, h4] using h3
theorem By.part {w : World} {b off n c : Nat} {bs : List Byte} (h : By w (.slice (some ⟨b, off, none⟩) n c) bs) {i j : Nat} (hij : i ≤ j) (hj : j ≤ n) (hc : c ≠ i) : By w (.slice (some ⟨b, off + i, none⟩) (j - i) (c - i)) ((bs.drop i).take (j - i)) := by
  have := h.dropv (k := i) (by omega)
  rw [if_neg hc] at this
  exact this.take (by omega)
set_option maxRecDepth 100000 in
set_option maxHeartbeats 4000000 in
theorem decR_short (v : Value) (bs : List Byte) (w : World) (hb : By w v bs) (h : bs.length < 17) :
    Calls Tryd.prog 23 #[v] w (DecF w bs) := by
  have HD := Lib.hid (decP_short h)
  obtain ⟨a, cap, rfl⟩ := hb.slice
  clear hb
  go_enter Tryd.func23, Tryd.ntmps23
  go_wp2_with fail
  exact bodyPost_ret (v := .tuple #[.agg #[.int .u8 0, .int .i64 0, .int .i64 0, .int .i64 0, .slice none 0 0], .int .i64 4]) (by simp [results, Tryd.results23, go_sem]) rfl (DecF.zero HD.out (by (repeat (first | (with_reducible exact Below.refl _ _) | (with_reducible refine Bw.alloc ?_ _) | (with_reducible refine Bw.drewN ?_ _) | (with_reducible refine Bw.drew ?_)))))
set_option maxRecDepth 100000 in
set_option maxHeartbeats 4000000 in
theorem decR_form (v : Value) (bs : List Byte) (w : World) (hb : By w v bs) (h : 17 ≤ bs.length) (hm : bs.length ≤ 100000) (h2 : 64 < (bs.getD 12 0).toNat ∨ (bs.getD 12 0).toNat + 17 ≠ bs.length) :
    Calls Tryd.prog 23 #[v] w (DecF w bs) := by
  have HD := Lib.hid (decP_form h h2)
  obtain ⟨_, ⟨rfl, a, cap, rfl, _⟩ | ⟨b, off, cap, rfl, h0, hcap, hcm, hc⟩⟩ := hb.cases
  · simp at h
  have hc12 := hc 12 (by omega)
  clear hb hc
  rw [U_eq] at hc12
  have hm256 : (bs.getD 12 0).toNat < 256 := (bs.getD 12 0).isLt
  generalize (bs.getD 12 0).toNat = m at *
  have hlt : b < w.heap.size := World.block_lt_of_cell? w _ hc12
  by_cases h64 : 64 < m
  · clear h2
    go_enter Tryd.func23, Tryd.ntmps23
    go_wp2_with fail
    exact bodyPost_ret (v := .tuple #[.agg #[.int .u8 0, .int .i64 0, .int .i64 0, .int .i64 0, .slice none 0 0], .int .i64 3]) (by simp [results, Tryd.results23, go_sem]) rfl (DecF.zero HD.out (by (repeat (first | (with_reducible exact Below.refl _ _) | (with_reducible refine Bw.alloc ?_ _) | (with_reducible refine Bw.drewN ?_ _) | (with_reducible refine Bw.drew ?_)))))
  · have hne : ((m : Int) + 17 != (bs.length : Int)) = true := by simp; omega
    clear h2
    go_enter Tryd.func23, Tryd.ntmps23
    go_wp2_with fail
    exact bodyPost_ret (v := .tuple #[.agg #[.int .u8 0, .int .i64 0, .int .i64 0, .int .i64 0, .slice none 0 0], .int .i64 3]) (by simp [results, Tryd.results23, go_sem]) rfl (DecF.zero HD.out (by (repeat (first | (with_reducible exact Below.refl _ _) | (with_reducible refine Bw.alloc ?_ _) | (with_reducible refine Bw.drewN ?_ _) | (with_reducible refine Bw.drew ?_)))))
theorem step_lit0 {ops : Array Oper} {o : Oper} {a : Act} {w : World} {K : Act → World → Prop} {Q : Exit → Act → World → Prop} {E : Prop} (hg : o.guard = none) (hop : o.op = Op.buildSlice 22 0 #[])
    (hK : ∀ g w', w'.heap[g]? = some (.cells #[] 5) → w.heap.size ≤ g → Below w.heap.size w w' → K (a.put o.dst (.slice (some ⟨g, 0, none⟩) 0 0)) w') :
    if Region.wanted o (yielded ops a.tmps) = true then Oper.wp Tryd.prog o a w K Q else E := by
  obtain ⟨d, op, ty, pos, af, g⟩ := o
  dsimp only at hg hop
  subst hg; subst hop
  rw [if_pos (by simp [Region.wanted])]
  have h := hK w.heap.size (w.alloc (.cells #[] 5)) (heap_alloc_new w _) (Nat.le_refl _) (below_alloc w _)
  clear hK
  go_simp
  exact h
theorem step_app0 {ops : Array Oper} {o : Oper} {a : Act} {w : World} {K : Act → World → Prop} {Q : Exit → Act → World → Prop} {E : Prop}
    (hg : o.guard = none) (s x : Operand) (hop : o.op = Op.call { callee := Callee.builtin Builtin.append, args := #[s, x], argTypes := #[22, 22] })
    (lg : Nat) (hs : a.eval s = .slice (some ⟨lg, 0, none⟩) 0 0) (hlit : w.heap[lg]? = some (.cells #[] 5)) (y : Value) (ys : List Byte) (hx : a.eval x = y) (hr : By w y ys) (hl : ys.length ≤ 1000000)
    (hK : ∀ a' c' w', Sl w' (fun k => k = lg ∨ w.heap.size ≤ k) 5 1 (.slice a' ys.length c') ys.length (cu ys) → Fr (fun k => k = lg) w w' → K (a.put o.dst (.slice a' ys.length c')) w') :
    if Region.wanted o (yielded ops a.tmps) = true then Oper.wp Tryd.prog o a w K Q else E := by
  refine step_app_sl slB hg s x hop (fun k => k = lg) (.slice (some ⟨lg, 0, none⟩) 0 0) 0 [] hs ⟨rfl, .inr ⟨lg, 0, 0, #[], rfl, rfl, hlit, Nat.le_refl _, Nat.zero_le _, Nat.le_refl _, rfl⟩⟩ y ys.length (cu ys) hx hr cu_one (by unfold maxLen; omega) (by omega) fun v' w' h1 h2 => ?_
  rw [Nat.zero_add, List.nil_append] at h1
  obtain ⟨a', c', rfl⟩ := h1.shape
  exact hK a' c' w' h1 h2
end Go.Proofs.YtdmfjmdnkfeljaaDoor
