/- Slices written in place: an append that has room, clear. No condition on the program. -/
import Derived.Test.YtdmfjmdnkfeljaaDoorSep
import Derived.Test.YtdmfjmdnkfeljaaDoorRw
namespace Go.Proofs.YtdmfjmdnkfeljaaDoor
open Go.RowKit

/-- the cells with a piece written over -/
def over (cur : List Value) (o : Nat) (news : List Value) : List Value := cur.take o ++ news ++ cur.drop (o + news.length)
theorem over_length {cur news : List Value} {o : Nat} (h : o + news.length ≤ cur.length) : (over cur o news).length = cur.length := by
  unfold over; simp only [List.length_append, List.length_take, List.length_drop]; omega
theorem over_get {cur news : List Value} {o j : Nat} (h : o + news.length ≤ cur.length) : (over cur o news)[j]? = if j < o then cur[j]? else if j < o + news.length then news[j - o]? else cur[j]? := by
  unfold over
  have hl : (cur.take o).length = o := by rw [List.length_take]; omega
  by_cases h1 : j < o
  · rw [if_pos h1, List.getElem?_append_left (by rw [List.length_append, hl]; omega), List.getElem?_append_left (by omega), List.getElem?_take, if_pos h1]
  · rw [if_neg h1]
    by_cases h2 : j < o + news.length
    · rw [if_pos h2, List.getElem?_append_left (by rw [List.length_append, hl]; omega), List.getElem?_append_right (by omega), hl]
    · rw [if_neg h2, List.getElem?_append_right (by rw [List.length_append, hl]; omega), List.length_append, hl, List.getElem?_drop]
      congr 1; omega
/-- a piece that lies wholly before, or wholly behind -/
theorem over_apart {cur news : List Value} {o a n : Nat} (h : o + news.length ≤ cur.length) (hd : a + n ≤ o ∨ o + news.length ≤ a) : ((over cur o news).drop a).take n = (cur.drop a).take n := by
  apply List.ext_getElem?
  intro j
  rw [List.getElem?_take, List.getElem?_take]
  by_cases hj : j < n
  · rw [if_pos hj, if_pos hj, List.getElem?_drop, List.getElem?_drop, over_get h]
    rcases hd with hd | hd
    · rw [if_pos (by omega)]
    · rw [if_neg (by omega), if_neg (by omega)]
  · rw [if_neg hj, if_neg hj]
theorem over_same {cur news : List Value} {o : Nat} (h : o + news.length ≤ cur.length) : ((over cur o news).drop o).take news.length = news := by
  apply List.ext_getElem?
  intro j
  rw [List.getElem?_take]
  by_cases hj : j < news.length
  · rw [if_pos hj, List.getElem?_drop, over_get h, if_neg (by omega), if_pos (by omega)]; congr 1; omega
  · rw [if_neg hj, List.getElem?_eq_none (by omega)]
section
variable {P : Program}
/-- the world with a piece of a block written over -/
def wOver (w : World) (g : Nat) (cur : Array Value) (o : Nat) (news : List Value) : World := w.setRow g (over cur.toList o news).toArray
theorem over_row {w : World} {g : Nat} {cur : Array Value} {e : TypeId} (hg : w.heap[g]? = some (.cells cur e (0, 0))) (o : Nat) (news : List Value) : (wOver w g cur o news).heap[g]? = some (.cells (over cur.toList o news).toArray e (0, 0)) := setRow_heap w g cur _ e _ hg
theorem over_fr {w : World} {g : Nat} (cur : Array Value) (o : Nat) (news : List Value) : Fr (fun k => k = g) w (wOver w g cur o news) :=
  ⟨rfl, rfl, rfl, by simp [wOver], fun k _ hk => setRow_other w g k _ hk⟩
theorem run_append_here {t e : TypeId} {z : Value} {size bytes : Nat} (S : SlT P t e z size bytes) (w : World) (ty : TypeId) (g off n cap : Nat) (cur : Array Value) (hg : w.heap[g]? = some (.cells cur e (0, 0)))
    (a : Addr) (m c : Nat) (news : List Value) (hr : Rd w size (.slice (some a) m c) m news) (h1 : ∀ u ∈ news, u.oneCell' = true) (hroom : n + m ≤ cap) (hfit : off + cap * size ≤ cur.size) :
    (Builtin.append_ #[t, t] ty #[.slice (some ⟨g, off, none⟩) n cap, .slice (some a) m c]).run P w = .ok (.slice (some ⟨g, off, none⟩) (n + m) cap) (wOver w g cur (off + n * size) news) := by
  obtain ⟨i, hi, hz, rfl, rfl⟩ := S.info
  obtain ⟨hl, ad, c', e1, r1, r2, r3, r4⟩ := hr
  obtain ⟨rfl, rfl⟩ : some a = ad ∧ c = c' := by simpa using e1
  have hnews : ∀ j u, news[j]? = some u → w.cell? (a.add j) = some u := fun j u hj => by
    have := r4 a rfl j u hj
    rw [add_eq _ _ this.1]; exact this.2
  have hfit' : off + n * i.size + news.length ≤ cur.size := by
    have : (n + m) * i.size ≤ cap * i.size := Nat.mul_le_mul_right _ hroom
    rw [Nat.add_mul] at this
    rw [hl]; omega
  have := run_append_room_at (P := P) w t ty e i S.under hi g off n cap cur hg a m c news hl hnews h1 hroom hfit'
  rw [this]; simp [wOver, over]
theorem step_app_here {t e : TypeId} {z : Value} {size bytes : Nat} (S : SlT P t e z size bytes) {ops : Array Oper} {o : Oper} {a : Act} {w : World} {K : Act → World → Prop} {Q : Exit → Act → World → Prop} {E : Prop}
    (hg : o.guard = none) (s x : Operand) (hop : o.op = Op.call { callee := Callee.builtin Builtin.append, args := #[s, x], argTypes := #[t, t] })
    (g off n cap : Nat) (hs : a.eval s = .slice (some ⟨g, off, none⟩) n cap) (cur : Array Value) (hrow : w.heap[g]? = some (.cells cur e (0, 0)))
    (ad : Addr) (m c : Nat) (news : List Value) (hx : a.eval x = .slice (some ad) m c) (hr : Rd w size (.slice (some ad) m c) m news) (h1 : ∀ u ∈ news, u.oneCell' = true) (hroom : n + m ≤ cap) (hfit : off + cap * size ≤ cur.size)
    (hK : K (a.put o.dst (.slice (some ⟨g, off, none⟩) (n + m) cap)) (wOver w g cur (off + n * size) news)) :
    if Region.wanted o (yielded ops a.tmps) = true then Oper.wp P o a w K Q else E := by
  have hw : Region.wanted o (yielded ops a.tmps) = true := by simp [Region.wanted, hg]
  rw [if_pos hw]
  have hrun := run_append_here S w o.type g off n cap cur hrow ad m c news hr h1 hroom hfit
  unfold Oper.wp execOp
  simp only [hop, resolve, invoke, builtin, Sem.run_bind, Sem.run_pure, Result.andThen_ok, List.map_toArray, List.map_cons, List.map_nil, hs, hx, hrun]
  exact hK
theorem zeroCells_length (z : Array Value) (n : Nat) : (Builtin.zeroCells z n).toList.length = n * z.size := by
  rw [Array.length_toList, size_zeroCells]
theorem wpList_clear_here {t e : TypeId} {z : Value} {size bytes : Nat} (S : SlT P t e z size bytes) (hzv : ∀ w, (zeroValue e).run P w = .ok z w) (hz1 : ∀ u ∈ z.cells, u.oneCell' = true) {w : World} {ops : Array Oper} {rest : List Oper} {o : Oper} {a : Act} {Q : Exit → Act → World → Prop}
    (hg : o.guard = none) (s : Operand) (hop : o.op = Op.call { callee := Callee.builtin Builtin.clear, args := #[s], argTypes := #[t] })
    (g off n cap : Nat) (hn : 0 < n) (hs : a.eval s = .slice (some ⟨g, off, none⟩) n cap) (cur : Array Value) (hrow : w.heap[g]? = some (.cells cur e (0, 0))) (hfit : off + n * size ≤ cur.size)
    (hK : ∀ zs, zs.length = n * size → wpList P ops Q rest (a.put o.dst (.tuple #[])) (wOver w g cur off zs)) :
    wpList P ops Q (o :: rest) a w := by
  refine wpList_plain hg fun K hK' => ?_
  have hzl : (Builtin.zeroCells z.cells n).toList.length = n * size := by rw [zeroCells_length, S.zs]
  have hone : ∀ u ∈ (Builtin.zeroCells z.cells n).toList, u.oneCell' = true := by
    intro u hu
    simp only [Builtin.zeroCells, Array.mem_toList_iff, Array.mem_map] at hu
    obtain ⟨j, _, rfl⟩ := hu
    have hlt : j % z.cells.size < z.cells.size := Nat.mod_lt _ (by rw [S.zs]; exact S.pos)
    rw [getElem!_pos z.cells _ hlt]
    exact hz1 _ (Array.getElem_mem hlt)
  have hst := run_storeCells_at P g off e (Builtin.zeroCells z.cells n).toList 0 cur w hrow (by rw [hzl]; simpa using hfit) hone
  simp only [Nat.add_zero] at hst
  obtain ⟨m, rfl⟩ : ∃ m, n = m + 1 := ⟨n - 1, by omega⟩
  have hrun : (Builtin.clear_ #[t] o.type #[.slice (some ⟨g, off, none⟩) (m + 1) cap]).run P w = .ok (.tuple #[]) (wOver w g cur off (Builtin.zeroCells z.cells (m + 1)).toList) := by
    simp [Builtin.clear_, run_underlying S.under, hzv, hst, wOver, over]
  unfold Oper.wp execOp
  simp only [hop, resolve, invoke, builtin, Sem.run_bind, Sem.run_pure, Result.andThen_ok, List.map_toArray, List.map_cons, List.map_nil, hs, hrun]
  exact hK' _ _ (hK _ hzl)
end
end Go.Proofs.YtdmfjmdnkfeljaaDoor
