/- copy of elements of any size, in place. No condition on the program. -/
import Derived.Test.YtococphklfbidaaSlc
namespace Go.Proofs.Ytococphklfbidaa
open Go.RowKit

section
variable {P : Program}
theorem run_copy_k {t e : TypeId} {z : Value} {size bytes : Nat} (S : SlT P t e z size bytes) (w : World) (ty : TypeId) (g o dLen dCap : Nat) (a : Addr) (sLen sCap : Nat) (cur : Array Value) (cs : List Value)
    (hg : w.heap[g]? = some (.cells cur e (0, 0))) (hn : cs.length = Nat.min sLen dLen * size) (hsrc : ∀ j v, cs[j]? = some v → w.cell? (a.add j) = some v) (hfit : o + cs.length ≤ cur.size) (h1 : ∀ v ∈ cs, v.oneCell' = true) :
    (Builtin.copy_ #[t, t] ty #[.slice (some ⟨g, o, none⟩) dLen dCap, .slice (some a) sLen sCap]).run P w = .ok (goInt (Nat.min sLen dLen)) (wOver w g cur o cs) := by
  obtain ⟨i, hi, hz, rfl, hby⟩ := S.info
  have hl := run_loadCells_list (P := P) w a cs hsrc
  have hst := run_storeCells_at P g o e cs 0 cur w hg (by simpa using hfit) h1
  rw [hn] at hl
  simp only [Nat.add_zero] at hst
  simp [Builtin.copy_, run_underlying S.under, Builtin.lenOf, Builtin.firstCells, sizeOf, typeInfo, hi, hl, hst, wOver, over]
theorem wpList_copy_k {t e : TypeId} {z : Value} {size bytes : Nat} (S : SlT P t e z size bytes) {w : World} {ops : Array Oper} {rest : List Oper} {o : Oper} {a : Act} {Q : Exit → Act → World → Prop}
    (hg : o.guard = none) (d s : Operand) (hop : o.op = Op.call { callee := Callee.builtin Builtin.copy, args := #[d, s], argTypes := #[t, t] })
    (g off dLen dCap : Nat) (ad : Addr) (sLen sCap : Nat) (hd : a.eval d = .slice (some ⟨g, off, none⟩) dLen dCap) (hs : a.eval s = .slice (some ad) sLen sCap) (cur : Array Value) (cs : List Value)
    (hrow : w.heap[g]? = some (.cells cur e (0, 0))) (hn : cs.length = Nat.min sLen dLen * size) (hsrc : ∀ j v, cs[j]? = some v → w.cell? (ad.add j) = some v) (hfit : off + cs.length ≤ cur.size) (h1 : ∀ v ∈ cs, v.oneCell' = true)
    (hK : wpList P ops Q rest (a.put o.dst (goInt (Nat.min sLen dLen))) (wOver w g cur off cs)) : wpList P ops Q (o :: rest) a w := by
  refine wpList_plain hg fun K hK' => ?_
  have hrun := run_copy_k S w o.type g off dLen dCap ad sLen sCap cur cs hrow hn hsrc hfit h1
  unfold Oper.wp execOp
  simp only [hop, resolve, invoke, builtin, Sem.run_bind, Sem.run_pure, Result.andThen_ok, List.map_toArray, List.map_cons, List.map_nil, hd, hs, hrun]
  exact hK' _ _ hK
theorem step_copy_k {t e : TypeId} {z : Value} {size bytes : Nat} (S : SlT P t e z size bytes) {w : World} {ops : Array Oper} {o : Oper} {a : Act} {K : Act → World → Prop} {Q : Exit → Act → World → Prop} {E : Prop}
    (hg : o.guard = none) (d s : Operand) (hop : o.op = Op.call { callee := Callee.builtin Builtin.copy, args := #[d, s], argTypes := #[t, t] })
    (g off dLen dCap : Nat) (ad : Addr) (sLen sCap : Nat) (hd : a.eval d = .slice (some ⟨g, off, none⟩) dLen dCap) (hs : a.eval s = .slice (some ad) sLen sCap) (cur : Array Value) (cs : List Value)
    (hrow : w.heap[g]? = some (.cells cur e (0, 0))) (hn : cs.length = Nat.min sLen dLen * size) (hsrc : ∀ j v, cs[j]? = some v → w.cell? (ad.add j) = some v) (hfit : off + cs.length ≤ cur.size) (h1 : ∀ v ∈ cs, v.oneCell' = true)
    (hK : K (a.put o.dst (goInt (Nat.min sLen dLen))) (wOver w g cur off cs)) : if Region.wanted o (yielded ops a.tmps) = true then Oper.wp P o a w K Q else E := by
  have hw : Region.wanted o (yielded ops a.tmps) = true := by simp [Region.wanted, hg]
  rw [if_pos hw]
  have hrun := run_copy_k S w o.type g off dLen dCap ad sLen sCap cur cs hrow hn hsrc hfit h1
  unfold Oper.wp execOp
  simp only [hop, resolve, invoke, builtin, Sem.run_bind, Sem.run_pure, Result.andThen_ok, List.map_toArray, List.map_cons, List.map_nil, hd, hs, hrun]
  exact hK
theorem wpList_app_here {t e : TypeId} {z : Value} {size bytes : Nat} (S : SlT P t e z size bytes) {w : World} {ops : Array Oper} {rest : List Oper} {o : Oper} {a : Act} {Q : Exit → Act → World → Prop}
    (hg : o.guard = none) (s x : Operand) (hop : o.op = Op.call { callee := Callee.builtin Builtin.append, args := #[s, x], argTypes := #[t, t] })
    (g off n cap : Nat) (hs : a.eval s = .slice (some ⟨g, off, none⟩) n cap) (cur : Array Value) (hrow : w.heap[g]? = some (.cells cur e (0, 0)))
    (ad : Addr) (m c : Nat) (news : List Value) (hx : a.eval x = .slice (some ad) m c) (hr : Rd w size (.slice (some ad) m c) m news) (h1 : ∀ u ∈ news, u.oneCell' = true) (hroom : n + m ≤ cap) (hfit : off + cap * size ≤ cur.size)
    (hK : wpList P ops Q rest (a.put o.dst (.slice (some ⟨g, off, none⟩) (n + m) cap)) (wOver w g cur (off + n * size) news)) : wpList P ops Q (o :: rest) a w := by
  refine wpList_plain hg fun K hK' => ?_
  have hrun := run_append_here S w o.type g off n cap cur hrow ad m c news hr h1 hroom hfit
  unfold Oper.wp execOp
  simp only [hop, resolve, invoke, builtin, Sem.run_bind, Sem.run_pure, Result.andThen_ok, List.map_toArray, List.map_cons, List.map_nil, hs, hx, hrun]
  exact hK' _ _ hK
end
/-- a piece moved up by one, and another put into the gap -/
theorem over_ins {A B C cur : List Value} {off : Nat} (h : (cur.drop off).take (A.length + B.length) = A ++ B) (hfit : off + A.length + B.length + C.length ≤ cur.length) :
    ((over (over cur (off + A.length + C.length) B) (off + A.length) C).drop off).take (A.length + C.length + B.length) = A ++ C ++ B := by
  have h1 : off + A.length + C.length + B.length ≤ cur.length := by omega
  have hl1 := over_length h1
  have h2 : off + A.length + C.length ≤ (over cur (off + A.length + C.length) B).length := by rw [hl1]; omega
  apply List.ext_getElem?
  intro j
  rw [List.getElem?_take]
  by_cases hj : j < A.length + C.length + B.length
  · rw [if_pos hj, List.getElem?_drop, over_get h2]
    by_cases ja : j < A.length
    · rw [if_pos (by omega), over_get h1, if_pos (by omega), List.append_assoc, List.getElem?_append_left ja]
      have := congrArg (fun l => l[j]?) h
      simp only [List.getElem?_take, List.getElem?_drop] at this
      rw [if_pos (by omega), List.getElem?_append_left ja] at this
      exact this
    · rw [if_neg (by omega)]
      by_cases jc : j < A.length + C.length
      · rw [if_pos (by omega), List.getElem?_append_left (by rw [List.length_append]; omega), List.getElem?_append_right (by omega)]
        congr 1; omega
      · rw [if_neg (by omega), over_get h1, if_neg (by omega), if_pos (by omega), List.getElem?_append_right (by rw [List.length_append]; omega), List.length_append]
        congr 1; omega
  · rw [if_neg hj, List.getElem?_eq_none (by simp only [List.length_append]; omega)]
end Go.Proofs.Ytococphklfbidaa
