/- Maps by numbers, as things: what a map holds is a function. -/
import Derived.Test.YtbibippdafnenaaMgB
import Derived.Maps.OwnSet
import Derived.Maps.RangeWalk
namespace Go.Proofs.Ytbibippdafnenaa
open Go.RowKit Go.Maps
set_option maxRecDepth 100000

theorem key_lit (k : Int) : WideAt.IsKeyLit (.int .i64 k) := trivial
theorem keyed : Keyed Try.prog 3 := int_keyed Try.underlying3
/-- a kind of element of a map -/
structure MEl (α : Type) where
  elem : Value → Option (DataW Unit × List MemPlace)
  val : α → Value
  dat : α → DataW Unit
  ok : α → Prop
  hmk : ∀ a, ok a → elem (val a) = some (dat a, [])
  hinv : ∀ v a ps, elem v = some (dat a, ps) → v = val a
/-- what a map holds -/
def MapF {α : Type} (M : MEl α) (D : DataW Unit) (m : Int → Option α) : Prop := IsMap D ∧ (∀ k : Int, has D (.int .i64 k) = (m k).isSome) ∧ ∀ k a, m k = some a → ∀ z, D.atKey (.int .i64 k) z = M.dat a
section
variable {α : Type} {M : MEl α} {D : DataW Unit} {m m' : Int → Option α}
theorem MapF.nil : MapF M (.map []) fun _ => none := ⟨isMap_empty, fun _ => rfl, fun _ _ h => by cases h⟩
theorem MapF.put (h : MapF M D m) (k : Int) (a : α) (he : ∀ j, m' j = if j = k then some a else m j) : MapF M (D.put (.int .i64 k) (M.dat a)) m' := by
  obtain ⟨h1, h2, h3⟩ := h
  refine ⟨h1.put _ _, fun j => ?_, fun j x hj z => ?_⟩
  · rw [he j]
    by_cases hk : j = k
    · subst hk
      rw [has_put_same h1 (key_lit _), if_pos rfl]; rfl
    · rw [has_put_other (by simpa using hk), h2 j, if_neg hk]
  · rw [he j] at hj
    by_cases hk : j = k
    · subst hk
      rw [if_pos rfl] at hj
      cases hj
      exact atKey_put_same h1 (key_lit _) _ _
    · rw [if_neg hk] at hj
      rw [atKey_put_other (by simpa using hk)]
      exact h3 j x hj z
theorem MapF.del (h : MapF M D m) (k : Int) (he : ∀ j, m' j = if j = k then none else m j) : MapF M (D.del (.int .i64 k)) m' := by
  obtain ⟨h1, h2, h3⟩ := h
  refine ⟨h1.del _, fun j => ?_, fun j x hj z => ?_⟩
  · rw [he j]
    by_cases hk : j = k
    · subst hk
      rw [has_del_same, if_pos rfl]; rfl
    · rw [has_del_other (by simpa using hk), h2 j, if_neg hk]
  · rw [he j] at hj
    by_cases hk : j = k
    · rw [if_pos hk] at hj; cases hj
    · rw [if_neg hk] at hj
      rw [atKey_del_other (by simpa using hk)]
      exact h3 j x hj z
/-- a map in memory: at most n entries -/
def MapAt (M : MEl α) (b n : Nat) (m : Int → Option α) (w : World) (F _ : BS) : Prop := F b ∧ ∃ D, w.ownsMap Try.prog 3 M.elem b n D ∧ MapF M D m
def tMap (M : MEl α) (b n : Nat) (m : Int → Option α) : Th where
  on := MapAt M b n m
  keep := fun ⟨h0, D, h1, h2⟩ _ hk => ⟨⟨h0, h1.lt⟩, D, (by obtain ⟨es, clock, e1, e2⟩ := h1; exact ⟨es, clock, (hk b (.inl h0) (World.ownsMap.lt ⟨es, clock, e1, e2⟩)).trans e1, e2⟩), h2⟩
  mono := fun ⟨h0, D, h1, h2⟩ hF _ => ⟨hF b h0, D, h1, h2⟩
variable {F Z : BS} {W w : World} {ts : List Th} {b n i : Nat}
theorem Held.mapNew {q : Nat} (h : Held F Z W ts w) (hq : q = 0) : Held F Z W (ts ++ [tMap M w.heap.size 0 fun _ => none]) (w.alloc (.map #[] q)) := by
  subst hq
  exact h.add (below_alloc w _) ⟨Nat.le_refl _, .map [], World.ownsMap_made w _ _ _, MapF.nil⟩
theorem Held.mapMono (h : Held F Z W ts w) (i : Nat) {n' : Nat} (hi : ts[i]? = some (tMap M b n m)) (hn : n ≤ n') : Held F Z W (ts.set i (tMap M b n' m)) w := by
  obtain ⟨G, Y, ⟨h0, D, h1, h2⟩, hd, _, _, hback⟩ := h.use i hi
  have := hback w (tMap M b n' m) [] (Did.one0 (Fr.refl _ _) ⟨.inl h0, D, h1.mono hn, h2⟩)
  rwa [List.append_nil] at this
/-- a key is looked up -/
theorem Held.mapLook {t e : TypeId} (h : Held F Z W ts w) (i : Nat) (hi : ts[i]? = some (tMap M b n m)) (ht : Try.prog.underlying t = some (.map 3 e)) {zv : Value} {z0 : α} (hz : (zeroValue e).run Try.prog w = .ok zv w) (hzv : M.val z0 = zv) (hok : M.ok z0) {k : Int} (hk : (Lit.int .i64 k).wf = true) :
    (Instr.lookup t (.map (some b)) (.int .i64 k) true).run Try.prog w = .ok (.tuple #[M.val ((m k).getD z0), .bool (m k).isSome]) w := by
  obtain ⟨G, Y, h0, D, h1, h2, h3, h4⟩ := h.get i hi
  subst hzv
  obtain ⟨v, ps, hr, hv⟩ := h1.look_ok keyed ht hz (M.hmk z0 hok) (keyOf_int_mk Try.underlying3 hk)
  rw [h3 k] at hr
  cases hm : m k with
  | none =>
    have hn : has D (.int .i64 k) = false := by rw [h3 k, hm]; rfl
    rw [atKey_of_not_has hn] at hv
    rw [hr, M.hinv _ _ _ hv, hm]; rfl
  | some a =>
    rw [h4 k a hm] at hv
    rw [hr, M.hinv _ _ _ hv, hm]; rfl
theorem Held.mapLook1 {t e : TypeId} (h : Held F Z W ts w) (i : Nat) (hi : ts[i]? = some (tMap M b n m)) (ht : Try.prog.underlying t = some (.map 3 e)) {zv : Value} {z0 : α} (hz : (zeroValue e).run Try.prog w = .ok zv w) (hzv : M.val z0 = zv) (hok : M.ok z0) {k : Int} (hk : (Lit.int .i64 k).wf = true) :
    (Instr.lookup t (.map (some b)) (.int .i64 k) false).run Try.prog w = .ok (M.val ((m k).getD z0)) w := by
  obtain ⟨G, Y, h0, D, h1, h2, h3, h4⟩ := h.get i hi
  subst hzv
  obtain ⟨v, ps, hr, hv⟩ := h1.lookup keyed ht hz (M.hmk z0 hok) (keyOf_int_mk Try.underlying3 hk)
  cases hm : m k with
  | none =>
    have hn : has D (.int .i64 k) = false := by rw [h3 k, hm]; rfl
    rw [atKey_of_not_has hn] at hv
    rw [hr, M.hinv _ _ _ hv]; rfl
  | some a =>
    rw [h4 k a hm] at hv
    rw [hr, M.hinv _ _ _ hv]; rfl
variable {ops : Array Oper} {rest : List Oper} {o : Oper} {a : Act} {Q : Exit → Act → World → Prop}
/-- 'm[k] = v' -/
theorem wpList_mset (hg : o.guard = none) (mo x v : Operand) (t : TypeId) (hop : o.op = Op.mapUpdate t mo x v) (e : TypeId) (ht : Try.prog.underlying t = some (.map 3 e)) (h : Held F Z W ts w) (i : Nat) (hi : ts[i]? = some (tMap M b n m)) (hn : n < 1000000) (k : Int) (c : α) (hc : M.ok c)
    (hm : a.eval mo = .map (some b)) (hx : a.eval x = .int .i64 k) (hv : a.eval v = M.val c) (hk : (Lit.int .i64 k).wf = true)
    (hK : ∀ w', Held F Z W (ts.set i (tMap M b (n + 1) fun j => if j = k then some c else m j)) w' → w.grownBy w' (some b) → wpList Try.prog ops Q rest (a.put o.dst undef) w') : wpList Try.prog ops Q (o :: rest) a w := by
  obtain ⟨G, Y, ⟨h0, D, h1, h2⟩, hd, _, _, hback⟩ := h.use i hi
  refine wpList_mapUpdate_own w hg mo x v t hop 3 e keyed ht M.elem b n D hm h1 (by unfold maxLen; omega) (.int .i64 k) (M.val c) (.int .i64 k) hx hv (keyOf_int_mk Try.underlying3 hk) (M.dat c) [] (M.hmk c hc) fun w' hown hgr => hK w' ?_ hgr
  have := hback w' (tMap M b (n + 1) fun j => if j = k then some c else m j) [] (Did.one0 ((Fr.refl G w).grown hgr fun k e => by cases e; exact .inl h0) ⟨.inl h0, _, hown, h2.put k c fun _ => rfl⟩)
  rwa [List.append_nil] at this
/-- 'delete(m, k)' -/
theorem wpList_mdel (hg : o.guard = none) (mo x : Operand) (t : TypeId) (hop : o.op = Op.call { callee := Callee.builtin Builtin.delete, args := #[mo, x], argTypes := #[t, 3] }) (e : TypeId) (ht : Try.prog.underlying t = some (.map 3 e)) (h : Held F Z W ts w) (i : Nat) (hi : ts[i]? = some (tMap M b n m)) (k : Int)
    (hm : a.eval mo = .map (some b)) (hx : a.eval x = .int .i64 k) (hk : (Lit.int .i64 k).wf = true)
    (hK : ∀ w', Held F Z W (ts.set i (tMap M b n fun j => if j = k then none else m j)) w' → w.grownBy w' (some b) → wpList Try.prog ops Q rest (a.put o.dst (.tuple #[])) w') : wpList Try.prog ops Q (o :: rest) a w := by
  obtain ⟨G, Y, ⟨h0, D, h1, h2⟩, hd, _, _, hback⟩ := h.use i hi
  refine wpList_delete_own w hg mo x t 3 hop e keyed ht M.elem b n D hm h1 (.int .i64 k) (.int .i64 k) hx (keyOf_int_mk Try.underlying3 hk) fun w' hown hgr => hK w' ?_ hgr.grown
  have := hback w' (tMap M b n fun j => if j = k then none else m j) [] (Did.one0 ((Fr.refl G w).grown hgr.grown fun k e => by cases e; exact .inl h0) ⟨.inl h0, _, hown, h2.del k fun _ => rfl⟩)
  rwa [List.append_nil] at this
/-- 'len(m)' -/
theorem Held.mapLen {t e ty : TypeId} (h : Held F Z W ts w) (i : Nat) (hi : ts[i]? = some (tMap M b n m)) (ht : Try.prog.underlying t = some (.map 3 e)) :
    ∃ c : Nat, c ≤ n ∧ (Builtin.len_ #[t] ty #[.map (some b)]).run Try.prog w = .ok (.int .i64 (c : Int)) w := by
  obtain ⟨G, Y, h0, D, h1, h2⟩ := h.get i hi
  exact ⟨Maps.size D, h1.size_le, h1.len ht ty⟩
end
end Go.Proofs.Ytbibippdafnenaa
