/- Memory with owners: what a call may change (Fr), slices with a place of their own (Sl), and append on them. No condition on the program. -/
import Derived.Test.YtdmfjmdnkfeljaaDoorMem
import Derived.Deep.Draws
namespace Go.Proofs.YtdmfjmdnkfeljaaDoor
open Go.RowKit

/-- w' is w, but for what the blocks in F hold and for new blocks -/
structure Fr (F : Nat → Prop) (w w' : World) : Prop where
  os : w'.os = w.os
  tape : w'.tape = w.tape
  output : w'.output = w.output
  size : w.heap.size ≤ w'.heap.size
  block : ∀ k, k < w.heap.size → ¬ F k → w'.heap[k]? = w.heap[k]?
theorem Fr.refl (F : Nat → Prop) (w : World) : Fr F w w := ⟨rfl, rfl, rfl, Nat.le_refl _, fun _ _ _ => rfl⟩
theorem Fr.trans {F G : Nat → Prop} {a b c : World} (h : Fr F a b) (k : Fr G b c) (hG : ∀ x, G x → F x ∨ a.heap.size ≤ x) : Fr F a c :=
  ⟨k.os.trans h.os, k.tape.trans h.tape, k.output.trans h.output, Nat.le_trans h.size k.size, fun x hx hn =>
    (k.block x (Nat.lt_of_lt_of_le hx h.size) fun g => (hG x g).elim hn (by omega)).trans (h.block x hx hn)⟩
theorem Fr.mono {F G : Nat → Prop} {a b : World} (h : Fr F a b) (hG : ∀ x, F x → G x) : Fr G a b := ⟨h.os, h.tape, h.output, h.size, fun x hx hn => h.block x hx fun f => hn (hG x f)⟩
theorem Fr.drew {F : Nat → Prop} {a w : World} (h : Fr F a w) : Fr F a w.drew := ⟨h.os, h.tape, h.output, h.size, h.block⟩
theorem Fr.drewN {F : Nat → Prop} {a w : World} (h : Fr F a w) (n : Nat) : Fr F a (w.drewN n) := ⟨h.os, h.tape, h.output, h.size, h.block⟩
theorem Fr.alloc {F : Nat → Prop} {a w : World} (h : Fr F a w) (o : Obj) : Fr F a (w.alloc o) :=
  ⟨h.os, h.tape, h.output, by simp; exact Nat.le_succ_of_le h.size, fun x hx hn => (Below.heap_alloc w o x (Nat.lt_of_lt_of_le hx h.size)).trans (h.block x hx hn)⟩
theorem Fr.setCell {F : Nat → Prop} {a w : World} (h : Fr F a w) {p : Addr} (hp : F p.block ∨ a.heap.size ≤ p.block) (u : Value) : Fr F a (w.setCell p u) :=
  ⟨h.os, h.tape, h.output, by simp; exact h.size, fun x hx hn => (Below.heap_setCell w p u x (fun e => by subst e; exact hp.elim hn (by omega))).trans (h.block x hx hn)⟩
theorem Fr.grown {F : Nat → Prop} {a w w' : World} {row : Option Nat} (h : Fr F a w) (hg : w.grownBy w' row) (hr : ∀ k, row = some k → F k ∨ a.heap.size ≤ k) : Fr F a w' :=
  ⟨hg.os.trans h.os, hg.tape.trans h.tape, hg.output.trans h.output, Nat.le_trans h.size hg.size, fun x hx hn =>
    (hg.block x (Nat.lt_of_lt_of_le hx h.size) fun e => (hr x e.symm).elim hn (by omega)).trans (h.block x hx hn)⟩
theorem Fr.of_below {F : Nat → Prop} {a w w' : World} (h : Fr F a w) (hb : Below w.heap.size w w') : Fr F a w' :=
  ⟨hb.os.trans h.os, hb.tape.trans h.tape, hb.output.trans h.output, Nat.le_trans h.size hb.size, fun x hx hn => (hb.block x (Nat.lt_of_lt_of_le hx h.size)).trans (h.block x hx hn)⟩
theorem Fr.below {F : Nat → Prop} {a w : World} (h : Fr F a w) {B : Nat} (hB : B ≤ a.heap.size) (hF : ∀ k, F k → B ≤ k) : Below B a w :=
  ⟨h.os, h.tape, h.output, h.size, fun k hk => h.block k (by omega) fun f => by have := hF k f; omega⟩
theorem Fr.keep {F : Nat → Prop} {a w : World} (h : Fr F a w) {k : Nat} {o : Obj} (hk : a.heap[k]? = some o) (hn : ¬ F k) : w.heap[k]? = some o :=
  (h.block k (lt_of_block hk) hn).trans hk
/-- two sets of blocks that share none -/
def Dj (F G : Nat → Prop) : Prop := ∀ k, F k → G k → False
theorem Dj.symm {F G : Nat → Prop} (h : Dj F G) : Dj G F := fun k g f => h k f g
/-- F' is F and new blocks -/
def Ext (w : World) (F F' : Nat → Prop) : Prop := ∀ k, F' k → F k ∨ w.heap.size ≤ k
theorem Dj.ext {w : World} {F F' G : Nat → Prop} (h : Dj F G) (hx : Ext w F F') (hG : ∀ k, G k → k < w.heap.size) : Dj F' G := fun k f g => (hx k f).elim (fun f => h k f g) (fun l => by have := hG k g; omega)
theorem Ext.trans {w w' : World} {F F' F'' : Nat → Prop} (h : Ext w F F') (h' : Ext w' F' F'') (hs : w.heap.size ≤ w'.heap.size) : Ext w F F'' := fun k f => (h' k f).elim (h k) fun l => .inr (by omega)

/-- a slice of n elements at its own place: nil, or in a block of F; it reads as the cells us -/
def Sl (w : World) (F : Nat → Prop) (e : TypeId) (size : Nat) (v : Value) (n : Nat) (us : List Value) : Prop :=
  us.length = n * size ∧ ((v = .slice none 0 0 ∧ n = 0) ∨
    ∃ g off cap cur, v = .slice (some ⟨g, off, none⟩) n cap ∧ F g ∧ w.heap[g]? = some (.cells cur e (0, 0)) ∧ n ≤ cap ∧ cap ≤ maxLen ∧ off + cap * size ≤ cur.size ∧ (cur.toList.drop off).take (n * size) = us)
theorem Sl.nil (w : World) (F : Nat → Prop) (e : TypeId) (size : Nat) : Sl w F e size (.slice none 0 0) 0 [] := ⟨by simp, .inl ⟨rfl, rfl⟩⟩
theorem Sl.keep {w w' : World} {F : Nat → Prop} {e : TypeId} {size : Nat} {v : Value} {n : Nat} {us : List Value} (h : Sl w F e size v n us) (hk : ∀ k, F k → k < w.heap.size → w'.heap[k]? = w.heap[k]?) : Sl w' F e size v n us := by
  obtain ⟨hl, h | ⟨g, off, cap, cur, rfl, hF, hg, h1, h2, h3, h4⟩⟩ := h
  · exact ⟨hl, .inl h⟩
  · exact ⟨hl, .inr ⟨g, off, cap, cur, rfl, hF, (hk g hF (lt_of_block hg)).trans hg, h1, h2, h3, h4⟩⟩
theorem Sl.mono {w : World} {F G : Nat → Prop} {e : TypeId} {size : Nat} {v : Value} {n : Nat} {us : List Value} (h : Sl w F e size v n us) (hF : ∀ k, F k → G k) : Sl w G e size v n us := by
  obtain ⟨hl, h | ⟨g, off, cap, cur, rfl, hf, hg, h1⟩⟩ := h
  · exact ⟨hl, .inl h⟩
  · exact ⟨hl, .inr ⟨g, off, cap, cur, rfl, hF g hf, hg, h1⟩⟩
theorem Sl.of_own {w : World} {F : Nat → Prop} {base : Nat} {e : TypeId} {size : Nat} {v : Value} {n : Nat} {us : List Value} (h : w.ownsRow base e size v n us) (hF : ∀ k, base ≤ k → F k) : Sl w F e size v n us := by
  obtain ⟨hl, h | ⟨g, cap, cur, rfl, hb, hg, hn, hm, hs, ht⟩⟩ := h
  · exact ⟨hl, .inl h⟩
  · exact ⟨hl, .inr ⟨g, 0, cap, cur, rfl, hF g hb, hg, hn, hm, by omega, by simpa using ht⟩⟩
theorem Sl.cell {w : World} {F : Nat → Prop} {e : TypeId} {size : Nat} {g off n cap : Nat} {us : List Value} (h : Sl w F e size (.slice (some ⟨g, off, none⟩) n cap) n us) : ∀ j u, us[j]? = some u → w.cell? ⟨g, off + j, none⟩ = some u := by
  intro j u hj
  obtain ⟨hl, ⟨h, _⟩ | ⟨g', off', cap', cur, e1, hF, hg, h1, h2, h3, h4⟩⟩ := h
  · cases h
  · obtain ⟨⟨rfl, rfl⟩, rfl⟩ : (g = g' ∧ off = off') ∧ cap = cap' := by simpa using e1
    rw [← h4, List.getElem?_take] at hj
    split at hj
    · rw [List.getElem?_drop] at hj
      simp only [World.cell?, hg]
      simpa using hj
    · cases hj
theorem Sl.rd {w : World} {F : Nat → Prop} {e : TypeId} {size : Nat} {v : Value} {n : Nat} {us : List Value} (h : Sl w F e size v n us) : Rd w size v n us := by
  have h' := h
  obtain ⟨hl, ⟨rfl, rfl⟩ | ⟨g, off, cap, cur, rfl, hF, hg, h1, h2, h3, h4⟩⟩ := h
  · exact ⟨hl, none, 0, rfl, Nat.le_refl _, Nat.zero_le _, fun _ => ⟨rfl, rfl⟩, fun b hb => by cases hb⟩
  · refine ⟨hl, some ⟨g, off, none⟩, cap, rfl, h1, h2, (fun e => by cases e), fun b hb j u hj => ?_⟩
    obtain rfl := Option.some.inj hb
    exact ⟨rfl, h'.cell j u hj⟩
/-- v[k:] : the walk's own spelling of its address -/
theorem Sl.drop {w : World} {F : Nat → Prop} {e : TypeId} {g off n cap : Nat} {us : List Value} (h : Sl w F e 1 (.slice (some ⟨g, off, none⟩) n cap) n us) {k : Nat} (hk : k ≤ n) :
    Sl w F e 1 (.slice (if cap = k then some ⟨g, off, none⟩ else some ⟨g, off + k, none⟩) (n - k) (cap - k)) (n - k) (us.drop k) := by
  obtain ⟨hl, ⟨h, _⟩ | ⟨g', off', cap', cur, e1, hF, hg, h1, h2, h3, h4⟩⟩ := h
  · cases h
  · obtain ⟨⟨rfl, rfl⟩, rfl⟩ : (g = g' ∧ off = off') ∧ cap = cap' := by simpa using e1
    refine ⟨by rw [List.length_drop, hl]; omega, .inr ?_⟩
    by_cases hc : cap = k
    · rw [if_pos hc]
      have hn : n - k = 0 := by omega
      refine ⟨g, off, cap - k, cur, rfl, hF, hg, by omega, by omega, by omega, ?_⟩
      have : us.drop k = [] := List.drop_eq_nil_of_le (by omega)
      rw [this, hn]; simp
    · rw [if_neg hc]
      refine ⟨g, off + k, cap - k, cur, rfl, hF, hg, by omega, by omega, by omega, ?_⟩
      rw [← h4, List.drop_take, List.drop_drop]
      congr 1
      omega

section
variable {P : Program}
theorem run_append_room_at (w : World) (t ty e : TypeId) (i : TypeInfo) (ht : P.underlying t = some (.slice e)) (hi : P.info? e = some i)
    (g off sLen sCap : Nat) (cur : Array Value) (hg : w.heap[g]? = some (.cells cur e (0, 0)))
    (a : Addr) (m c : Nat) (news : List Value) (hl : news.length = m * i.size) (hnews : ∀ j u, news[j]? = some u → w.cell? (a.add j) = some u) (h1 : ∀ u ∈ news, u.oneCell' = true)
    (hroom : sLen + m ≤ sCap) (hfit : off + sLen * i.size + news.length ≤ cur.size) :
    (Builtin.append_ #[t, t] ty #[.slice (some ⟨g, off, none⟩) sLen sCap, .slice (some a) m c]).run P w =
      .ok (.slice (some ⟨g, off, none⟩) (sLen + m) sCap) (w.setRow g (cur.toList.take (off + sLen * i.size) ++ news ++ cur.toList.drop (off + sLen * i.size + news.length)).toArray) := by
  have hf := run_firstCells_some (P := P) w i.size m a m c news hl hnews
  have hst := run_storeCells_at P g (off + sLen * i.size) e news 0 cur w hg (by simpa using hfit) h1
  simp only [Nat.add_zero] at hst
  have ha : (⟨g, off, none⟩ : Addr).add (sLen * i.size) = ⟨g, off + sLen * i.size, none⟩ := add_eq _ _ rfl
  simp [Builtin.append_, run_underlying ht, sizeOf, typeInfo, hi, Builtin.lenOf, hroom, hf, ha, hst]
/-- append to a slice at its own place -/
theorem run_append_sl {t e : TypeId} {z : Value} {size bytes : Nat} (S : SlT P t e z size bytes) (w : World) (ty : TypeId) (F : Nat → Prop)
    (v : Value) (n : Nat) (us : List Value) (hs : Sl w F e size v n us) (y : Value) (m : Nat) (news : List Value) (hr : Rd w size y m news) (h1 : ∀ u ∈ news, u.oneCell' = true)
    (h63 : n + m ≤ maxLen) (hbytes : (n + m) * bytes ≤ 140737488355328) :
    ∃ v' w', (Builtin.append_ #[t, t] ty #[v, y]).run P w = .ok v' w' ∧ Sl w' (fun k => F k ∨ w.heap.size ≤ k) e size v' (n + m) (us ++ news) ∧ Fr F w w' := by
  obtain ⟨i, hi, hz, rfl, rfl⟩ := S.info
  obtain ⟨hl, ad, c, rfl, r1, r2, r3, r4⟩ := hr
  have hsmall : n + m ≤ 9223372036854775807 := by simp only [maxLen] at h63; omega
  have hlen : (us ++ news).length = (n + m) * i.size := by rw [List.length_append, hs.1, hl, Nat.add_mul]
  have grown : ∀ (old : Nat), old < n + m →
      Sl (w.drew.alloc (.cells (us.toArray ++ news.toArray ++ Builtin.zeroCells z.cells (grownCap w (n + m) old e - (n + m))) e)) (fun k => F k ∨ w.heap.size ≤ k) e i.size
        (.slice (some ⟨w.heap.size, 0, none⟩) (n + m) (grownCap w (n + m) old e)) (n + m) (us ++ news) ∧
      Fr F w (w.drew.alloc (.cells (us.toArray ++ news.toArray ++ Builtin.zeroCells z.cells (grownCap w (n + m) old e - (n + m))) e)) := by
    intro old ho
    have hge := grownCap_ge w (n + m) old e
    have hcm : grownCap w (n + m) old e ≤ maxLen := grownCap_le_maxLen w (n + m) old e h63
    refine ⟨⟨hlen, .inr ⟨w.heap.size, 0, _, _, rfl, .inr (Nat.le_refl _), heap_alloc_new w.drew _, hge, hcm, ?_, ?_⟩⟩, (Fr.refl F w).drew.alloc _⟩
    · simp only [Array.size_append, List.size_toArray, size_zeroCells, S.zs, hs.1, hl, ← Nat.add_mul, Nat.zero_add]
      refine Nat.le_of_eq ?_
      congr 1
      omega
    · simp only [Array.toList_append, List.drop_zero, List.append_assoc]
      rw [← List.append_assoc, ← hlen]
      exact List.take_left
  cases ad with
  | none =>
    obtain ⟨rfl, rfl⟩ := r3 rfl
    have hn : news = [] := List.eq_nil_of_length_eq_zero (by simpa using hl)
    subst hn
    refine ⟨v, w, ?_, by simpa using hs.mono fun k f => .inl f, Fr.refl F w⟩
    rcases hs.2 with ⟨rfl, rfl⟩ | ⟨g, off, cap, cur, rfl, hF, hg, h2, h3, h4, h5⟩
    · simp [Builtin.append_, run_underlying S.under, sizeOf, typeInfo, hi, Builtin.lenOf, Builtin.firstCells]
    · simp [Builtin.append_, run_underlying S.under, sizeOf, typeInfo, hi, Builtin.lenOf, Builtin.firstCells, h2, storeCells]
  | some a =>
    have hnews : ∀ j u, news[j]? = some u → w.cell? (a.add j) = some u := fun j u hj => by
      have := r4 a rfl j u hj
      rw [add_eq _ _ this.1]; exact this.2
    rcases hs.2 with ⟨rfl, rfl⟩ | ⟨g, off, cap, cur, rfl, hF, hg, hnc, hcm, hcs, htake⟩
    · have hx : us = [] := List.eq_nil_of_length_eq_zero (by simpa using hs.1)
      subst hx
      by_cases hm : m = 0
      · subst hm
        have hn : news = [] := List.eq_nil_of_length_eq_zero (by simpa using hl)
        subst hn
        refine ⟨.slice none 0 0, w, ?_, Sl.nil w _ e i.size, Fr.refl F w⟩
        simp [Builtin.append_, run_underlying S.under, sizeOf, typeInfo, hi, Builtin.lenOf, Builtin.firstCells, loadCells, loadCellsFrom]
      · have hr := run_append_nil (P := P) w t ty e i z S.under hi hz a m c news hl hnews (by omega) (by omega) (by have hb := hbytes; simp only [Nat.zero_add] at hb; omega)
        have hgr := grown 0 (by omega)
        simp only [Nat.zero_add, List.nil_append, Array.empty_append] at hgr ⊢
        exact ⟨_, _, hr, hgr.1, hgr.2⟩
    · by_cases hroom : n + m ≤ cap
      · have hfit : off + n * i.size + news.length ≤ cur.size := by
          have : (n + m) * i.size ≤ cap * i.size := Nat.mul_le_mul_right _ hroom
          rw [Nat.add_mul] at this
          rw [hl]; omega
        have hrun := run_append_room_at (P := P) w t ty e i S.under hi g off n cap cur hg a m c news hl hnews h1 hroom hfit
        refine ⟨_, _, hrun, ⟨hlen, .inr ⟨g, off, cap, _, rfl, .inl hF, setRow_heap w g cur _ e _ hg, hroom, hcm, ?_, ?_⟩⟩, ⟨rfl, rfl, rfl, by simp, fun k _ hk => setRow_other w g k _ (fun e => hk (by rw [e]; exact hF))⟩⟩
        · simp only [List.size_toArray, List.length_append, List.length_take, List.length_drop, Array.length_toList]
          omega
        · have hl1 : (List.take (off + n * i.size) cur.toList).length = off + n * i.size := by
            rw [List.length_take, Array.length_toList]; omega
          simp only [List.append_assoc]
          rw [List.drop_append_of_le_length (by rw [hl1]; omega), List.drop_take]
          have e1 : off + n * i.size - off = n * i.size := by omega
          rw [e1, htake, ← List.append_assoc, ← hlen]
          exact List.take_left
      · have holds : ∀ j u, us[j]? = some u → w.cell? ((⟨g, off, none⟩ : Addr).add j) = some u := fun j u hj => by
          rw [add_eq _ _ rfl]; exact Sl.cell hs j u hj
        have hrun := run_append_grow (P := P) w t ty e i z S.under hi hz ⟨g, off, none⟩ n cap us hs.1 holds a m c news hl hnews (by omega) (by omega) (growslice_fits (by omega) hbytes)
        have hgr := grown cap (by omega)
        exact ⟨_, _, hrun, hgr.1, hgr.2⟩
end
/-- append at its place in a walk -/
theorem wpList_apps {P : Program} {t e : TypeId} {z : Value} {size bytes : Nat} (S : SlT P t e z size bytes) {w : World} {ops : Array Oper} {rest : List Oper} {o : Oper} {a : Act} {Q : Exit → Act → World → Prop}
    (hg : o.guard = none) (s x : Operand) (hop : o.op = Op.call { callee := Callee.builtin Builtin.append, args := #[s, x], argTypes := #[t, t] })
    (F : Nat → Prop) (v : Value) (n : Nat) (us : List Value) (hs : a.eval s = v) (hown : Sl w F e size v n us)
    (y : Value) (m : Nat) (news : List Value) (hx : a.eval x = y) (hr : Rd w size y m news) (h1 : ∀ u ∈ news, u.oneCell' = true)
    (b1 : n + m ≤ maxLen) (b2 : (n + m) * bytes ≤ 140737488355328)
    (hK : ∀ v' w', Sl w' (fun k => F k ∨ w.heap.size ≤ k) e size v' (n + m) (us ++ news) → Fr F w w' → wpList P ops Q rest (a.put o.dst v') w') :
    wpList P ops Q (o :: rest) a w := by
  refine wpList_plain hg fun K hK' => ?_
  obtain ⟨v', w', hrun, h2, h3⟩ := run_append_sl S w o.type F v n us hown y m news hr h1 b1 b2
  unfold Oper.wp execOp
  simp only [hop, resolve, invoke, builtin, Sem.run_bind, Sem.run_pure, Result.andThen_ok, List.map_toArray, List.map_cons, List.map_nil, hs, hx, hrun]
  exact hK' _ _ (hK v' w' h2 h3)

/-- append at its place, as one step of a region that draws -/
theorem step_app_sl {P : Program} {t e : TypeId} {z : Value} {size bytes : Nat} (S : SlT P t e z size bytes) {ops : Array Oper} {o : Oper} {a : Act} {w : World} {K : Act → World → Prop} {Q : Exit → Act → World → Prop} {E : Prop}
    (hg : o.guard = none) (s x : Operand) (hop : o.op = Op.call { callee := Callee.builtin Builtin.append, args := #[s, x], argTypes := #[t, t] })
    (F : Nat → Prop) (v : Value) (n : Nat) (us : List Value) (hs : a.eval s = v) (hown : Sl w F e size v n us)
    (y : Value) (m : Nat) (news : List Value) (hx : a.eval x = y) (hr : Rd w size y m news) (h1 : ∀ u ∈ news, u.oneCell' = true)
    (b1 : n + m ≤ maxLen) (b2 : (n + m) * bytes ≤ 140737488355328)
    (hK : ∀ v' w', Sl w' (fun k => F k ∨ w.heap.size ≤ k) e size v' (n + m) (us ++ news) → Fr F w w' → K (a.put o.dst v') w') :
    if Region.wanted o (yielded ops a.tmps) = true then Oper.wp P o a w K Q else E := by
  have hw : Region.wanted o (yielded ops a.tmps) = true := by simp [Region.wanted, hg]
  rw [if_pos hw]
  obtain ⟨v', w', hrun, h2, h3⟩ := run_append_sl S w o.type F v n us hown y m news hr h1 b1 b2
  unfold Oper.wp execOp
  simp only [hop, resolve, invoke, builtin, Sem.run_bind, Sem.run_pure, Result.andThen_ok, List.map_toArray, List.map_cons, List.map_nil, hs, hx, hrun]
  exact hK v' w' h2 h3
/-- a slice that is not empty shows itself -/
theorem Sl.head {w : World} {F : Nat → Prop} {e : TypeId} {size : Nat} {v : Value} {n : Nat} {us : List Value} (h : Sl w F e size v n us) (hn : 0 < n) : ∃ g off cap, v = .slice (some ⟨g, off, none⟩) n cap ∧ F g ∧ n ≤ cap := by
  rcases h.2 with ⟨_, h0⟩ | ⟨g, off, cap, cur, rfl, hF, _, hc, _⟩
  · omega
  · exact ⟨g, off, cap, rfl, hF, hc⟩
theorem Sl.shape {w : World} {F : Nat → Prop} {e : TypeId} {size : Nat} {v : Value} {n : Nat} {us : List Value} (h : Sl w F e size v n us) : ∃ a cap, v = .slice a n cap := by
  rcases h.2 with ⟨rfl, rfl⟩ | ⟨g, off, cap, cur, rfl, hF, _⟩
  · exact ⟨none, 0, rfl⟩
  · exact ⟨_, cap, rfl⟩
/-- the set of its blocks, cut to those that are there -/
theorem Sl.bound {w : World} {F : Nat → Prop} {e : TypeId} {size : Nat} {v : Value} {n : Nat} {us : List Value} (h : Sl w F e size v n us) : Sl w (fun k => F k ∧ k < w.heap.size) e size v n us := by
  obtain ⟨hl, h | ⟨g, off, cap, cur, rfl, hf, hg, h1⟩⟩ := h
  · exact ⟨hl, .inl h⟩
  · exact ⟨hl, .inr ⟨g, off, cap, cur, rfl, ⟨hf, lt_of_block hg⟩, hg, h1⟩⟩
theorem Sl.alloc {w : World} {F : Nat → Prop} {e : TypeId} {size : Nat} {v : Value} {n : Nat} {us : List Value} (h : Sl w F e size v n us) (o : Obj) : Sl (w.alloc o) F e size v n us :=
  h.keep fun k _ hk => Below.heap_alloc w o k hk
theorem Sl.drew {w : World} {F : Nat → Prop} {e : TypeId} {size : Nat} {v : Value} {n : Nat} {us : List Value} (h : Sl w F e size v n us) : Sl w.drew F e size v n us := h.keep fun _ _ _ => rfl
/-- a new block of one cell, read as a slice of one element -/
theorem rd_one (w : World) (g : Nat) (u : Value) (T : TypeId) (hg : g = w.heap.size) : Rd (w.alloc (.cells #[u] T)) 1 (.slice (some ⟨g, 0, none⟩) 1 1) 1 [u] := by
  subst hg
  refine ⟨rfl, _, 1, rfl, Nat.le_refl _, by decide, (fun e => by cases e), fun b hb j v hj => ?_⟩
  obtain rfl := Option.some.inj hb
  refine ⟨rfl, ?_⟩
  have h0 : (w.alloc (.cells #[u] T)).heap[w.heap.size]? = some (.cells #[u] T) := heap_alloc_new w _
  simp only [World.cell?, h0, Nat.zero_add]
  match j, hj with
  | 0, hj => simpa using hj
/-- bytes, with the set that their block is in -/
def ByD (w : World) (D : Nat → Prop) (v : Value) (bs : List (BitVec 8)) : Prop := By w v bs ∧ ∀ b, v.ownBlock = some b → D b
theorem ByD.keep {w w' : World} {D : Nat → Prop} {v : Value} {bs : List (BitVec 8)} (h : ByD w D v bs) (hk : ∀ k, D k → k < w.heap.size → w'.heap[k]? = w.heap[k]?) : ByD w' D v bs :=
  ⟨Rd.keep h.1 fun k e hl => hk k (h.2 k e) hl, h.2⟩
theorem ByD.mono {w : World} {D E : Nat → Prop} {v : Value} {bs : List (BitVec 8)} (h : ByD w D v bs) (hD : ∀ k, D k → E k) : ByD w E v bs := ⟨h.1, fun b e => hD b (h.2 b e)⟩
end Go.Proofs.YtdmfjmdnkfeljaaDoor
