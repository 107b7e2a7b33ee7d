/- The reference's queue against the queue itself: Push, Cancel and Pop on a list that holds the same events. No condition but the bounds that are named. -/
import Derived.Test.YtococphklfbidaaKerU
namespace Go.Proofs.Ytococphklfbidaa
open Go.RowKit Go.Maps

/-- the reference's list holds the queue's events -/
def Mir (q : Qu) (l : List Ev) : Prop := l.Perm q.evs
theorem Mir.len {q : Qu} {l : List Ev} (h : Mir q l) : l.length = q.evs.length := List.Perm.length_eq h
theorem Mir.num {q : Qu} {l : List Ev} (h : Mir q l) (hok : q.Ok) : (l.map (·.number)).Nodup := ((List.Perm.map (·.number) h).nodup_iff).2 hok.num
theorem Mir.pop {now : Int} {n : Nat} {e : Ev} {rest l : List Ev} (h : Mir ⟨now, n, e :: rest⟩ l) (hok : (Qu.mk now n (e :: rest)).Ok) {i : Nat} {x : Ev} (hx : l[i]? = some x) (hm : ∀ y ∈ l, ¬ Lt y x) : x = e ∧ Mir ⟨e.at', n, rest⟩ (l.take i ++ l.drop (i + 1)) := by
  have hp : l.Perm (e :: rest) := h
  have hxm : x ∈ e :: rest := hp.mem_iff.1 (List.mem_of_getElem? hx)
  have hxe : x = e := by
    rcases List.mem_cons.1 hxm with h | hr
    · exact h
    · exact absurd ((List.pairwise_cons.1 hok.srt).1 x hr) (hm e (hp.mem_iff.2 List.mem_cons_self))
  refine ⟨hxe, ?_⟩
  have hlt := lt_of_get hx
  have hl : l = l.take i ++ x :: l.drop (i + 1) := by
    rw [List.getElem?_eq_getElem hlt] at hx
    obtain rfl := Option.some.inj hx
    rw [← List.drop_eq_getElem_cons hlt, List.take_append_drop]
  rw [hl, hxe] at hp
  have h2 := (List.perm_middle.symm.trans hp).cons_inv
  exact h2
theorem Mir.any {q : Qu} {l : List Ev} (h : Mir q l) (p : Ev → Bool) : l.any p = q.evs.any p := by
  have hp : l.Perm q.evs := h
  rw [Bool.eq_iff_iff, List.any_eq_true, List.any_eq_true]
  exact ⟨fun ⟨x, hx, h⟩ => ⟨x, hp.mem_iff.1 hx, h⟩, fun ⟨x, hx, h⟩ => ⟨x, hp.mem_iff.2 hx, h⟩⟩
section
variable {w w' : World} {G Z : BS} {v : Value} {l : List Ev}
theorem RdS.evR (h : RdS eEv w Z v l) : EvR w v l := by
  obtain ⟨us, h1, h2, _⟩ := h
  rw [els_ev h2] at h1; exact h1
theorem EvR.rdS (h : EvR w v l) (hz : ∀ b, v.ownBlock = some b → Z b) : RdS eEv w Z v l := ⟨evCells l, h, ev_els l, fun _ => hz⟩
theorem fr_below (hb : Below w.heap.size w w') : Fr G w w' := ⟨hb.os, hb.tape, hb.output, hb.size, fun k hl _ => hb.block k hl⟩
theorem did_two {v' : Value} {l' : List Ev} (hb : Below w.heap.size w w') (h : RdS eEv w Z v l) (h' : RdS eEv w' (fun k => Z k ∨ w.heap.size ≤ k) v' l') : Did w G Z [tRd eEv v l, tRd eEv v' l'] w' :=
  ⟨fr_below hb, fun k => Z k ∨ w.heap.size ≤ k, fun _ h => h.imp id .inr, Star.cons (F := fun _ => False) (G := fun _ => False) ((h.stay hb.size fun k _ hl => hb.block k hl).mono fun _ h => .inl h.1) (Star.one (F := fun _ => False) h') (fun _ f _ => f) (fun _ f => f.elim) fun _ f => f.elim⟩
theorem did_new {v' : Value} {l' : List Ev} (hb : Below w.heap.size w w') (h : RdS eEv w Z v l) (h' : EvR w' v' l') (ho : ∀ b, v'.ownBlock = some b → w.heap.size ≤ b) : Did w G Z [tRd eEv v l, tRd eEv v' l'] w' :=
  did_two hb h (h'.rdS fun b hb => .inr (ho b hb))
theorem did_old (hb : Below w.heap.size w w') (h : RdS eEv w Z v l) : Did w G Z [tRd eEv v l, tRd eEv v l] w' :=
  did_two hb h ((h.stay hb.size fun k _ hl => hb.block k hl).mono fun _ h => .inl h.1)
theorem Did.free {ts : List Th} (h : Did w (fun _ => False) Z ts w') : Did w G Z ts w' := by
  obtain ⟨h1, Y, h2, h3⟩ := h
  exact ⟨h1.mono fun _ f => f.elim, Y, fun k hk => (h2 k hk).imp id (Or.imp False.elim id), h3.mono (fun k h => ⟨h.1.imp False.elim id, h.2⟩) fun _ h => h⟩
end
theorem heap_size_alloc5 (w : World) (o : Obj) : (w.alloc o).heap.size = w.heap.size + 1 := by simp
def RefPost (w : World) (G Z : BS) (v : Value) (l : List Ev) (q : Qu) (rs : List Value) (e : Ending) (w' : World) : Prop :=
  ∃ (l' : List Ev) (a' : Option Addr) (c' : Nat), e = .returned (.tuple (refV q.now q.last (.slice a' l'.length c') :: rs).toArray) ∧ Mir q l' ∧ Did w G Z [tRd eEv v l, tRd eEv (.slice a' l'.length c') l'] w'
theorem rPush {q : Qu} {l : List Ev} (hm : Mir q l) (hlt : q.last < 1000000000) (t k n g : Int) (w : World) (G Z : BS) (a : Option Addr) (c : Nat) (h : RdS eEv w Z (.slice a l.length c) l) :
    Calls Try.prog 22 #[refV q.now q.last (.slice a l.length c), .int .i64 t, .int .i64 k, .int .i64 n, .int .i64 g] w (RefPost w G Z (.slice a l.length c) l (q.push t k n g).1 [.int .i64 (q.push t k n g).2.1, .int .i64 (q.push t k n g).2.2]) := by
  cases ho : okAt q.now t k n with
  | false =>
    refine (refPush_range w q.now q.last a l.length c t k n g ho).mono ?_
    rintro e w' ⟨rfl, hb⟩
    rw [Qu.push_range ho]
    exact ⟨l, a, c, rfl, hm, did_old hb h⟩
  | true =>
    by_cases hl : l.length < 10000
    · refine (refPush_go w q.now q.last hlt a c l h.evR hl t k n g ho).mono ?_
      rintro e w' ⟨a', n', c', rfl, ⟨rfl, h2, h3⟩, hb⟩
      rw [Qu.push_go ho (by rw [← hm.len]; exact hl)]
      refine ⟨_, a', c', by simp [refV], ?_, did_new hb h h2 h3⟩
      show (l ++ [_]).Perm (ins _ q.evs)
      refine ((List.perm_append_singleton _ l).trans ?_).trans (ins_perm _ q.evs).symm
      have he : (q.last : Int) + 1 = ((q.last + 1 : Nat) : Int) := by omega
      rw [he]
      exact List.Perm.cons _ hm
    · refine (refPush_full w q.now q.last a l.length c (by omega) t k n g ho).mono ?_
      rintro e w' ⟨rfl, hb⟩
      rw [Qu.push_full ho (by rw [← hm.len]; omega)]
      exact ⟨l, a, c, rfl, hm, did_old hb h⟩
theorem rCancel {q : Qu} {l : List Ev} (hm : Mir q l) (hok : q.Ok) (number : Int) (w : World) (G Z : BS) (a : Option Addr) (c : Nat) (h : RdS eEv w Z (.slice a l.length c) l) :
    Calls Try.prog 23 #[refV q.now q.last (.slice a l.length c), .int .i64 number] w (RefPost w G Z (.slice a l.length c) l (q.cancel number).1 [.int .i64 (q.cancel number).2]) := by
  refine (refCancel_any w q.now q.last a c l h.evR (by rw [hm.len]; exact hok.len) (hm.num hok) number).mono ?_
  rintro e w' hc
  unfold CanR at hc
  unfold Qu.cancel
  rw [hm.any] at hc
  split at hc
  · rename_i hi
    obtain ⟨a', n', c', rfl, ⟨rfl, h2, h3⟩, hb⟩ := hc
    rw [if_pos hi]
    exact ⟨_, a', c', rfl, List.Perm.filter _ hm, did_new hb h h2 h3⟩
  · rename_i hi
    obtain ⟨rfl, hb⟩ := hc
    rw [if_neg hi]
    exact ⟨l, a, c, rfl, hm, did_old hb h⟩
theorem rPop {q : Qu} {l : List Ev} (hm : Mir q l) (hok : q.Ok) (w : World) (G Z : BS) (a : Option Addr) (c : Nat) (h : RdS eEv w Z (.slice a l.length c) l) :
    Calls Try.prog 24 #[refV q.now q.last (.slice a l.length c)] w (RefPost w G Z (.slice a l.length c) l q.pop.1 [.agg #[.int .i64 q.pop.2.1.at', .int .i64 q.pop.2.1.kind, .int .i64 q.pop.2.1.node, .int .i64 q.pop.2.1.number, .int .i64 q.pop.2.1.arg], .bool q.pop.2.2]) := by
  obtain ⟨now, last, evs⟩ := q
  cases evs with
  | nil =>
    obtain rfl : l = [] := List.Perm.eq_nil hm
    refine (refPop_none w now last a c).mono ?_
    rintro e w' ⟨rfl, hb⟩
    exact ⟨[], a, c, rfl, hm, did_old hb h⟩
  | cons e0 rest =>
    have hl := hm.len
    have hol := hok.len
    refine (refPop_any w now last a c l h.evR (by rw [hl]; exact hol) (by rw [hl]; simp)).mono ?_
    rintro e w' ⟨i, x, a', n', c', hx, hmin, rfl, ⟨rfl, h2, h3⟩, hb⟩
    obtain ⟨rfl, h4⟩ := hm.pop hok hx hmin
    exact ⟨_, a', c', rfl, h4, did_new hb h h2 h3⟩
section
variable {F Z : BS} {W w : World} {ts : List Th} {q : Qu} {l : List Ev} {a : Option Addr} {c : Nat}
theorem Held.sts3 (h : Held F Z W ts w) (i : Nat) {p : Nat} {u v r : Value} {T : TypeId} (hi : ts[i]? = some (tBlk p (.cells #[u, v, r] T))) (x y z : Value) : Held F Z W (ts.set i (tBlk p (.cells #[x, y, z] T))) (((w.setCell ⟨p, 0, none⟩ x).setCell ⟨p, 1, none⟩ y).setCell ⟨p, 2, none⟩ z) :=
  h.set i hi _ (by (repeat (first | (with_reducible exact Fr.refl _ _) | exact Or.inl rfl | (with_reducible refine Fr.setCell ?_ ?_ _) | (with_reducible refine Fr.drewN ?_ _) | (with_reducible refine Fr.drew ?_)))) (Go.Proofs.Ytococphklfbidaa.sts3 (h.blk i hi) x y z)
theorem Held.sts1 (h : Held F Z W ts w) (i : Nat) {p : Nat} {u v r : Value} {T : TypeId} (hi : ts[i]? = some (tBlk p (.cells #[u, v, r] T))) (x : Value) : Held F Z W (ts.set i (tBlk p (.cells #[x, v, r] T))) (w.setCell ⟨p, 0, none⟩ x) :=
  h.set i hi _ (by (repeat (first | (with_reducible exact Fr.refl _ _) | exact Or.inl rfl | (with_reducible refine Fr.setCell ?_ ?_ _) | (with_reducible refine Fr.drewN ?_ _) | (with_reducible refine Fr.drew ?_)))) (by have h1 := h.blk i hi; (apply row_trans; focus (repeat (first | (with_reducible exact h1) | (with_reducible apply row_set) | (with_reducible apply row_drewN) | (with_reducible apply row_drew)))); rfl)
theorem Held.sts5 (h : Held F Z W ts w) (i : Nat) {p : Nat} {a0 a1 a2 a3 a4 : Value} {T : TypeId} (hi : ts[i]? = some (tBlk p (.cells #[a0, a1, a2, a3, a4] T))) (x y z r s : Value) : Held F Z W (ts.set i (tBlk p (.cells #[x, y, z, r, s] T))) (((((w.setCell ⟨p, 0, none⟩ x).setCell ⟨p, 1, none⟩ y).setCell ⟨p, 2, none⟩ z).setCell ⟨p, 3, none⟩ r).setCell ⟨p, 4, none⟩ s) :=
  h.set i hi _ (by (repeat (first | (with_reducible exact Fr.refl _ _) | exact Or.inl rfl | (with_reducible refine Fr.setCell ?_ ?_ _) | (with_reducible refine Fr.drewN ?_ _) | (with_reducible refine Fr.drew ?_)))) (Go.Proofs.Ytococphklfbidaa.sts5 (h.blk i hi) x y z r s)
theorem wpList_app_ev44 {w1 w2 : World} {ops : Array Oper} {rest : List Oper} {o : Oper} {ac : Act} {Q : Exit → Act → World → Prop} {xs : List Ev} {e : Ev}
    (hg : o.guard = none) (s x : Operand) (hop : o.op = Op.call { callee := Callee.builtin Builtin.append, args := #[s, x], argTypes := #[50, 50] })
    (h : Held F Z W ts w1) (i : Nat) (hi : ts[i]? = some (tSq eEv 44 (.slice a xs.length c) xs)) (hb : Below w1.heap.size w1 w2) (hl : xs.length ≤ 1000000) (hs : ac.eval s = .slice a xs.length c) (vb : Nat) (hx : ac.eval x = .slice (some ⟨vb, 0, none⟩) 1 1) (hrow : w2.heap[vb]? = some (.cells #[.int .i64 e.at', .int .i64 e.kind, .int .i64 e.node, .int .i64 e.number, .int .i64 e.arg] 44))
    (hK : ∀ a' c' w3, Held F Z W (ts.set i (tSq eEv 44 (.slice a' (xs ++ [e]).length c') (xs ++ [e]))) w3 → wpList Try.prog ops Q rest (ac.put o.dst (.slice a' (xs.length + 1) c')) w3) : wpList Try.prog ops Q (o :: rest) ac w2 := by
  obtain ⟨K, us, hsl, hKn, hback⟩ := h.app i hi
  refine wpList_apps slREv hg s x hop K (.slice a xs.length c) xs.length us hs (Sl.keep hsl fun k _ hl => hb.block k hl) _ 1 (evC e) hx (rd_ev44 hrow) (fun u hu => evC_one hu) (by unfold maxLen; omega) (by omega) ?_
  intro v' w' hs2 hf2
  obtain ⟨g2, off2, cap2, rfl, _⟩ := Sl.head hs2 (by omega)
  refine hK _ _ _ ?_
  have := hback w2 w' (evC e) [e] _ hb hs2 hf2 fun Y _ => ⟨fun _ => False, fun _ => False, fun _ f => f.elim, fun _ f => f.elim, fun _ f => f.elim, Els.single (E := eEv) rfl⟩
  rw [List.length_append]
  exact this
def RefH (F Z : BS) (W : World) (ts : List Th) (q : Qu) (rs : List Value) (e : Ending) (w' : World) : Prop :=
  ∃ (l' : List Ev) (a' : Option Addr) (c' : Nat), e = .returned (.tuple (.agg #[.int .i64 q.now, .int .i64 (q.last : Int), .slice a' l'.length c'] :: rs).toArray) ∧ Mir q l' ∧ Held F Z W (ts ++ [tRd eEv (.slice a' l'.length c') l']) w'
theorem RefPost.held {q' : Qu} {rs : List Value} (h : Held F Z W ts w) (i : Nat) (hi : ts[i]? = some (tRd eEv (.slice a l.length c) l)) {f : Nat} {args : Array Value}
    (k : ∀ (G Y : BS), RdS eEv w Y (.slice a l.length c) l → Calls Try.prog f args w (RefPost w G Y (.slice a l.length c) l q' rs)) : Calls Try.prog f args w (RefH F Z W ts q' rs) := by
  obtain ⟨G, Y, h1, _, _, _, hb⟩ := h.use i hi
  refine (k G Y h1).mono ?_
  rintro e w' ⟨l', a', c', h2, h3, h4⟩
  have := hb w' _ _ h4
  have hs : ts.set i (tRd eEv (.slice a l.length c) l) = ts := by
    apply List.ext_getElem?
    intro j
    rw [List.getElem?_set]
    split
    · rename_i hij
      subst hij
      rw [hi, if_pos (lt_of_get hi)]
    · rfl
  rw [hs] at this
  exact ⟨l', a', c', h2, h3, this⟩
theorem rPush_h (h : Held F Z W ts w) (i : Nat) (hi : ts[i]? = some (tRd eEv (.slice a l.length c) l)) (hm : Mir q l) (hlt : q.last < 1000000000) (t k n g : Int) :
    Calls Try.prog 22 #[refV q.now q.last (.slice a l.length c), .int .i64 t, .int .i64 k, .int .i64 n, .int .i64 g] w (RefH F Z W ts (q.push t k n g).1 [.int .i64 (q.push t k n g).2.1, .int .i64 (q.push t k n g).2.2]) :=
  RefPost.held h i hi fun G Y hr => rPush hm hlt t k n g w G Y a c hr
theorem rCancel_h (h : Held F Z W ts w) (i : Nat) (hi : ts[i]? = some (tRd eEv (.slice a l.length c) l)) (hm : Mir q l) (hok : q.Ok) (number : Int) :
    Calls Try.prog 23 #[refV q.now q.last (.slice a l.length c), .int .i64 number] w (RefH F Z W ts (q.cancel number).1 [.int .i64 (q.cancel number).2]) :=
  RefPost.held h i hi fun G Y hr => rCancel hm hok number w G Y a c hr
theorem rPop_h (h : Held F Z W ts w) (i : Nat) (hi : ts[i]? = some (tRd eEv (.slice a l.length c) l)) (hm : Mir q l) (hok : q.Ok) :
    Calls Try.prog 24 #[refV q.now q.last (.slice a l.length c)] w (RefH F Z W ts q.pop.1 [.agg #[.int .i64 q.pop.2.1.at', .int .i64 q.pop.2.1.kind, .int .i64 q.pop.2.1.node, .int .i64 q.pop.2.1.number, .int .i64 q.pop.2.1.arg], .bool q.pop.2.2]) :=
  RefPost.held h i hi fun G Y hr => rPop hm hok w G Y a c hr
end
end Go.Proofs.Ytococphklfbidaa
