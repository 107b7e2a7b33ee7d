/- A queue without one event: the plain law of KernelCancels; numbers in a list. -/
import Derived.Test.YtococphklfbidaaWalkKernelSwaps
namespace Go.Proofs.Ytococphklfbidaa
open Go.RowKit Go.Maps

/-- the numbers behind g come one earlier -/
def less (g : Nat) (k : Int) : Int := if (g : Int) < k then k - 1 else k
structure Skips (g : Nat) (p q : Qu) : Prop where
  pok : p.Ok
  qok : q.Ok
  now : q.now = p.now
  last : q.last + 1 = p.last
  le : g ≤ p.last
  mem : ∀ e, e ∈ q.evs ↔ ∃ a ∈ p.evs, a.number ≠ (g : Int) ∧ e = ren (less g) a
theorem less_mono {g : Nat} {a b : Ev} (ha : a.number ≠ (g : Int)) (hb : b.number ≠ (g : Int)) (h : Lt a b) : Lt (ren (less g) a) (ren (less g) b) := by
  have h1 : a.number < b.number → less g a.number < less g b.number := by unfold less; intro h; split <;> split <;> omega
  unfold Lt at h ⊢
  simp only [ren]
  rcases h with h | ⟨h2, h | ⟨h3, h | ⟨h4, h⟩⟩⟩
  · exact .inl h
  · exact .inr ⟨h2, .inl h⟩
  · exact .inr ⟨h2, .inr ⟨h3, .inl h⟩⟩
  · exact .inr ⟨h2, .inr ⟨h3, .inr ⟨h4, h1 h⟩⟩⟩
theorem Skips.evs {g : Nat} {p q : Qu} (h : Skips g p q) : q.evs = (p.evs.filter fun x => !(x.number == (g : Int))).map (ren (less g)) := by
  refine srt_unique h.qok.srt ?_ fun x => ?_
  · unfold Srt
    rw [List.pairwise_map]
    refine List.Pairwise.imp_of_mem (fun ha hb hl => less_mono ?_ ?_ hl) (h.pok.srt.sublist List.filter_sublist)
    · simpa using (List.mem_filter.1 ha).2
    · simpa using (List.mem_filter.1 hb).2
  · rw [h.mem x, List.mem_map]
    constructor
    · rintro ⟨a, ha, hn, rfl⟩; exact ⟨a, List.mem_filter.2 ⟨ha, by simpa using hn⟩, rfl⟩
    · rintro ⟨a, ha, rfl⟩; exact ⟨a, (List.mem_filter.1 ha).1, by simpa using (List.mem_filter.1 ha).2, rfl⟩
theorem Skips.push {g : Nat} {p q : Qu} (h : Skips g p q) (f : Ac) (hw : (Lit.int .i64 f.arg).wf = true) (hp : p.evs.length < 10000) (hq : q.evs.length < 10000) : Skips g (p.pushA f) (q.pushA f) := by
  have hpo := Qu.push_ok h.pok (a := f.at') (k := f.sort) (n := f.node) (i64_of_wf hw)
  have hqo := Qu.push_ok h.qok (a := f.at') (k := f.sort) (n := f.node) (i64_of_wf hw)
  have hl := h.last
  have hle := h.le
  cases ho : okAt p.now f.at' f.sort f.node with
  | false =>
    rw [pushA_no ho, pushA_no (q := q) (by rw [h.now]; exact ho)]
    exact h
  | true =>
    have e1 := pushA_yes ho hp
    have e2 := pushA_yes (q := q) (f := f) (by rw [h.now]; exact ho) hq
    unfold Qu.pushA at e1 e2
    rw [e1] at hpo
    rw [e2] at hqo
    unfold Qu.pushA
    rw [e1, e2]
    have hr : ren (less g) ⟨f.at', f.sort, f.node, ((p.last + 1 : Nat) : Int), f.arg⟩ = ⟨f.at', f.sort, f.node, ((q.last + 1 : Nat) : Int), f.arg⟩ := by
      unfold ren less; rw [if_pos (by simp only; omega)]; congr 1; simp only; omega
    refine ⟨hpo, hqo, h.now, by show q.last + 1 + 1 = p.last + 1; omega, by show g ≤ p.last + 1; omega, fun e => ?_⟩
    show e ∈ ins _ q.evs ↔ ∃ a ∈ ins _ p.evs, _
    rw [ins_mem, h.mem e]
    constructor
    · rintro (rfl | ⟨a, ha, hn, rfl⟩)
      · exact ⟨_, ins_mem.2 (.inl rfl), by simp only; omega, hr.symm⟩
      · exact ⟨a, ins_mem.2 (.inr ha), hn, rfl⟩
    · rintro ⟨a, ha, hn, rfl⟩
      rcases ins_mem.1 ha with rfl | ha
      · exact .inl hr
      · exact .inr ⟨a, ha, hn, rfl⟩
theorem Skips.start {p : Qu} (h : p.Ok) (f : Ac) (hw : (Lit.int .i64 f.arg).wf = true) (hp : p.evs.length < 10000) (ho : okAt p.now f.at' f.sort f.node = true) : Skips (p.last + 1) (p.pushA f) p := by
  have hpo := Qu.push_ok h (a := f.at') (k := f.sort) (n := f.node) (i64_of_wf hw)
  have e1 := pushA_yes ho hp
  unfold Qu.pushA at e1
  rw [e1] at hpo
  unfold Qu.pushA
  rw [e1]
  have hr : ∀ a ∈ p.evs, ren (less (p.last + 1)) a = a := fun a ha => by
    have := (h.le a ha).2
    unfold ren less; rw [if_neg (by omega)]
  refine ⟨hpo, h, rfl, rfl, Nat.le_refl _, fun e => ?_⟩
  show e ∈ p.evs ↔ ∃ a ∈ ins _ p.evs, _
  constructor
  · intro he
    have := (h.le e he).2
    exact ⟨e, ins_mem.2 (.inr he), by omega, (hr e he).symm⟩
  · rintro ⟨a, ha, hn, rfl⟩
    rcases ins_mem.1 ha with rfl | ha
    · exact absurd rfl hn
    · rw [hr a ha]; exact ha
/-- as far as the second queue has come -/
def SkipTo (g : Nat) (p q : Qu) : Prop := (p.last < g ∧ q = p) ∨ Skips g p q
/-- nothing is missing -/
structure Whole (q : Qu) : Prop where
  len : q.evs.length = q.last
  all : ∀ k : Int, 1 ≤ k → k ≤ (q.last : Int) → ∃ e ∈ q.evs, e.number = k
  now : q.now = 0
theorem Whole.pushA {q : Qu} (h : Whole q) (hl : q.evs.length < 10000) (f : Ac) : Whole (q.pushA f) := by
  cases ho : okAt q.now f.at' f.sort f.node with
  | false => rw [pushA_no ho]; exact h
  | true =>
    rw [pushA_yes ho hl]
    refine ⟨by rw [ins_length, h.len], fun k h1 h2 => ?_, h.now⟩
    have h2' : k ≤ ((q.last + 1 : Nat) : Int) := h2
    rcases Int.lt_or_le (q.last : Int) k with h3 | h3
    · exact ⟨_, ins_mem.2 (.inl rfl), by simp only; omega⟩
    · obtain ⟨e, he, hn⟩ := h.all k h1 h3
      exact ⟨e, ins_mem.2 (.inr he), hn⟩
theorem whole_foldl : ∀ (l : List Ac) {j : Nat} {q : Qu}, Whole q → Few j q → j + l.length < 10000 → WfL l → Whole (l.foldl Qu.pushA q)
  | [], _, _, h, _, _, _ => h
  | f :: l, j, q, h, hf, hj, hw => by
    rw [List.length_cons] at hj
    exact whole_foldl l (h.pushA (by have := hf.len; omega) f) (pushA_few hf (hw f List.mem_cons_self)) (by omega) fun x hx => hw x (List.mem_cons_of_mem _ hx)
theorem pushes_whole {l : List Ac} (hw : WfL l) (hl : l.length < 10000) : Whole (pushes l) := whole_foldl l (q := Qu.new) ⟨rfl, fun k h1 h2 => by have : k ≤ 0 := h2; omega, rfl⟩ Few.new (by omega) hw
/-- the numbers 1 .. n -/
def nums (n : Nat) : List Nat := (List.range n).map (· + 1)
theorem nums_length (n : Nat) : (nums n).length = n := by simp [nums]
theorem nums_succ (n : Nat) : nums (n + 1) = nums n ++ [n + 1] := by unfold nums; rw [List.range_succ, List.map_append]; rfl
theorem nums_get {n i : Nat} (h : i < n) : (nums n)[i]? = some (i + 1) := by unfold nums; rw [List.getElem?_map, List.getElem?_range h]; rfl
theorem slInt : SlT Try.prog 48 3 (.int .i64 0) 1 8 := ⟨Try.underlying48, info_parts (by kernel_rfl), rfl, by decide⟩
/-- a number put behind a list that is held -/
theorem wpList_app_nat {F Z : BS} {W w1 w2 : World} {ts : List Th} {ops : Array Oper} {rest : List Oper} {o : Oper} {ac : Act} {Q : Exit → Act → World → Prop} {a : Option Addr} {c : Nat} {xs : List Nat} {e : Nat}
    (hg : o.guard = none) (s x : Operand) (hop : o.op = Op.call { callee := Callee.builtin Builtin.append, args := #[s, x], argTypes := #[48, 48] })
    (h : Held F Z W ts w1) (i : Nat) (hi : ts[i]? = some (tSq eNat 3 (.slice a xs.length c) xs)) (hb : Below w1.heap.size w1 w2) (hl : xs.length ≤ 1000000) (hs : ac.eval s = .slice a xs.length c) (vb : Nat) (hx : ac.eval x = .slice (some ⟨vb, 0, none⟩) 1 1) (hrow : Rd w2 1 (.slice (some ⟨vb, 0, none⟩) 1 1) 1 [.int .i64 (e : Int)])
    (hK : ∀ a' c' w3, Held F Z W (ts.set i (tSq eNat 3 (.slice a' (xs ++ [e]).length c') (xs ++ [e]))) w3 → wpList Try.prog ops Q rest (ac.put o.dst (.slice a' (xs.length + 1) c')) w3) : wpList Try.prog ops Q (o :: rest) ac w2 := by
  obtain ⟨K, us, hsl, hKn, hback⟩ := h.app i hi
  refine wpList_apps slInt hg s x hop K (.slice a xs.length c) xs.length us hs (Sl.keep hsl fun k _ hl => hb.block k hl) _ 1 [.int .i64 (e : Int)] hx hrow (by intro u hu; obtain rfl := List.mem_singleton.1 hu; rfl) (by unfold maxLen; omega) (by omega) ?_
  intro v' w' hs2 hf2
  obtain ⟨g2, off2, cap2, rfl, _⟩ := Sl.head hs2 (by omega)
  refine hK _ _ _ ?_
  have := hback w2 w' [.int .i64 (e : Int)] [e] _ hb hs2 hf2 fun Y _ => ⟨fun _ => False, fun _ => False, fun _ f => f.elim, fun _ f => f.elim, fun _ f => f.elim, Els.single (E := eNat) rfl⟩
  rw [List.length_append]
  exact this
theorem nat_at {w : World} {F Z : BS} {T : TypeId} {a : Option Addr} {n c : Nat} {l : List Nat} (h : Sq eNat T w F Z (.slice a n c) l) {i : Nat} {x : Nat} (hi : l[i]? = some x) : ∃ b off, a = some ⟨b, off, none⟩ ∧ w.cell? ⟨b, off + i, none⟩ = some (.int .i64 (x : Int)) := by
  obtain ⟨b, off, cs, A, e, _, hr, _, hc⟩ := h.at (by decide) hi
  have h1 : cs = [.int .i64 (x : Int)] := hr
  subst h1
  refine ⟨b, off, e, ?_⟩
  have := hc 0 _ rfl
  rw [show off + i * eNat.size + 0 = off + i by show off + i * 1 + 0 = _; omega] at this
  exact this
end Go.Proofs.Ytococphklfbidaa
