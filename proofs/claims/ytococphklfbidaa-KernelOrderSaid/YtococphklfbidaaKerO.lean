/- What KernelOrder holds: the list that is wanted, the numbers seen. -/
import Derived.Test.YtococphklfbidaaKerN
import Derived.Test.YtococphklfbidaaKerL
namespace Go.Proofs.Ytococphklfbidaa
open Go.RowKit Go.Maps

/-- the list of what was taken -/
structure Ordl (q : Qu) (xs : List Ev) : Prop where
  ok : q.Ok
  whole : Whole q
  len : xs.length = q.last
  num : ∀ (i : Nat) e, xs[i]? = some e → e.number = (i : Int) + 1 ∧ e ∈ q.evs
theorem Ordl.push {q : Qu} {xs : List Ev} (h : Ordl q xs) (f : Ac) (hw : (Lit.int .i64 f.arg).wf = true) (hl : q.evs.length < 10000) (ho : okAt q.now f.at' f.sort f.node = true) : Ordl (q.pushA f) (xs ++ [⟨f.at', f.sort, f.node, (xs.length : Int) + 1, f.arg⟩]) := by
  have hok := Qu.push_ok h.ok (a := f.at') (k := f.sort) (n := f.node) (i64_of_wf hw)
  have hwh := h.whole.pushA hl f
  have e1 := pushA_yes ho hl
  unfold Qu.pushA at e1 hwh ⊢
  rw [e1] at hok hwh ⊢
  refine ⟨hok, hwh, by rw [List.length_append, h.len]; rfl, fun i e hi => ?_⟩
  rw [List.getElem?_append] at hi
  split at hi
  · obtain ⟨h1, h2⟩ := h.num i e hi
    exact ⟨h1, ins_mem.2 (.inr h2)⟩
  · rename_i hge
    have h0 : i - xs.length = 0 := by have := lt_of_get hi; simp at this; omega
    rw [h0] at hi
    obtain rfl : (⟨f.at', f.sort, f.node, (xs.length : Int) + 1, f.arg⟩ : Ev) = e := by simpa using hi
    refine ⟨by simp only; omega, ins_mem.2 (.inl ?_)⟩
    rw [h.len]; rfl
theorem nodup_eq : ∀ {l : List Ev} {a b : Ev}, (l.map (·.number)).Nodup → a ∈ l → b ∈ l → a.number = b.number → a = b
  | x :: l, a, b, hn, ha, hb, he => by
    obtain ⟨h1, h2⟩ := List.nodup_cons.1 hn
    rcases List.mem_cons.1 ha with ha' | ha'
    · rcases List.mem_cons.1 hb with hb' | hb'
      · rw [ha', hb']
      · exact absurd (List.mem_map.2 ⟨b, hb', he.symm.trans (by rw [ha'])⟩) h1
    · rcases List.mem_cons.1 hb with hb' | hb'
      · exact absurd (List.mem_map.2 ⟨a, ha', he.trans (by rw [hb'])⟩) h1
      · exact nodup_eq h2 ha' hb' he
theorem Ordl.at {q : Qu} {xs : List Ev} (h : Ordl q xs) {e : Ev} (he : e ∈ q.evs) : ∃ m : Nat, m < xs.length ∧ e.number = (m : Int) + 1 ∧ xs[m]? = some e := by
  obtain ⟨h1, h2⟩ := h.ok.le e he
  obtain ⟨m, hm⟩ := Int.eq_ofNat_of_zero_le (show 0 ≤ e.number - 1 by omega)
  have hml : m < xs.length := by rw [h.len]; omega
  obtain ⟨x, hx⟩ : ∃ x, xs[m]? = some x := ⟨xs[m], List.getElem?_eq_getElem hml⟩
  obtain ⟨h3, h4⟩ := h.num m x hx
  have : x = e := nodup_eq h.ok.num h4 he (by omega)
  exact ⟨m, hml, by omega, by rw [hx, this]⟩
theorem plainElem_bool_inv {v : Value} {x : Bool} {ps : List MemPlace} (h : plainElem (H := Unit) Try.prog 4 v = some (.lit (.bool x), ps)) : v = .bool x := by
  unfold plainElem at h
  rw [Try.underlying4] at h
  cases v <;> simp at h
  rw [h.1]
/-- the numbers that are in a map -/
def SeenAt (b n : Nat) (S : List Int) (w : World) (F _ : BS) : Prop := F b ∧ ∃ D : DataW Unit, w.ownsMap Try.prog 3 (plainElem Try.prog 4) b n D ∧ IsMap D ∧ ∀ k : Int, D.atKey (.int .i64 k) (.lit (.bool false)) = .lit (.bool (S.any fun x => x == k))
def tSeen (b n : Nat) (S : List Int) : Th where
  on := SeenAt b n S
  keep := fun ⟨h0, D, h1, h2⟩ _ hk => ⟨⟨h0, h1.lt⟩, D, (by obtain ⟨es, clock, e1, e2⟩ := h1; exact ⟨es, clock, (hk b (.inl h0) (World.ownsMap.lt ⟨es, clock, e1, e2⟩)).trans e1, e2⟩), h2⟩
  mono := fun ⟨h0, D, h1, h2⟩ hF _ => ⟨hF b h0, D, h1, h2⟩
theorem zBool (w : World) : (zeroValue 4).run Try.prog w = .ok (.bool false) w := by kernel_rfl
theorem seen_lookup {b n : Nat} {S : List Int} {w : World} {F Z : BS} (h : (tSeen b n S).on w F Z) {k : Int} (hk : (Lit.int .i64 k).wf = true) (hS : (S.any fun x => x == k) = false) : (Instr.lookup 39 (.map (some b)) (.int .i64 k) false).run Try.prog w = .ok (.bool false) w := by
  obtain ⟨_, D, h1, _, h3⟩ := h
  obtain ⟨v, ps, hr, hv⟩ := h1.lookup keyed Try.underlying39 (zBool w) (zd := .lit (.bool false)) (zp := []) (plainElem_bool Try.underlying4 false) (keyOf_int_mk Try.underlying3 hk)
  rw [h3 k, hS] at hv
  rw [plainElem_bool_inv hv] at hr
  exact hr
theorem ord_s {F Z : BS} {W w : World} {p : Nat} {q : Qu} {T1 : Th} {gb goff n c lb b k eb m : Nat} {xs : List Ev} {a e : Ev} {S : List Int}
    (h : Held F Z W [tQu p q, T1, tSq eEv 32 (.slice (some ⟨gb, goff, none⟩) n c) xs, tBlk lb (.cells #[.int .i64 a.at', .int .i64 a.kind, .int .i64 a.node, .int .i64 a.number, .int .i64 a.arg] 32), tSeen b k S, tBlk eb (.cells #[.int .i64 e.at', .int .i64 e.kind, .int .i64 e.node, .int .i64 e.number, .int .i64 e.arg] 32)] w) (hm : xs[m]? = some e) (hS : (S.any fun x => x == e.number) = false) (hw : (Lit.int .i64 e.number).wf = true) : w.cell? ⟨eb, 0, none⟩ = some (.int .i64 e.at') ∧ w.cell? ⟨eb, 1, none⟩ = some (.int .i64 e.kind) ∧ w.cell? ⟨eb, 2, none⟩ = some (.int .i64 e.node) ∧ w.cell? ⟨eb, 3, none⟩ = some (.int .i64 e.number) ∧ w.cell? ⟨eb, 4, none⟩ = some (.int .i64 e.arg) ∧ w.cell? ⟨lb, 0, none⟩ = some (.int .i64 a.at') ∧ w.cell? ⟨lb, 1, none⟩ = some (.int .i64 a.kind) ∧ w.cell? ⟨lb, 2, none⟩ = some (.int .i64 a.node) ∧ w.cell? ⟨lb, 3, none⟩ = some (.int .i64 a.number) ∧ w.cell? ⟨lb, 4, none⟩ = some (.int .i64 a.arg) ∧ w.cell? ⟨gb, goff + m * 5, none⟩ = some (.int .i64 e.at') ∧ w.cell? ⟨gb, goff + m * 5 + 1, none⟩ = some (.int .i64 e.kind) ∧ w.cell? ⟨gb, goff + m * 5 + 2, none⟩ = some (.int .i64 e.node) ∧ w.cell? ⟨gb, goff + m * 5 + 3, none⟩ = some (.int .i64 e.number) ∧ w.cell? ⟨gb, goff + m * 5 + 4, none⟩ = some (.int .i64 e.arg) ∧ (Instr.lookup 39 (.map (some b)) (.int .i64 e.number) false).run Try.prog w = .ok (.bool false) w := by
  have b1 := h.blk 5 rfl
  have b2 := h.blk 3 rfl
  obtain ⟨G, Y, hsq⟩ := h.get 2 rfl
  obtain ⟨gb', goff', heq, d0, d1, d2, d3, d4⟩ := ev_at (Sq.evR (show Sq eEv 32 w G Y (.slice (some ⟨gb, goff, none⟩) n c) xs from hsq)) hm
  obtain ⟨rfl, rfl⟩ : gb = gb' ∧ goff = goff' := by simpa using heq
  obtain ⟨G', Y', hse⟩ := h.get 4 rfl
  exact ⟨blk_cell b1 rfl, blk_cell b1 rfl, blk_cell b1 rfl, blk_cell b1 rfl, blk_cell b1 rfl, blk_cell b2 rfl, blk_cell b2 rfl, blk_cell b2 rfl, blk_cell b2 rfl, blk_cell b2 rfl, d0, d1, d2, d3, d4, seen_lookup hse hw hS⟩
theorem seen_new (w : World) : (tSeen w.heap.size 0 []).on (w.alloc (.map #[] 0)) (fun k => w.heap.size ≤ k) (fun _ => False) :=
  ⟨Nat.le_refl _, .map [], World.ownsMap_made w _ _ _, isMap_empty, fun _ => rfl⟩
theorem seen_put {S : List Int} {D : DataW Unit} {k : Int} (h2 : IsMap D) (h3 : ∀ k : Int, D.atKey (.int .i64 k) (.lit (.bool false)) = .lit (.bool (S.any fun x => x == k))) : IsMap (D.put (.int .i64 k) (.lit (.bool true))) ∧ ∀ j : Int, (D.put (.int .i64 k) (.lit (.bool true))).atKey (.int .i64 j) (.lit (.bool false)) = .lit (.bool ((S ++ [k]).any fun x => x == j)) := by
  refine ⟨h2.put _ _, fun j => ?_⟩
  by_cases hj : j = k
  · subst hj
    rw [atKey_put_same h2 (key_lit _)]
    simp
  · rw [atKey_put_other (by simpa using hj), h3 j]
    congr 2
    rw [List.any_append]
    simp [Ne.symm hj]
theorem Held.seen {F Z : BS} {W w : World} {ts : List Th} (h : Held F Z W ts w) (i : Nat) {b n : Nat} {S : List Int} (hi : ts[i]? = some (tSeen b n S)) :
    ∃ D : DataW Unit, w.ownsMap Try.prog 3 (plainElem Try.prog 4) b n D ∧ ∀ (w' : World) (k : Int), w'.ownsMap Try.prog 3 (plainElem Try.prog 4) b (n + 1) (D.put (.int .i64 k) (.lit (.bool true))) → w.grownBy w' (some b) → Held F Z W (ts.set i (tSeen b (n + 1) (S ++ [k]))) w' := by
  obtain ⟨G, Y, hse, hd, _, _, hback⟩ := h.use i hi
  obtain ⟨hGb, D, hown, hism, hat⟩ := hse
  refine ⟨D, hown, fun w' k h1 h2 => ?_⟩
  have hf : Fr G w w' := (Fr.refl G w).grown h2 fun k h => by cases h; exact .inl hGb
  have := hback w' (tSeen b (n + 1) (S ++ [k])) [] (Did.same hf ⟨hGb, _, h1, seen_put hism hat⟩ hd)
  rwa [List.append_nil] at this
end Go.Proofs.Ytococphklfbidaa
