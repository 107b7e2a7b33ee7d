/- Packets of ports as elements of lists. -/
import Derived.Test.YtcocnfbhileheaaPotB
namespace Go.Proofs.Ytcocnfbhileheaa
open Go.RowKit

abbrev ptL (x : Pt) (pv : Value) : List Value := [.int .u8 (U x.kind), .int .i64 x.cls, .int .i64 x.number, .int .i64 x.value, pv]
/-- a packet, its payload in the pool -/
def ePt : El Pt where
  size := 5
  rd w _ Z cs p := ∃ v, cs = ptL p v ∧ ByZ w Z v p.pay
  len h := by obtain ⟨v, h, _⟩ := h; rw [h]; rfl
  keep h _ hk := by obtain ⟨v, e, h⟩ := h; exact ⟨v, e, h.stay fun k hz => hk k (.inr hz)⟩
  mono h _ hZ := by obtain ⟨v, e, h⟩ := h; exact ⟨v, e, h.mono hZ⟩
  one h u hu := by
    obtain ⟨v, rfl, ⟨_, a, c, rfl, _⟩, _⟩ := h
    simp only [ptL, List.mem_cons, List.not_mem_nil, or_false] at hu
    rcases hu with rfl | rfl | rfl | rfl | rfl <;> rfl
theorem ePt_rd {w : World} {A B : BS} {cs : List Value} {p : Pt} (h : ePt.rd w A B cs p) : ePt.rd w (fun _ => False) (fun k => A k ∨ B k) cs p := by
  obtain ⟨v, e, h⟩ := h; exact ⟨v, e, h.mono fun _ h => .inr h⟩
theorem els_pt {w : World} {Z : BS} : ∀ {F : BS} {us : List Value} {xs : List Pt}, Els ePt w F Z us xs → Els ePt w (fun _ => False) Z us xs
  | _, _, [], h => h
  | _, _, _ :: _, ⟨cs, rest, _, _, e, _, _, _, h1, h2⟩ => ⟨cs, rest, fun _ => False, fun _ => False, e, fun _ f => f, fun _ f => f, fun _ f => f.elim, h1, els_pt h2⟩
theorem slPt : SlT Try.prog 22 33 (.agg #[.int .u8 0, .int .i64 0, .int .i64 0, .int .i64 0, .slice none 0 0]) 5 56 := ⟨Try.underlying22, info_parts (by kernel_rfl), rfl, by decide⟩
theorem ptL_one {x : Pt} {a : Option Addr} {n c : Nat} : ∀ u ∈ ptL x (.slice a n c), u.oneCell' = true := by
  intro u hu
  simp only [ptL, List.mem_cons, List.not_mem_nil, or_false] at hu
  rcases hu with rfl | rfl | rfl | rfl | rfl <;> rfl
theorem rd_pt {w : World} {vb : Nat} {x : Pt} {v : Value} (hrow : w.heap[vb]? = some (ptCells x v)) : Rd w 5 (.slice (some ⟨vb, 0, none⟩) 1 1) 1 (ptL x v) := by
  refine ⟨rfl, some ⟨vb, 0, none⟩, 1, rfl, Nat.le_refl _, by unfold maxLen; omega, (fun e => by cases e), fun b hb k u hk => ?_⟩
  obtain rfl := Option.some.inj hb
  refine ⟨rfl, ?_⟩
  simp only [World.cell?, hrow, Nat.zero_add]
  simpa using hk
section
variable {F Z : BS} {W w1 w2 : World} {ts : List Th}
/-- a packet put behind a list that is held -/
theorem wpList_app_pt {ops : Array Oper} {rest : List Oper} {o : Oper} {ac : Act} {Q : Exit → Act → World → Prop} {a : Option Addr} {c : Nat} {xs : List Pt} {x : Pt} {pa : Option Addr} {pn pc : Nat}
    (hg : o.guard = none) (s y : Operand) (hop : o.op = Op.call { callee := Callee.builtin Builtin.append, args := #[s, y], argTypes := #[22, 22] })
    (h : Held F Z W ts w1) (i : Nat) (hi : ts[i]? = some (tSq ePt 33 (.slice a xs.length c) xs)) (hp : ∀ Y, Others ts i w1 Y → ByZ w1 Y (.slice pa pn pc) x.pay) (hb : Below w1.heap.size w1 w2) (hl : xs.length ≤ 1000000) (hs : ac.eval s = .slice a xs.length c) (vb : Nat) (hx : ac.eval y = .slice (some ⟨vb, 0, none⟩) 1 1) (hrow : w2.heap[vb]? = some (ptCells x (.slice pa pn pc)))
    (hK : ∀ a' c' w3, Held F Z W (ts.set i (tSq ePt 33 (.slice a' (xs ++ [x]).length c') (xs ++ [x]))) w3 → wpList Try.prog ops Q rest (ac.put o.dst (.slice a' (xs.length + 1) c')) w3) : wpList Try.prog ops Q (o :: rest) ac w2 := by
  obtain ⟨K, us, Y, hsl, _, hoth, hback⟩ := h.appY i hi
  refine wpList_apps slPt hg s y hop K (.slice a xs.length c) xs.length us hs (Sl.keep hsl fun k _ hl => hb.block k hl) _ 1 _ hx (rd_pt hrow) ptL_one (by unfold maxLen; omega) (by omega) ?_
  intro v' w' hs2 hf2
  obtain ⟨a2, c2, rfl⟩ := hs2.shape
  refine hK _ _ _ ?_
  have := hback w2 w' _ [x] _ hb hs2 hf2 ⟨fun _ => False, Y, fun _ f => f.elim, fun k hk => .inl hk, fun _ f => f.elim, Els.single (E := ePt) ⟨_, rfl, ByZ.below (hp Y hoth) hb⟩⟩
  rw [List.length_append]
  exact this
theorem step_app_pt {ops : Array Oper} {o : Oper} {ac : Act} {K0 : Act → World → Prop} {Q : Exit → Act → World → Prop} {E0 : Prop} {a : Option Addr} {c : Nat} {xs : List Pt} {x : Pt} {pa : Option Addr} {pn pc : Nat}
    (hg : o.guard = none) (s y : Operand) (hop : o.op = Op.call { callee := Callee.builtin Builtin.append, args := #[s, y], argTypes := #[22, 22] })
    (h : Held F Z W ts w1) (i : Nat) (hi : ts[i]? = some (tSq ePt 33 (.slice a xs.length c) xs)) (hp : ∀ Y, Others ts i w1 Y → ByZ w1 Y (.slice pa pn pc) x.pay) (hb : Below w1.heap.size w1 w2) (hl : xs.length ≤ 1000000) (hs : ac.eval s = .slice a xs.length c) (vb : Nat) (hx : ac.eval y = .slice (some ⟨vb, 0, none⟩) 1 1) (hrow : w2.heap[vb]? = some (ptCells x (.slice pa pn pc)))
    (hK : ∀ a' c' w3, Held F Z W (ts.set i (tSq ePt 33 (.slice a' (xs ++ [x]).length c') (xs ++ [x]))) w3 → K0 (ac.put o.dst (.slice a' (xs.length + 1) c')) w3) : if Region.wanted o (yielded ops ac.tmps) = true then Oper.wp Try.prog o ac w2 K0 Q else E0 := by
  obtain ⟨K, us, Y, hsl, _, hoth, hback⟩ := h.appY i hi
  refine step_app_sl slPt hg s y hop K (.slice a xs.length c) xs.length us hs (Sl.keep hsl fun k _ hl => hb.block k hl) _ 1 _ hx (rd_pt hrow) ptL_one (by unfold maxLen; omega) (by omega) ?_
  intro v' w' hs2 hf2
  obtain ⟨a2, c2, rfl⟩ := hs2.shape
  refine hK _ _ _ ?_
  have := hback w2 w' _ [x] _ hb hs2 hf2 ⟨fun _ => False, Y, fun _ f => f.elim, fun k hk => .inl hk, fun _ f => f.elim, Els.single (E := ePt) ⟨_, rfl, ByZ.below (hp Y hoth) hb⟩⟩
  rw [List.length_append]
  exact this
/-- a list of one packet, as a literal -/
theorem Held.lit_pt (h : Held F Z W ts w1) {x : Pt} {v : Value} (hp : ∀ Y, ByZ w1 Y v x.pay) : Held F Z W (tSq ePt 33 (.slice (some ⟨w1.heap.size, 0, none⟩) 1 1) [x] :: ts) (w1.alloc (ptCells x v)) := by
  refine (h.add (below_alloc w1 _) (T := tSq ePt 33 (.slice (some ⟨w1.heap.size, 0, none⟩) 1 1) [x]) ?_).front
  refine ⟨fun k => k = w1.heap.size, fun _ => False, ptL x v, fun k hk => by rcases hk with rfl | f; exact Nat.le_refl _; exact f.elim, fun _ _ f => f, fun k hk => by subst hk; simp, ?_, Els.single (E := ePt) ⟨v, rfl, (hp _).below (below_alloc w1 _)⟩⟩
  exact ⟨rfl, .inr ⟨w1.heap.size, 0, 1, (ptL x v).toArray, rfl, rfl, heap_alloc_new w1 _, Nat.le_refl _, by unfold maxLen; omega, by simp [ePt], rfl⟩⟩
end
theorem pt_at {w : World} {Z : BS} {a : Option Addr} {n c : Nat} {l : List Pt} (h : RdS ePt w Z (.slice a n c) l) {i : Nat} {x : Pt} (hi : l[i]? = some x) :
    ∃ b off pa pc, a = some ⟨b, off, none⟩ ∧ ByZ w Z (.slice pa x.pay.length pc) x.pay ∧ w.cell? ⟨b, off + i * 5, none⟩ = some (.int .u8 (U x.kind)) ∧ w.cell? ⟨b, off + i * 5 + 1, none⟩ = some (.int .i64 x.cls) ∧ w.cell? ⟨b, off + i * 5 + 2, none⟩ = some (.int .i64 x.number) ∧ w.cell? ⟨b, off + i * 5 + 3, none⟩ = some (.int .i64 x.value) ∧ w.cell? ⟨b, off + i * 5 + 4, none⟩ = some (.slice pa x.pay.length pc) := by
  obtain ⟨b, off, cs, e, _, ⟨v, rfl, hv⟩, hc⟩ := h.at (by decide) hi
  obtain ⟨pa, pc, rfl⟩ := hv.slice
  exact ⟨b, off, pa, pc, e, hv, hc 0 _ rfl, hc 1 _ rfl, hc 2 _ rfl, hc 3 _ rfl, hc 4 _ rfl⟩
end Go.Proofs.Ytcocnfbhileheaa
