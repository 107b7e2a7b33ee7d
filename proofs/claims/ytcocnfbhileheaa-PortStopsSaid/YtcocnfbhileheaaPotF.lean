/- A slice literal of bytes, held; small things for the walks of the laws of ports. -/
import Derived.Test.YtcocnfbhileheaaPotE
namespace Go.Proofs.Ytcocnfbhileheaa
open Go.RowKit

theorem alloc_second (w : World) (o o' : Obj) : ((w.alloc o).alloc o').heap[w.heap.size + 1]? = some o' := by
  have := heap_alloc_new (w.alloc o) o'
  rwa [World.size_alloc] at this
theorem two_rooms {w : World} {rb a b : Nat} {T : TypeId} (h : w.heap[rb]? = some (.cells #[.int .i64 (a : Int), .int .i64 (b : Int)] T)) : ∀ (k x : Nat), [a, b][k]? = some x → w.cell? ⟨rb, 0 + k, none⟩ = some (.int .i64 (x : Int)) := fun k x hk => by
  match k, hk with
  | 0, hk => obtain rfl : a = x := by simpa using hk
             exact blk_cell (i := 0) h rfl
  | 1, hk => obtain rfl : b = x := by simpa using hk
             exact blk_cell (i := 1) h rfl
  | k + 2, hk => simp at hk
/-- one byte in a new block -/
theorem by_one {w : World} {vb : Nat} {x : BitVec 8} {T : TypeId} (hrow : w.heap[vb]? = some (.cells #[.int .u8 (U x)] T)) : By w (.slice (some ⟨vb, 0, none⟩) 1 1) [x] := by
  refine ⟨rfl, some ⟨vb, 0, none⟩, 1, rfl, Nat.le_refl _, by unfold maxLen; omega, (fun e => by cases e), fun b hb k u hk => ?_⟩
  obtain rfl := Option.some.inj hb
  refine ⟨rfl, ?_⟩
  simp only [World.cell?, hrow, Nat.zero_add]
  simpa [cu] using hk
theorem Held.lit_by {F Z : BS} {W w : World} {ts : List Th} (h : Held F Z W ts w) (x : BitVec 8) (T : TypeId) : Held F Z W (ts ++ [tBy (.slice (some ⟨w.heap.size, 0, none⟩) 1 1) [x]]) (w.alloc (.cells #[.int .u8 (U x)] T)) :=
  h.addZ (below_alloc w _) (T := tBy (.slice (some ⟨w.heap.size, 0, none⟩) 1 1) [x]) ⟨by_one (heap_alloc_new w _), fun _ b hb => by obtain rfl := Option.some.inj hb; exact Nat.le_refl _⟩
section
variable {F Z : BS} {W w1 : World} {ts : List Th}
/-- a list without elements, as a literal -/
theorem Held.lit0_pt (h : Held F Z W ts w1) : Held F Z W (tSq ePt 33 (.slice (some ⟨w1.heap.size, 0, none⟩) 0 0) [] :: ts) (w1.alloc (.cells #[] 33)) := by
  refine (h.add (below_alloc w1 _) (T := tSq ePt 33 (.slice (some ⟨w1.heap.size, 0, none⟩) 0 0) []) ?_).front
  refine ⟨fun k => k = w1.heap.size, fun _ => False, [], fun k hk => by rcases hk with rfl | f; exact Nat.le_refl _; exact f.elim, fun _ _ f => f, fun k hk => by subst hk; simp, ?_, rfl⟩
  exact ⟨rfl, .inr ⟨w1.heap.size, 0, 0, #[], rfl, rfl, heap_alloc_new w1 _, Nat.le_refl _, Nat.zero_le _, by simp, rfl⟩⟩
/-- packets that are read, put behind a list that is held -/
theorem wpList_app_pts {ops : Array Oper} {rest : List Oper} {o : Oper} {ac : Act} {Q : Exit → Act → World → Prop} {a : Option Addr} {c : Nat} {xs ys : List Pt} {yv : Value}
    (hg : o.guard = none) (s y : Operand) (hop : o.op = Op.call { callee := Callee.builtin Builtin.append, args := #[s, y], argTypes := #[22, 22] })
    (h : Held F Z W ts w1) (i : Nat) (hi : ts[i]? = some (tSq ePt 33 (.slice a xs.length c) xs)) (j : Nat) (hj : ts[j]? = some (tRd ePt yv ys)) (hij : j ≠ i) (hl : xs.length + ys.length ≤ 1000000) (hs : ac.eval s = .slice a xs.length c) (hx : ac.eval y = yv)
    (hK : ∀ a' c' w3, Held F Z W (ts.set i (tSq ePt 33 (.slice a' (xs ++ ys).length c') (xs ++ ys))) w3 → wpList Try.prog ops Q rest (ac.put o.dst (.slice a' (xs.length + ys.length) c')) w3) : wpList Try.prog ops Q (o :: rest) ac w1 := by
  obtain ⟨K, us, Y, hsl, _, hoth, hback⟩ := h.appY i hi
  obtain ⟨H, _, hr⟩ := hoth j _ hij hj
  obtain ⟨vs, hrd, hels, _⟩ := show RdS ePt w1 Y yv ys from hr
  refine wpList_apps slPt hg s y hop K (.slice a xs.length c) xs.length us hs hsl yv ys.length vs hx hrd hels.one (by unfold maxLen; omega) (by omega) ?_
  intro v' w' hs2 hf2
  obtain ⟨a2, c2, rfl⟩ := hs2.shape
  refine hK _ _ _ ?_
  have := hback w1 w' vs ys _ (Below.refl _ _) hs2 hf2 ⟨fun _ => False, Y, fun _ f => f.elim, fun k hk => .inl hk, fun _ f => f.elim, hels⟩
  rw [List.length_append]
  exact this
end
theorem stl1_eq : { stl0 with waiting := stl0.waiting.set 0 (stl0.waiting.getD 0 [] ++ [[1#8]]) } = stl1 := rfl
end Go.Proofs.Ytcocnfbhileheaa
