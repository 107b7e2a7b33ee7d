/- Appends to lists that are held: bytes, segments, confirmations, bookings; an empty slice with room. No condition on the program. -/
import Derived.Test.YtbibippdafnenaaWaR
import Derived.Test.YtbibippdafnenaaReg
namespace Go.Proofs.Ytbibippdafnenaa
open Go.RowKit
set_option maxRecDepth 100000

theorem slB : SlT Try.prog 30 5 (.int .u8 0) 1 1 := ⟨Try.underlying30, info_parts (by kernel_rfl), rfl, by decide⟩
theorem slSeg : SlT Try.prog 31 50 (.agg #[.int .i64 0, .slice none 0 0, .bool false]) 3 40 := ⟨Try.underlying31, info_parts (by kernel_rfl), rfl, by decide⟩
theorem slAk : SlT Try.prog 32 58 (.agg #[.int .i64 0, .int .i64 0]) 2 16 := ⟨Try.underlying32, info_parts (by kernel_rfl), rfl, by decide⟩
theorem slBool : SlT Try.prog 33 4 (.bool false) 1 1 := ⟨Try.underlying33, info_parts (by kernel_rfl), rfl, by decide⟩
theorem slEnt : SlT Try.prog 65 45 (.agg #[.int .i64 0, .int .i64 0, .int .i64 0, .int .i64 0, .int .i64 0]) 5 40 := ⟨Try.underlying65, info_parts (by kernel_rfl), rfl, by decide⟩
theorem rd_lit (w : World) (g s n : Nat) (us : List Value) (T : TypeId) (f : Nat × Nat) (hg : g = w.heap.size) (hs : us.length = n * s) (hn : n ≤ 1000) : Rd (w.alloc (.cells us.toArray T f)) s (.slice (some ⟨g, 0, none⟩) n n) n us := by
  subst hg
  refine ⟨hs, _, _, rfl, Nat.le_refl _, by unfold maxLen; omega, (fun e => by cases e), fun b hb j u hj => ?_⟩
  obtain rfl := Option.some.inj hb
  refine ⟨rfl, ?_⟩
  have h0 : (w.alloc (.cells us.toArray T f)).heap[w.heap.size]? = some (.cells us.toArray T f) := heap_alloc_new w _
  simp only [World.cell?, h0, Nat.zero_add]
  simpa using hj
/-- an empty slice with room -/
theorem wpList_mk0 {α : Type} {E : El α} {P : Program} {t e : TypeId} {z : Value} {bytes : Nat} (S : SlT P t e z E.size bytes)
    {w : World} {ops : Array Oper} {rest : List Oper} {o : Oper} {a : Act} {Q : Exit → Act → World → Prop}
    (hg : o.guard = none) (l c : Operand) (hop : o.op = Op.makeSlice t l c) (n : Nat) (hl : a.eval l = .int .i64 0) (hc : a.eval c = .int .i64 (n : Int)) (b2 : bytes * n ≤ 281474976710656) (b3 : n ≤ maxLen)
    (hK : ∀ w', Below w.heap.size w w' → Sq E e w' (fun k => w.heap.size ≤ k) (fun _ => False) (.slice (some ⟨w.heap.size, 0, none⟩) 0 n) [] → wpList P ops Q rest (a.put o.dst (.slice (some ⟨w.heap.size, 0, none⟩) 0 n)) w') :
    wpList P ops Q (o :: rest) a w := by
  obtain ⟨i, hi, hz, hsz, hby⟩ := S.info
  refine wpList_make_own w hg l c t hop w.heap.size e i z E.size S.under hi hz hsz .i64 .i64 (n : Int) n hl hc rfl (by rw [hby]; exact b2) b3 (Nat.le_refl _) fun w' hown hgr => ?_
  refine hK w' ((Below.refl w.heap.size w).grown hgr (Nat.le_refl _) (fun k e => by cases e)) ?_
  have hsl : Sl w' (fun k => w.heap.size ≤ k) e E.size (.slice (some ⟨w.heap.size, 0, none⟩) 0 n) 0 [] := Sl.of_own hown fun _ h => h
  exact ⟨fun k => w.heap.size ≤ k ∧ k < w'.heap.size, fun _ => False, [], fun k hk => hk.elim (·.1) False.elim, fun _ _ f => f, fun k hk => hk.2, hsl.bound, rfl⟩
section
variable {F Z : BS} {W w : World} {ts : List Th} {ops : Array Oper} {rest : List Oper} {o : Oper} {ac : Act} {Q : Exit → Act → World → Prop}
theorem wpList_appE {α : Type} {E : El α} {t T : TypeId} {z : Value} {bytes : Nat} (S : SlT Try.prog t T z E.size bytes) (hby : bytes ≤ 40) {a : Option Addr} {c n : Nat} {xs : List α}
    (hg : o.guard = none) (s x : Operand) (hop : o.op = Op.call { callee := Callee.builtin Builtin.append, args := #[s, x], argTypes := #[t, t] })
    (h : Held F Z W ts w) (i : Nat) (hi : ts[i]? = some (tSq E T (.slice a n c) xs)) (hl : xs.length ≤ 100000) (hs : ac.eval s = .slice a n c) (y : Value) (ys : List α) (hyl : ys.length ≤ 100000) (news : List Value) (hx : ac.eval x = y) (hr : Rd w E.size y ys.length news) (h1 : ∀ u ∈ news, u.oneCell' = true)
    (hN : ∀ Y : BS, Others ts i w Y → ∃ X : BS, (∀ k, X k → Y k ∨ w.heap.size ≤ k) ∧ Els E w (fun _ => False) X news ys)
    (hK : ∀ a' c' w3, Held F Z W (ts.set i (tSq E T (.slice a' (xs ++ ys).length c') (xs ++ ys))) w3 → Fr (fun k => ¬ ∃ j T', j ≠ i ∧ ts[j]? = some T' ∧ ∀ H Y, T'.on w H Y → H k ∨ Y k) w w3 → wpList Try.prog ops Q rest (ac.put o.dst (.slice a' (xs ++ ys).length c')) w3) : wpList Try.prog ops Q (o :: rest) ac w := by
  obtain ⟨K, us, hsl, hKn, hback⟩ := h.app i hi
  have hb1 : (xs.length + ys.length) * bytes ≤ 200000 * 40 := Nat.mul_le_mul (by omega) hby
  refine wpList_apps S hg s x hop K _ xs.length us hs hsl y ys.length news hx hr h1 (by unfold maxLen; omega) (by omega) fun v' w' hs2 hf2 => ?_
  obtain ⟨a', c', e⟩ := hs2.shape
  rw [← List.length_append] at e
  subst e
  refine hK a' c' w' (hback w w' news ys _ (Below.refl _ _) hs2 hf2 fun Y ho => ?_) (hf2.mono fun k hk ⟨j, T', hj, hT, hc⟩ => hKn k j T' hj hT hc hk)
  obtain ⟨X, h2, h3⟩ := hN Y ho
  exact ⟨fun _ => False, X, fun _ f => f.elim, h2, fun _ f => f.elim, h3⟩
/-- .. as a step of a region whose order is open -/
theorem step_appE {α : Type} {E : El α} {t T : TypeId} {z : Value} {bytes : Nat} (S : SlT Try.prog t T z E.size bytes) (hby : bytes ≤ 40) {a : Option Addr} {c n : Nat} {xs : List α} {K0 : Act → World → Prop} {E0 : Prop}
    (hg : o.guard = none) (s x : Operand) (hop : o.op = Op.call { callee := Callee.builtin Builtin.append, args := #[s, x], argTypes := #[t, t] })
    (h : Held F Z W ts w) (i : Nat) (hi : ts[i]? = some (tSq E T (.slice a n c) xs)) (hl : xs.length ≤ 100000) (hs : ac.eval s = .slice a n c) (y : Value) (ys : List α) (hyl : ys.length ≤ 100000) (news : List Value) (hx : ac.eval x = y) (hr : Rd w E.size y ys.length news) (h1 : ∀ u ∈ news, u.oneCell' = true)
    (hN : ∀ Y : BS, Others ts i w Y → ∃ X : BS, (∀ k, X k → Y k ∨ w.heap.size ≤ k) ∧ Els E w (fun _ => False) X news ys)
    (hK : ∀ a' c' w3, Held F Z W (ts.set i (tSq E T (.slice a' (xs ++ ys).length c') (xs ++ ys))) w3 → K0 (ac.put o.dst (.slice a' (xs ++ ys).length c')) w3) : if Region.wanted o (yielded ops ac.tmps) = true then Oper.wp Try.prog o ac w K0 Q else E0 := by
  obtain ⟨K, us, hsl, hKn, hback⟩ := h.app i hi
  have hb1 : (xs.length + ys.length) * bytes ≤ 200000 * 40 := Nat.mul_le_mul (by omega) hby
  refine step_app_sl S hg s x hop K _ xs.length us hs hsl y ys.length news hx hr h1 (by unfold maxLen; omega) (by omega) fun v' w' hs2 hf2 => ?_
  obtain ⟨a', c', e⟩ := hs2.shape
  rw [← List.length_append] at e
  subst e
  refine hK a' c' w' (hback w w' news ys _ (Below.refl _ _) hs2 hf2 fun Y ho => ?_)
  obtain ⟨X, h2, h3⟩ := hN Y ho
  exact ⟨fun _ => False, X, fun _ f => f.elim, h2, fun _ f => f.elim, h3⟩
end
end Go.Proofs.Ytbibippdafnenaa
