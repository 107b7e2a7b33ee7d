/- Lemmas on memory: slices that are read, slices that a call owns, and the laws of append and make in their words. No condition on the program. -/
import Derived.WalkKit
import Derived.WalkSpells
import Derived.Laws.AppendOwnNone
import Derived.Lib.Hide
import Derived.Test.YtdmfjmdnkfeljaaDoorBv
namespace Go.Proofs.YtdmfjmdnkfeljaaDoor
open Go.RowKit

/-- the facts on a slice type: its element's type, zero value, cells and bytes -/
structure SlT (P : Program) (t e : TypeId) (z : Value) (size bytes : Nat) : Prop where
  under : P.underlying t = some (.slice e)
  info : ∃ i, P.info? e = some i ∧ i.zero = some z ∧ i.size = size ∧ i.bytes = bytes
  zs : z.cells.size = size
  pos : 0 < size

/-- a slice value of n elements that reads as the cells us -/
def Rd (w : World) (size : Nat) (v : Value) (n : Nat) (us : List Value) : Prop :=
  us.length = n * size ∧ ∃ a cap, v = .slice a n cap ∧ n ≤ cap ∧ cap ≤ maxLen ∧ (a = none → n = 0 ∧ cap = 0) ∧
    ∀ b, a = some b → ∀ j u, us[j]? = some u → b.spot = none ∧ w.cell? ⟨b.block, b.off + j, none⟩ = some u

theorem add_eq (b : Addr) (j : Nat) (h : b.spot = none) : b.add j = ⟨b.block, b.off + j, none⟩ := by
  unfold Addr.add; split
  · rename_i e; subst e; cases b; simp_all
  · rfl

theorem Rd.of_own {w : World} {base : Nat} {e : TypeId} {size : Nat} {v : Value} {n : Nat} {us : List Value} (h : w.ownsRow base e size v n us) : Rd w size v n us := by
  have hc := fun (g : Nat) => h.cells (g := g)
  obtain ⟨hl, h | ⟨g, cap, cur, rfl, hb, hg, hn, hm, hs, ht⟩⟩ := h
  · obtain ⟨rfl, rfl⟩ := h
    exact ⟨hl, none, 0, rfl, Nat.le_refl _, Nat.zero_le _, fun _ => ⟨rfl, rfl⟩, fun b hb => by cases hb⟩
  · refine ⟨hl, some ⟨g, 0, none⟩, cap, rfl, hn, hm, (fun h => by cases h), fun b hb => ?_⟩
    obtain rfl := Option.some.inj hb
    exact fun j u hj => ⟨rfl, by have := hc g rfl j u hj; rwa [add_eq _ _ rfl] at this⟩

theorem Rd.keep {w w' : World} {size : Nat} {v : Value} {n : Nat} {us : List Value} (h : Rd w size v n us)
    (hk : ∀ k, v.ownBlock = some k → k < w.heap.size → w'.heap[k]? = w.heap[k]?) : Rd w' size v n us := by
  obtain ⟨hl, a, cap, rfl, h1, h2, h3, h4⟩ := h
  refine ⟨hl, a, cap, rfl, h1, h2, h3, fun b hb j u hj => ⟨(h4 b hb j u hj).1, ?_⟩⟩
  have hc := (h4 b hb j u hj).2
  have hlt := World.block_lt_of_cell? w _ hc
  subst hb
  exact (World.cell?_of_block (a := ⟨b.block, b.off + j, none⟩) (hk b.block rfl hlt)).trans hc
theorem Rd.below {w w' : World} {size : Nat} {v : Value} {n : Nat} {us : List Value} (h : Rd w size v n us) (hb : Below w.heap.size w w') : Rd w' size v n us :=
  h.keep fun k _ hk => hb.block k hk
theorem Rd.grown {w w' : World} {size : Nat} {v : Value} {n : Nat} {us : List Value} (h : Rd w size v n us) {row : Option Nat} (hg : w.grownBy w' row) (hne : ∀ k, v.ownBlock = some k → row ≠ some k) : Rd w' size v n us :=
  h.keep fun k e hk => hg.block k hk fun e' => hne k e e'.symm

/-- append of a slice that reads as news to an owned one -/
theorem wpList_app {P : Program} {t e : TypeId} {z : Value} {size bytes : Nat} (S : SlT P t e z size bytes) {w : World} {ops : Array Oper} {rest : List Oper} {o : Oper} {a : Act} {Q : Exit → Act → World → Prop}
    (hg : o.guard = none) (s x : Operand) (hop : o.op = Op.call { callee := Callee.builtin Builtin.append, args := #[s, x], argTypes := #[t, t] })
    (base : Nat) (v : Value) (n : Nat) (xs : List Value) (hs : a.eval s = v) (hown : w.ownsRow base e size v n xs)
    (y : Value) (m : Nat) (news : List Value) (hx : a.eval x = y) (hr : Rd w size y m news) (h1 : ∀ u ∈ news, u.oneCell' = true)
    (b1 : n + m ≤ maxLen) (b2 : (n + m) * bytes ≤ 140737488355328) (b3 : base ≤ w.heap.size)
    (hK : ∀ v' w', w'.ownsRow base e size v' (n + m) (xs ++ news) → w.grownBy w' v.ownBlock → (v' = .slice none 0 0 ↔ v = .slice none 0 0 ∧ m = 0) → wpList P ops Q rest (a.put o.dst v') w') :
    wpList P ops Q (o :: rest) a w := by
  obtain ⟨i, hi, hz, hsz, hby⟩ := S.info
  obtain ⟨hl, ad, cap, rfl, h2, h3, h4, h5⟩ := hr
  cases ad with
  | none =>
    obtain ⟨rfl, rfl⟩ := h4 rfl
    have : news = [] := List.eq_nil_of_length_eq_zero (by simpa using hl)
    subst this
    refine wpList_append_own_none (P := P) hg s x t hop base e i size S.under hi v n xs hs hown hx (hK v w (by simpa using hown) ⟨rfl, rfl, rfl, Nat.le_refl _, fun _ _ _ => rfl⟩ (by simp))
  | some ad =>
    exact wpList_append_own (P := P) w hg s x t hop base e i z size bytes S.under hi hz hsz hby S.zs S.pos v n xs hs hown ad m cap news hx hl
      (fun j u hj => by have := (h5 ad rfl j u hj).2; rwa [add_eq _ _ (h5 ad rfl j u hj).1]) h1 b1 b2 b3 hK

/-- make of an empty slice with room -/
theorem wpList_mk {P : Program} {t e : TypeId} {z : Value} {size bytes : Nat} (S : SlT P t e z size bytes) {w : World} {ops : Array Oper} {rest : List Oper} {o : Oper} {a : Act} {Q : Exit → Act → World → Prop}
    (hg : o.guard = none) (l c : Operand) (hop : o.op = Op.makeSlice t l c) (base : Nat) (C : Int) (hl : a.eval l = .int .i64 0) (hc : a.eval c = .int .i64 C)
    (b0 : 0 ≤ C) (b2 : C * bytes ≤ 281474976710656) (b3 : C ≤ maxLen) (b4 : base ≤ w.heap.size)
    (hK : ∀ w', w'.ownsRow base e size (.slice (some ⟨w.heap.size, 0, none⟩) 0 C.toNat) 0 [] → w.grownBy w' none → wpList P ops Q rest (a.put o.dst (.slice (some ⟨w.heap.size, 0, none⟩) 0 C.toNat)) w') :
    wpList P ops Q (o :: rest) a w := by
  obtain ⟨i, hi, hz, hsz, hby⟩ := S.info
  obtain ⟨n, rfl⟩ := Int.eq_ofNat_of_zero_le b0
  refine wpList_make_own w hg l c t hop base e i z size S.under hi hz hsz .i64 .i64 (n : Int) n hl hc rfl ?_ (by omega) b4 hK
  rw [hby, Nat.mul_comm]
  have : ((n * bytes : Nat) : Int) ≤ 281474976710656 := by rw [Int.natCast_mul]; exact b2
  omega

/-- make of n elements of one cell each -/
theorem wpList_mkfull {P : Program} {t e : TypeId} {z : Value} {bytes : Nat} (S : SlT P t e z 1 bytes) (hzz : z.cells = #[z]) {w : World} {ops : Array Oper} {rest : List Oper} {o : Oper} {a : Act} {Q : Exit → Act → World → Prop}
    (hg : o.guard = none) (l c : Operand) (hop : o.op = Op.makeSlice t l c) (base : Nat) (n : Nat) (hl : a.eval l = .int .i64 (n : Int)) (hc : a.eval c = .int .i64 (n : Int))
    (b2 : bytes * n ≤ 281474976710656) (b3 : n ≤ maxLen) (b4 : base ≤ w.heap.size)
    (hK : ∀ w', w'.ownsRow base e 1 (.slice (some ⟨w.heap.size, 0, none⟩) n n) n (List.replicate n z) → w.grownBy w' none → wpList P ops Q rest (a.put o.dst (.slice (some ⟨w.heap.size, 0, none⟩) n n)) w') :
    wpList P ops Q (o :: rest) a w := by
  obtain ⟨i, hi, hz, hsz, hby⟩ := S.info
  refine wpList_make_full w hg l c t hop base e i z 1 S.under hi hz hsz .i64 .i64 (n : Int) (n : Int) n hl hc rfl rfl (by rw [hby]; exact b2) b3 b4 ?_
  rw [hzz, Nat.mul_one, toList_madeCells_one]
  exact hK

/-! ### bytes -/
def cu (bs : List (BitVec 8)) : List Value := bs.map fun x => .int .u8 (U x)
theorem cu_length (bs : List (BitVec 8)) : (cu bs).length = bs.length := by simp [cu]
theorem cu_app (a b : List (BitVec 8)) : cu a ++ cu b = cu (a ++ b) := by simp [cu]
theorem cu_one {bs : List (BitVec 8)} : ∀ u ∈ cu bs, u.oneCell' = true := by
  intro u hu; obtain ⟨x, _, rfl⟩ := List.mem_map.1 hu; rfl
/-- a slice value that reads as bytes -/
def By (w : World) (v : Value) (bs : List (BitVec 8)) : Prop := Rd w 1 v bs.length (cu bs)
/-- a slice value that owns a row of bytes from block base on -/
def Ow (T : TypeId) (w : World) (base : Nat) (v : Value) (bs : List (BitVec 8)) : Prop := w.ownsRow base T 1 v bs.length (cu bs)
theorem Ow.by {T : TypeId} {w : World} {base : Nat} {v : Value} {bs : List (BitVec 8)} (h : Ow T w base v bs) : By w v bs := Rd.of_own h
theorem By.below {w w' : World} {v : Value} {bs : List (BitVec 8)} (h : By w v bs) (hb : Below w.heap.size w w') : By w' v bs := Rd.below h hb
/-- a slice that reads as bytes: empty, or led to by an address -/
theorem By.cases {w : World} {v : Value} {bs : List (BitVec 8)} (h : By w v bs) :
    bs.length ≤ maxLen ∧ ((bs = [] ∧ ∃ a cap, v = .slice a 0 cap ∧ cap ≤ maxLen ∧ (a = none → cap = 0)) ∨
    ∃ b off cap, v = .slice (some ⟨b, off, none⟩) bs.length cap ∧ 0 < bs.length ∧ bs.length ≤ cap ∧ cap ≤ maxLen ∧ ∀ k, k < bs.length → w.cell? ⟨b, off + k, none⟩ = some (.int .u8 (U (bs.getD k 0)))) := by
  obtain ⟨_, a, cap, rfl, h1, h2, h3, h4⟩ := h
  refine ⟨Nat.le_trans h1 h2, ?_⟩
  by_cases h0 : bs.length = 0
  · have : bs = [] := List.eq_nil_of_length_eq_zero h0
    subst this
    exact .inl ⟨rfl, a, cap, rfl, h2, fun e => (h3 e).2⟩
  · have each : ∀ b, a = some b → ∀ k, k < bs.length → b.spot = none ∧ w.cell? ⟨b.block, b.off + k, none⟩ = some (.int .u8 (U (bs.getD k 0))) := by
      intro b hb k hk
      refine h4 b hb k _ ?_
      rw [cu, List.getElem?_map, List.getElem?_eq_getElem hk, Option.map_some]; simp [List.getD, hk]
    cases a with
    | none => exact absurd (h3 rfl).1 h0
    | some ad =>
      obtain ⟨b, off, spot⟩ := ad
      have hs : spot = none := (each _ rfl 0 (by omega)).1
      subst hs
      exact .inr ⟨b, off, cap, rfl, by omega, h1, h2, fun k hk => (each _ rfl k hk).2⟩
theorem By.of_nil (w : World) : By w (.slice none 0 0) [] := ⟨rfl, none, 0, rfl, Nat.le_refl _, Nat.zero_le _, fun _ => ⟨rfl, rfl⟩, fun b hb => by cases hb⟩
/-- cut at the end: b[:n] -/
theorem By.take {w : World} {a : Option Addr} {len cap : Nat} {bs : List (BitVec 8)} (h : By w (.slice a len cap) bs) {n : Nat} (hn : n ≤ len) : By w (.slice a n cap) (bs.take n) := by
  obtain ⟨_, a', cap', e, h1, h2, h3, h4⟩ := h
  obtain ⟨rfl, rfl, rfl⟩ : a = a' ∧ len = bs.length ∧ cap = cap' := by simpa using e
  have hl : (bs.take n).length = n := by rw [List.length_take]; omega
  refine ⟨by rw [cu_length]; omega, a, cap, by rw [hl], by omega, h2, fun e => ?_, fun b hb j u hj => h4 b hb j u ?_⟩
  · have := h3 e; omega
  · rw [cu, List.map_take, List.getElem?_take] at hj
    split at hj
    · exact hj
    · cases hj
end Go.Proofs.YtdmfjmdnkfeljaaDoor
