/- Several texts in one: Plain lemmas: the walk's operations on unsigned integers, read as operations of bit vectors (8 and 32 bits). No condition. Lemmas on memory: slices that are read, slices that a call owns, and the laws of append and make in their words. No condition on the program. Reading the arguments of a law: what each parameter's reading gives the walk; and reading them again behind the call. Memory with owners: what a call may change (Fr), slices with a place of their own (Sl), and append on them. No condition on the program. Strings made of bytes that are read. Blocks with labels: each block of memory belongs to one owner; a call on an owner's thing leaves the others' blocks as they were. No condition on the program. -/
import Derived.WalkKit
import Derived.WalkSpells
import Derived.Laws.AppendOwnNone
import Derived.Lib.Hide
import Derived.Test.YtbibippdafnenaaRows
import Derived.ProofKit
import Derived.OpenShut
import Derived.ShutString
import Derived.ChangeOld
import Derived.Below
import Derived.Deep.Draws
import Derived.Laws.BytesArg
/- Plain lemmas: the walk's operations on unsigned integers, read as operations of bit vectors (8 and 32 bits). No condition. -/
namespace Go.Proofs.Ytbibippdafnenaa
open Go.RowKit

/-- what a bit vector is as an integer of the model (a plain def, so that simp does not open it) -/
def U {n : Nat} (x : BitVec n) : Int := (x.toNat : Int)
theorem U_eq {n : Nat} (x : BitVec n) : U x = (x.toNat : Int) := rfl
@[go_sem] theorem U_nonneg {n : Nat} (x : BitVec n) : 0 ≤ U x := by unfold U; omega
theorem U_lt32 (x : BitVec 32) : U x < 4294967296 := by have : x.toNat < 4294967296 := x.isLt; unfold U; omega
theorem U_lt8 (x : BitVec 8) : U x < 256 := by have : x.toNat < 256 := x.isLt; unfold U; omega
theorem U_lt16 (x : BitVec 16) : U x < 65536 := by have : x.toNat < 65536 := x.isLt; unfold U; omega
theorem U_inj {n : Nat} {x y : BitVec n} : U x = U y ↔ x = y := by
  unfold U; rw [Int.ofNat_inj]; exact ⟨BitVec.eq_of_toNat_eq, congrArg _⟩
theorem bv_ofInt {n : Nat} (x : BitVec n) : BitVec.ofInt n (U x) = x := by
  unfold U; rw [BitVec.ofInt_natCast]; simp
theorem ofInt_U {n : Nat} (z : Int) (h0 : 0 ≤ z) (h1 : z < 2 ^ n) : U (BitVec.ofInt n z) = z := by
  unfold U
  have e : (2 : Int) ^ n = ((2 ^ n : Nat) : Int) := by simp
  rw [BitVec.toNat_ofInt, ← e, Int.emod_eq_of_lt h0 h1, Int.toNat_of_nonneg h0]
@[go_sem] theorem wrap_u32_bv (x : BitVec 32) : IntKind.u32.wrap (U x) = U x := by
  rw [IntKind.wrap_u32]; have := U_lt32 x; have := U_nonneg x; omega
@[go_sem] theorem wrap_u8_bv (x : BitVec 8) : IntKind.u8.wrap (U x) = U x := by
  rw [IntKind.wrap_u8]; have := U_lt8 x; have := U_nonneg x; omega
@[go_sem] theorem U_eq_dec {n : Nat} (x y : BitVec n) : (U x == U y) = (x == y) := by
  rw [Bool.eq_iff_iff]; simp [U_inj]
@[go_sem] theorem U_ne_dec {n : Nat} (x y : BitVec n) : (U x != U y) = (x != y) := by
  unfold bne; rw [U_eq_dec]

theorem bits_u32 (x y : BitVec 32) : bits .xor .u32 (U x) (U y) = U (x ^^^ y) ∧ bits .and .u32 (U x) (U y) = U (x &&& y) ∧ bits .or .u32 (U x) (U y) = U (x ||| y) := by
  refine ⟨?_, ?_, ?_⟩
  · show IntKind.u32.wrap ((BitVec.ofInt 32 (U x) ^^^ BitVec.ofInt 32 (U y)).toNat : Int) = _
    rw [bv_ofInt, bv_ofInt, ← U_eq, wrap_u32_bv]
  · show IntKind.u32.wrap ((BitVec.ofInt 32 (U x) &&& BitVec.ofInt 32 (U y)).toNat : Int) = _
    rw [bv_ofInt, bv_ofInt, ← U_eq, wrap_u32_bv]
  · show IntKind.u32.wrap ((BitVec.ofInt 32 (U x) ||| BitVec.ofInt 32 (U y)).toNat : Int) = _
    rw [bv_ofInt, bv_ofInt, ← U_eq, wrap_u32_bv]
@[go_sem] theorem xor_u32_bv (x y : BitVec 32) : bits .xor .u32 (U x) (U y) = U (x ^^^ y) := (bits_u32 x y).1
@[go_sem] theorem and_u32_bv (x y : BitVec 32) : bits .and .u32 (U x) (U y) = U (x &&& y) := (bits_u32 x y).2.1
@[go_sem] theorem or_u32_bv (x y : BitVec 32) : bits .or .u32 (U x) (U y) = U (x ||| y) := (bits_u32 x y).2.2
@[go_sem] theorem and15_u32_bv (x : BitVec 32) : bits .and .u32 (U x) 15 = U (x &&& 15#32) := and_u32_bv x 15#32
@[go_sem] theorem and1_u32_bv (x : BitVec 32) : bits .and .u32 (U x) 1 = U (x &&& 1#32) := and_u32_bv x 1#32
@[go_sem] theorem xorp_u32_bv (x : BitVec 32) : bits .xor .u32 (U x) 3988292384 = U (x ^^^ 3988292384#32) := xor_u32_bv x 3988292384#32
@[go_sem] theorem xorm_u32_bv (x : BitVec 32) : bits .xor .u32 (U x) 4294967295 = U (~~~x) := by
  have h := xor_u32_bv x 4294967295#32
  have e : x ^^^ 4294967295#32 = ~~~x := by
    have : (4294967295#32 : BitVec 32) = BitVec.allOnes 32 := by decide
    rw [this, BitVec.xor_allOnes]
  rw [e] at h; exact h
@[go_sem] theorem not_u32_bv (x : BitVec 32) : bits .xor .u32 IntKind.u32.max (U x) = U (~~~x) := by
  have e : IntKind.u32.max = U (BitVec.allOnes 32) := by decide
  rw [e, xor_u32_bv, BitVec.xor_comm, BitVec.xor_allOnes]
@[go_sem] theorem shr4_u32_bv (x : BitVec 32) : U x / 16 = U (x >>> 4) := by
  unfold U; rw [BitVec.toNat_ushiftRight, Nat.shiftRight_eq_div_pow]; rfl
@[go_sem] theorem shr1_u32_bv (x : BitVec 32) : U x / 2 = U (x >>> 1) := by
  unfold U; rw [BitVec.toNat_ushiftRight, Nat.shiftRight_eq_div_pow]; rfl
@[go_sem] theorem u8_u32_bv (x : BitVec 8) : U x % 4294967296 = U (x.setWidth 32) := by
  unfold U; rw [BitVec.toNat_setWidth]; rfl
@[go_sem] theorem wrap_u32_u8_bv (x : BitVec 8) : IntKind.u32.wrap (U x) = U (x.setWidth 32) := by
  rw [IntKind.wrap_u32]; exact u8_u32_bv x
@[go_sem] theorem u8_mod (x : BitVec 8) : U x % 256 = U x := by have := U_lt8 x; have := U_nonneg x; omega
@[go_sem] theorem u32_mod (x : BitVec 32) : U x % 4294967296 = U x := by have := U_lt32 x; have := U_nonneg x; omega
/-- a bit vector as an index (a plain def, so that simp does not open it) -/
def N {n : Nat} (x : BitVec n) : Nat := x.toNat
@[go_sem] theorem U_toNat {n : Nat} (x : BitVec n) : (U x).toNat = N x := by unfold U N; omega
theorem U_N {n : Nat} (x : BitVec n) : U x = (N x : Int) := rfl
theorem shr_u32_4 (yk : IntKind) (x : BitVec 32) : Op.shift .shr .u32 (U x) yk 4 = pure (.int .u32 (U (x >>> 4))) := by
  rw [shift_shr .u32 yk (U x) 4 (by decide) (by decide), ← shr4_u32_bv]; rfl
theorem shr_u32_1 (yk : IntKind) (x : BitVec 32) : Op.shift .shr .u32 (U x) yk 1 = pure (.int .u32 (U (x >>> 1))) := by
  rw [shift_shr .u32 yk (U x) 1 (by decide) (by decide), ← shr1_u32_bv]; rfl
attribute [go_sem ↓ high] shr_u32_4 shr_u32_1
theorem bits_u8 (x y : BitVec 8) : bits .xor .u8 (U x) (U y) = U (x ^^^ y) ∧ bits .and .u8 (U x) (U y) = U (x &&& y) ∧ bits .or .u8 (U x) (U y) = U (x ||| y) := by
  refine ⟨?_, ?_, ?_⟩
  · show IntKind.u8.wrap ((BitVec.ofInt 8 (U x) ^^^ BitVec.ofInt 8 (U y)).toNat : Int) = _
    rw [bv_ofInt, bv_ofInt, ← U_eq, wrap_u8_bv]
  · show IntKind.u8.wrap ((BitVec.ofInt 8 (U x) &&& BitVec.ofInt 8 (U y)).toNat : Int) = _
    rw [bv_ofInt, bv_ofInt, ← U_eq, wrap_u8_bv]
  · show IntKind.u8.wrap ((BitVec.ofInt 8 (U x) ||| BitVec.ofInt 8 (U y)).toNat : Int) = _
    rw [bv_ofInt, bv_ofInt, ← U_eq, wrap_u8_bv]
@[go_sem] theorem xor_u8_bv (x y : BitVec 8) : bits .xor .u8 (U x) (U y) = U (x ^^^ y) := (bits_u8 x y).1
end Go.Proofs.Ytbibippdafnenaa

/- Lemmas on memory: slices that are read, slices that a call owns, and the laws of append and make in their words. No condition on the program. -/
namespace Go.Proofs.Ytbibippdafnenaa
open Go.RowKit

/-- the facts on a slice type: its element's type, zero value, cells and bytes -/
structure SlT (P : Program) (t e : TypeId) (z : Value) (size bytes : Nat) : Prop where
  under : P.underlying t = some (.slice e)
  info : ∃ i, P.info? e = some i ∧ i.zero = some z ∧ i.size = size ∧ i.bytes = bytes
  zs : z.cells.size = size
  pos : 0 < size

/-- a slice value of n elements that reads as the cells us -/
def Rd (w : World) (size : Nat) (v : Value) (n : Nat) (us : List Value) : Prop :=
  us.length = n * size ∧ ∃ a cap, v = .slice a n cap ∧ n ≤ cap ∧ cap ≤ maxLen ∧ (a = none → n = 0 ∧ cap = 0) ∧
    ∀ b, a = some b → ∀ j u, us[j]? = some u → b.spot = none ∧ w.cell? ⟨b.block, b.off + j, none⟩ = some u

theorem add_eq (b : Addr) (j : Nat) (h : b.spot = none) : b.add j = ⟨b.block, b.off + j, none⟩ := by
  unfold Addr.add; split
  · rename_i e; subst e; cases b; simp_all
  · rfl

theorem Rd.of_own {w : World} {base : Nat} {e : TypeId} {size : Nat} {v : Value} {n : Nat} {us : List Value} (h : w.ownsRow base e size v n us) : Rd w size v n us := by
  have hc := fun (g : Nat) => h.cells (g := g)
  obtain ⟨hl, h | ⟨g, cap, cur, rfl, hb, hg, hn, hm, hs, ht⟩⟩ := h
  · obtain ⟨rfl, rfl⟩ := h
    exact ⟨hl, none, 0, rfl, Nat.le_refl _, Nat.zero_le _, fun _ => ⟨rfl, rfl⟩, fun b hb => by cases hb⟩
  · refine ⟨hl, some ⟨g, 0, none⟩, cap, rfl, hn, hm, (fun h => by cases h), fun b hb => ?_⟩
    obtain rfl := Option.some.inj hb
    exact fun j u hj => ⟨rfl, by have := hc g rfl j u hj; rwa [add_eq _ _ rfl] at this⟩

theorem Rd.keep {w w' : World} {size : Nat} {v : Value} {n : Nat} {us : List Value} (h : Rd w size v n us)
    (hk : ∀ k, v.ownBlock = some k → k < w.heap.size → w'.heap[k]? = w.heap[k]?) : Rd w' size v n us := by
  obtain ⟨hl, a, cap, rfl, h1, h2, h3, h4⟩ := h
  refine ⟨hl, a, cap, rfl, h1, h2, h3, fun b hb j u hj => ⟨(h4 b hb j u hj).1, ?_⟩⟩
  have hc := (h4 b hb j u hj).2
  have hlt := World.block_lt_of_cell? w _ hc
  subst hb
  exact (World.cell?_of_block (a := ⟨b.block, b.off + j, none⟩) (hk b.block rfl hlt)).trans hc
theorem Rd.below {w w' : World} {size : Nat} {v : Value} {n : Nat} {us : List Value} (h : Rd w size v n us) (hb : Below w.heap.size w w') : Rd w' size v n us :=
  h.keep fun k _ hk => hb.block k hk
theorem Rd.grown {w w' : World} {size : Nat} {v : Value} {n : Nat} {us : List Value} (h : Rd w size v n us) {row : Option Nat} (hg : w.grownBy w' row) (hne : ∀ k, v.ownBlock = some k → row ≠ some k) : Rd w' size v n us :=
  h.keep fun k e hk => hg.block k hk fun e' => hne k e e'.symm

/-- append of a slice that reads as news to an owned one -/
theorem wpList_app {P : Program} {t e : TypeId} {z : Value} {size bytes : Nat} (S : SlT P t e z size bytes) {w : World} {ops : Array Oper} {rest : List Oper} {o : Oper} {a : Act} {Q : Exit → Act → World → Prop}
    (hg : o.guard = none) (s x : Operand) (hop : o.op = Op.call { callee := Callee.builtin Builtin.append, args := #[s, x], argTypes := #[t, t] })
    (base : Nat) (v : Value) (n : Nat) (xs : List Value) (hs : a.eval s = v) (hown : w.ownsRow base e size v n xs)
    (y : Value) (m : Nat) (news : List Value) (hx : a.eval x = y) (hr : Rd w size y m news) (h1 : ∀ u ∈ news, u.oneCell' = true)
    (b1 : n + m ≤ maxLen) (b2 : (n + m) * bytes ≤ 140737488355328) (b3 : base ≤ w.heap.size)
    (hK : ∀ v' w', w'.ownsRow base e size v' (n + m) (xs ++ news) → w.grownBy w' v.ownBlock → (v' = .slice none 0 0 ↔ v = .slice none 0 0 ∧ m = 0) → wpList P ops Q rest (a.put o.dst v') w') :
    wpList P ops Q (o :: rest) a w := by
  obtain ⟨i, hi, hz, hsz, hby⟩ := S.info
  obtain ⟨hl, ad, cap, rfl, h2, h3, h4, h5⟩ := hr
  cases ad with
  | none =>
    obtain ⟨rfl, rfl⟩ := h4 rfl
    have : news = [] := List.eq_nil_of_length_eq_zero (by simpa using hl)
    subst this
    refine wpList_append_own_none (P := P) hg s x t hop base e i size S.under hi v n xs hs hown hx (hK v w (by simpa using hown) ⟨rfl, rfl, rfl, Nat.le_refl _, fun _ _ _ => rfl⟩ (by simp))
  | some ad =>
    exact wpList_append_own (P := P) w hg s x t hop base e i z size bytes S.under hi hz hsz hby S.zs S.pos v n xs hs hown ad m cap news hx hl
      (fun j u hj => by have := (h5 ad rfl j u hj).2; rwa [add_eq _ _ (h5 ad rfl j u hj).1]) h1 b1 b2 b3 hK

/-- make of an empty slice with room -/
theorem wpList_mk {P : Program} {t e : TypeId} {z : Value} {size bytes : Nat} (S : SlT P t e z size bytes) {w : World} {ops : Array Oper} {rest : List Oper} {o : Oper} {a : Act} {Q : Exit → Act → World → Prop}
    (hg : o.guard = none) (l c : Operand) (hop : o.op = Op.makeSlice t l c) (base : Nat) (C : Int) (hl : a.eval l = .int .i64 0) (hc : a.eval c = .int .i64 C)
    (b0 : 0 ≤ C) (b2 : C * bytes ≤ 281474976710656) (b3 : C ≤ maxLen) (b4 : base ≤ w.heap.size)
    (hK : ∀ w', w'.ownsRow base e size (.slice (some ⟨w.heap.size, 0, none⟩) 0 C.toNat) 0 [] → w.grownBy w' none → wpList P ops Q rest (a.put o.dst (.slice (some ⟨w.heap.size, 0, none⟩) 0 C.toNat)) w') :
    wpList P ops Q (o :: rest) a w := by
  obtain ⟨i, hi, hz, hsz, hby⟩ := S.info
  obtain ⟨n, rfl⟩ := Int.eq_ofNat_of_zero_le b0
  refine wpList_make_own w hg l c t hop base e i z size S.under hi hz hsz .i64 .i64 (n : Int) n hl hc rfl ?_ (by omega) b4 hK
  rw [hby, Nat.mul_comm]
  have : ((n * bytes : Nat) : Int) ≤ 281474976710656 := by rw [Int.natCast_mul]; exact b2
  omega

/-- make of n elements of one cell each -/
theorem wpList_mkfull {P : Program} {t e : TypeId} {z : Value} {bytes : Nat} (S : SlT P t e z 1 bytes) (hzz : z.cells = #[z]) {w : World} {ops : Array Oper} {rest : List Oper} {o : Oper} {a : Act} {Q : Exit → Act → World → Prop}
    (hg : o.guard = none) (l c : Operand) (hop : o.op = Op.makeSlice t l c) (base : Nat) (n : Nat) (hl : a.eval l = .int .i64 (n : Int)) (hc : a.eval c = .int .i64 (n : Int))
    (b2 : bytes * n ≤ 281474976710656) (b3 : n ≤ maxLen) (b4 : base ≤ w.heap.size)
    (hK : ∀ w', w'.ownsRow base e 1 (.slice (some ⟨w.heap.size, 0, none⟩) n n) n (List.replicate n z) → w.grownBy w' none → wpList P ops Q rest (a.put o.dst (.slice (some ⟨w.heap.size, 0, none⟩) n n)) w') :
    wpList P ops Q (o :: rest) a w := by
  obtain ⟨i, hi, hz, hsz, hby⟩ := S.info
  refine wpList_make_full w hg l c t hop base e i z 1 S.under hi hz hsz .i64 .i64 (n : Int) (n : Int) n hl hc rfl rfl (by rw [hby]; exact b2) b3 b4 ?_
  rw [hzz, Nat.mul_one, toList_madeCells_one]
  exact hK

/-! ### bytes -/
def cu (bs : List (BitVec 8)) : List Value := bs.map fun x => .int .u8 (U x)
theorem cu_length (bs : List (BitVec 8)) : (cu bs).length = bs.length := by simp [cu]
theorem cu_app (a b : List (BitVec 8)) : cu a ++ cu b = cu (a ++ b) := by simp [cu]
theorem cu_one {bs : List (BitVec 8)} : ∀ u ∈ cu bs, u.oneCell' = true := by
  intro u hu; obtain ⟨x, _, rfl⟩ := List.mem_map.1 hu; rfl
/-- a slice value that reads as bytes -/
def By (w : World) (v : Value) (bs : List (BitVec 8)) : Prop := Rd w 1 v bs.length (cu bs)
/-- a slice value that owns a row of bytes from block base on -/
def Ow (T : TypeId) (w : World) (base : Nat) (v : Value) (bs : List (BitVec 8)) : Prop := w.ownsRow base T 1 v bs.length (cu bs)
theorem Ow.by {T : TypeId} {w : World} {base : Nat} {v : Value} {bs : List (BitVec 8)} (h : Ow T w base v bs) : By w v bs := Rd.of_own h
theorem By.below {w w' : World} {v : Value} {bs : List (BitVec 8)} (h : By w v bs) (hb : Below w.heap.size w w') : By w' v bs := Rd.below h hb
/-- a slice that reads as bytes: empty, or led to by an address -/
theorem By.cases {w : World} {v : Value} {bs : List (BitVec 8)} (h : By w v bs) :
    bs.length ≤ maxLen ∧ ((bs = [] ∧ ∃ a cap, v = .slice a 0 cap ∧ cap ≤ maxLen ∧ (a = none → cap = 0)) ∨
    ∃ b off cap, v = .slice (some ⟨b, off, none⟩) bs.length cap ∧ 0 < bs.length ∧ bs.length ≤ cap ∧ cap ≤ maxLen ∧ ∀ k, k < bs.length → w.cell? ⟨b, off + k, none⟩ = some (.int .u8 (U (bs.getD k 0)))) := by
  obtain ⟨_, a, cap, rfl, h1, h2, h3, h4⟩ := h
  refine ⟨Nat.le_trans h1 h2, ?_⟩
  by_cases h0 : bs.length = 0
  · have : bs = [] := List.eq_nil_of_length_eq_zero h0
    subst this
    exact .inl ⟨rfl, a, cap, rfl, h2, fun e => (h3 e).2⟩
  · have each : ∀ b, a = some b → ∀ k, k < bs.length → b.spot = none ∧ w.cell? ⟨b.block, b.off + k, none⟩ = some (.int .u8 (U (bs.getD k 0))) := by
      intro b hb k hk
      refine h4 b hb k _ ?_
      rw [cu, List.getElem?_map, List.getElem?_eq_getElem hk, Option.map_some]; simp [List.getD, hk]
    cases a with
    | none => exact absurd (h3 rfl).1 h0
    | some ad =>
      obtain ⟨b, off, spot⟩ := ad
      have hs : spot = none := (each _ rfl 0 (by omega)).1
      subst hs
      exact .inr ⟨b, off, cap, rfl, by omega, h1, h2, fun k hk => (each _ rfl k hk).2⟩
theorem By.of_nil (w : World) : By w (.slice none 0 0) [] := ⟨rfl, none, 0, rfl, Nat.le_refl _, Nat.zero_le _, fun _ => ⟨rfl, rfl⟩, fun b hb => by cases hb⟩
/-- cut at the end: b[:n] -/
theorem By.take {w : World} {a : Option Addr} {len cap : Nat} {bs : List (BitVec 8)} (h : By w (.slice a len cap) bs) {n : Nat} (hn : n ≤ len) : By w (.slice a n cap) (bs.take n) := by
  obtain ⟨_, a', cap', e, h1, h2, h3, h4⟩ := h
  obtain ⟨rfl, rfl, rfl⟩ : a = a' ∧ len = bs.length ∧ cap = cap' := by simpa using e
  have hl : (bs.take n).length = n := by rw [List.length_take]; omega
  refine ⟨by rw [cu_length]; omega, a, cap, by rw [hl], by omega, h2, fun e => ?_, fun b hb j u hj => h4 b hb j u ?_⟩
  · have := h3 e; omega
  · rw [cu, List.map_take, List.getElem?_take] at hj
    split at hj
    · exact hj
    · cases hj
end Go.Proofs.Ytbibippdafnenaa

/- Reading the arguments of a law: what each parameter's reading gives the walk; and reading them again behind the call. -/
namespace Go.Proofs.Ytbibippdafnenaa
open Go.ChangeShapes Go.WideShapes Go.ChangeAt Go.RowKit

theorem own : ownKnob Try.prog.godebug = none := by kernel_rfl
theorem laidOut : laidOutB Try.prog = true := by kernel_rfl

def IsInt (k : IntKind) (v : Value) : Prop := ∃ x, v = .int k x ∧ (Lit.int k x).wf = true
def IsBool (v : Value) : Prop := ∃ x, v = .bool x
def IsBytes (W : World) (v : Value) : Prop := ∃ bs, By W v bs

section
variable {H : Type} {enc : TypeId × Value → H} {P : Program} {W : World} {base : Nat} {t e : TypeId} {v : Value} {d : DataW H} {ps : List MemPlace} {r : Reach}
theorem open_isInt {k : IntKind} (ht : P.underlying t = some (.int k)) (hval : Value.okWide P W r base t v) (hd : DataW.Trod enc P W 0 (fun _ => true) true t v d ps) : IsInt k v := by
  obtain ⟨x, rfl, _, _, wx⟩ := open_int ht hval hd
  exact ⟨x, rfl, wx⟩
theorem open_isBool (ht : P.underlying t = some .bool) (hval : Value.okWide P W r base t v) (hd : DataW.Trod enc P W 0 (fun _ => true) true t v d ps) : IsBool v := by
  obtain ⟨x, rfl, _⟩ := open_bool ht hval hd
  exact ⟨x, rfl⟩
theorem bytes_of {zs : List Int} (hz : ∀ n ∈ zs, (Lit.int .u8 n).wf = true) : ∃ bs : List (BitVec 8), zs = bs.map U := by
  refine ⟨zs.map (BitVec.ofInt 8), ?_⟩
  rw [List.map_map]
  conv => lhs; rw [← List.map_id zs]
  refine List.map_congr_left fun n hn => ?_
  have := bounds_u8 (hz n hn)
  exact (ofInt_U (n := 8) n (by omega) (by omega)).symm
theorem open_isBytes (ht : P.underlying t = some (.slice e)) (he : P.underlying e = some (.int .u8)) (hc : P.cellsOf e = 1) (hval : Value.okWide P W r base t v) (hd : DataW.Trod enc P W 0 (fun _ => true) true t v d ps) : IsBytes W v := by
  obtain ⟨a, len, cap, rfl⟩ := okWide_slice ht hval
  obtain ⟨fuel, hf⟩ := hd
  rcases open_ints ht he hc hf with ⟨hcs, _⟩ | ⟨x, l, c, zs, hcs, _, hl, hm, hz, _, hcell, hwz⟩
  · simp [Value.cells] at hcs
    obtain ⟨rfl, rfl, rfl⟩ := hcs
    exact ⟨[], By.of_nil W⟩
  · simp [Value.cells] at hcs
    obtain ⟨rfl, rfl, rfl⟩ := hcs
    obtain ⟨bs, rfl⟩ := bytes_of hwz
    simp only [List.length_map, if_true] at hz hcell
    refine ⟨bs.take len, ?_⟩
    have hlen : (bs.take len).length = len := by rw [List.length_take]; omega
    refine ⟨by rw [cu_length, Nat.mul_one], some x, cap, by rw [hlen], by omega, hm, (fun e => by cases e), fun b hb j u hj => ?_⟩
    obtain rfl := Option.some.inj hb
    by_cases h0 : bs.length = 0
    · have : bs = [] := List.eq_nil_of_length_eq_zero h0
      subst this
      simp [cu] at hj
    · have hs : x.spot = none := by
        have := hcell 0 (by omega)
        have := World.cell?_spot this
        simpa [Addr.add] using this
      refine ⟨hs, ?_⟩
      rw [cu, List.getElem?_map, List.getElem?_take] at hj
      split at hj
      · rename_i hj'
        have hjb : j < bs.length := by
          rcases Nat.lt_or_ge j bs.length with h | h
          · exact h
          · rw [List.getElem?_eq_none h] at hj; cases hj
        rw [List.getElem?_eq_getElem hjb] at hj
        simp at hj
        subst hj
        have := hcell j hjb
        rw [add_eq _ _ hs] at this
        rw [this]; simp [hjb]
      · simp at hj
end

/-- the arguments read again behind a call that writes nothing that was there -/
theorem trodAll_below {H : Type} {enc : TypeId × Value → H} {P : Program} (hL : laidOutB P = true) {W W' : World} (hb : Below W.heap.size W W') : ∀ (ts : List TypeId) (_ : ts.all (fun t => P.readableRec t && decide (t < P.types.size)) = true) (vs : List Value) (ds : List (DataW H)) (ps : List MemPlace),
    DataW.TrodAll enc P W 0 (fun _ => true) true ts vs ds ps → DataW.TrodAll enc P W' 0 (fun b => decide (b < W.heap.size)) true ts vs ds ps
  | [], _, [], [], _, h => h
  | [], _, _ :: _, _, _, h => h.elim
  | [], _, [], _ :: _, _, h => h.elim
  | _ :: _, _, [], _, _, h => h.elim
  | _ :: _, _, _ :: _, [], _, h => h.elim
  | t :: ts, hr, v :: vs, d :: ds, ps, h => by
    obtain ⟨p, q, h1, h2, rfl⟩ := h
    simp only [List.all_cons, Bool.and_eq_true, decide_eq_true_eq] at hr
    have lt : ∀ x ∈ p, x.block < W.heap.size := by obtain ⟨m, hm⟩ := h1; exact DataW.trod_lt m _ _ _ hm
    exact ⟨p, q, Below.trod hL hr.1.1 hr.1.2 h1 hb lt, trodAll_below hL hb ts hr.2 vs ds q h2, rfl⟩
end Go.Proofs.Ytbibippdafnenaa

/- Memory with owners: what a call may change (Fr), slices with a place of their own (Sl), and append on them. No condition on the program. -/
namespace Go.Proofs.Ytbibippdafnenaa
open Go.RowKit

/-- w' is w, but for what the blocks in F hold and for new blocks -/
structure Fr (F : Nat → Prop) (w w' : World) : Prop where
  os : w'.os = w.os
  tape : w'.tape = w.tape
  output : w'.output = w.output
  size : w.heap.size ≤ w'.heap.size
  block : ∀ k, k < w.heap.size → ¬ F k → w'.heap[k]? = w.heap[k]?
theorem Fr.refl (F : Nat → Prop) (w : World) : Fr F w w := ⟨rfl, rfl, rfl, Nat.le_refl _, fun _ _ _ => rfl⟩
theorem Fr.trans {F G : Nat → Prop} {a b c : World} (h : Fr F a b) (k : Fr G b c) (hG : ∀ x, G x → F x ∨ a.heap.size ≤ x) : Fr F a c :=
  ⟨k.os.trans h.os, k.tape.trans h.tape, k.output.trans h.output, Nat.le_trans h.size k.size, fun x hx hn =>
    (k.block x (Nat.lt_of_lt_of_le hx h.size) fun g => (hG x g).elim hn (by omega)).trans (h.block x hx hn)⟩
theorem Fr.mono {F G : Nat → Prop} {a b : World} (h : Fr F a b) (hG : ∀ x, F x → G x) : Fr G a b := ⟨h.os, h.tape, h.output, h.size, fun x hx hn => h.block x hx fun f => hn (hG x f)⟩
theorem Fr.drew {F : Nat → Prop} {a w : World} (h : Fr F a w) : Fr F a w.drew := ⟨h.os, h.tape, h.output, h.size, h.block⟩
theorem Fr.drewN {F : Nat → Prop} {a w : World} (h : Fr F a w) (n : Nat) : Fr F a (w.drewN n) := ⟨h.os, h.tape, h.output, h.size, h.block⟩
theorem Fr.alloc {F : Nat → Prop} {a w : World} (h : Fr F a w) (o : Obj) : Fr F a (w.alloc o) :=
  ⟨h.os, h.tape, h.output, by simp; exact Nat.le_succ_of_le h.size, fun x hx hn => (Below.heap_alloc w o x (Nat.lt_of_lt_of_le hx h.size)).trans (h.block x hx hn)⟩
theorem Fr.setCell {F : Nat → Prop} {a w : World} (h : Fr F a w) {p : Addr} (hp : F p.block ∨ a.heap.size ≤ p.block) (u : Value) : Fr F a (w.setCell p u) :=
  ⟨h.os, h.tape, h.output, by simp; exact h.size, fun x hx hn => (Below.heap_setCell w p u x (fun e => by subst e; exact hp.elim hn (by omega))).trans (h.block x hx hn)⟩
theorem Fr.grown {F : Nat → Prop} {a w w' : World} {row : Option Nat} (h : Fr F a w) (hg : w.grownBy w' row) (hr : ∀ k, row = some k → F k ∨ a.heap.size ≤ k) : Fr F a w' :=
  ⟨hg.os.trans h.os, hg.tape.trans h.tape, hg.output.trans h.output, Nat.le_trans h.size hg.size, fun x hx hn =>
    (hg.block x (Nat.lt_of_lt_of_le hx h.size) fun e => (hr x e.symm).elim hn (by omega)).trans (h.block x hx hn)⟩
theorem Fr.of_below {F : Nat → Prop} {a w w' : World} (h : Fr F a w) (hb : Below w.heap.size w w') : Fr F a w' :=
  ⟨hb.os.trans h.os, hb.tape.trans h.tape, hb.output.trans h.output, Nat.le_trans h.size hb.size, fun x hx hn => (hb.block x (Nat.lt_of_lt_of_le hx h.size)).trans (h.block x hx hn)⟩
theorem Fr.below {F : Nat → Prop} {a w : World} (h : Fr F a w) {B : Nat} (hB : B ≤ a.heap.size) (hF : ∀ k, F k → B ≤ k) : Below B a w :=
  ⟨h.os, h.tape, h.output, h.size, fun k hk => h.block k (by omega) fun f => by have := hF k f; omega⟩
theorem Fr.keep {F : Nat → Prop} {a w : World} (h : Fr F a w) {k : Nat} {o : Obj} (hk : a.heap[k]? = some o) (hn : ¬ F k) : w.heap[k]? = some o :=
  (h.block k (lt_of_block hk) hn).trans hk
/-- two sets of blocks that share none -/
def Dj (F G : Nat → Prop) : Prop := ∀ k, F k → G k → False
theorem Dj.symm {F G : Nat → Prop} (h : Dj F G) : Dj G F := fun k g f => h k f g
/-- F' is F and new blocks -/
def Ext (w : World) (F F' : Nat → Prop) : Prop := ∀ k, F' k → F k ∨ w.heap.size ≤ k
theorem Dj.ext {w : World} {F F' G : Nat → Prop} (h : Dj F G) (hx : Ext w F F') (hG : ∀ k, G k → k < w.heap.size) : Dj F' G := fun k f g => (hx k f).elim (fun f => h k f g) (fun l => by have := hG k g; omega)
theorem Ext.trans {w w' : World} {F F' F'' : Nat → Prop} (h : Ext w F F') (h' : Ext w' F' F'') (hs : w.heap.size ≤ w'.heap.size) : Ext w F F'' := fun k f => (h' k f).elim (h k) fun l => .inr (by omega)

/-- a slice of n elements at its own place: nil, or in a block of F; it reads as the cells us -/
def Sl (w : World) (F : Nat → Prop) (e : TypeId) (size : Nat) (v : Value) (n : Nat) (us : List Value) : Prop :=
  us.length = n * size ∧ ((v = .slice none 0 0 ∧ n = 0) ∨
    ∃ g off cap cur, v = .slice (some ⟨g, off, none⟩) n cap ∧ F g ∧ w.heap[g]? = some (.cells cur e (0, 0)) ∧ n ≤ cap ∧ cap ≤ maxLen ∧ off + cap * size ≤ cur.size ∧ (cur.toList.drop off).take (n * size) = us)
theorem Sl.nil (w : World) (F : Nat → Prop) (e : TypeId) (size : Nat) : Sl w F e size (.slice none 0 0) 0 [] := ⟨by simp, .inl ⟨rfl, rfl⟩⟩
theorem Sl.keep {w w' : World} {F : Nat → Prop} {e : TypeId} {size : Nat} {v : Value} {n : Nat} {us : List Value} (h : Sl w F e size v n us) (hk : ∀ k, F k → k < w.heap.size → w'.heap[k]? = w.heap[k]?) : Sl w' F e size v n us := by
  obtain ⟨hl, h | ⟨g, off, cap, cur, rfl, hF, hg, h1, h2, h3, h4⟩⟩ := h
  · exact ⟨hl, .inl h⟩
  · exact ⟨hl, .inr ⟨g, off, cap, cur, rfl, hF, (hk g hF (lt_of_block hg)).trans hg, h1, h2, h3, h4⟩⟩
theorem Sl.mono {w : World} {F G : Nat → Prop} {e : TypeId} {size : Nat} {v : Value} {n : Nat} {us : List Value} (h : Sl w F e size v n us) (hF : ∀ k, F k → G k) : Sl w G e size v n us := by
  obtain ⟨hl, h | ⟨g, off, cap, cur, rfl, hf, hg, h1⟩⟩ := h
  · exact ⟨hl, .inl h⟩
  · exact ⟨hl, .inr ⟨g, off, cap, cur, rfl, hF g hf, hg, h1⟩⟩
theorem Sl.of_own {w : World} {F : Nat → Prop} {base : Nat} {e : TypeId} {size : Nat} {v : Value} {n : Nat} {us : List Value} (h : w.ownsRow base e size v n us) (hF : ∀ k, base ≤ k → F k) : Sl w F e size v n us := by
  obtain ⟨hl, h | ⟨g, cap, cur, rfl, hb, hg, hn, hm, hs, ht⟩⟩ := h
  · exact ⟨hl, .inl h⟩
  · exact ⟨hl, .inr ⟨g, 0, cap, cur, rfl, hF g hb, hg, hn, hm, by omega, by simpa using ht⟩⟩
theorem Sl.cell {w : World} {F : Nat → Prop} {e : TypeId} {size : Nat} {g off n cap : Nat} {us : List Value} (h : Sl w F e size (.slice (some ⟨g, off, none⟩) n cap) n us) : ∀ j u, us[j]? = some u → w.cell? ⟨g, off + j, none⟩ = some u := by
  intro j u hj
  obtain ⟨hl, ⟨h, _⟩ | ⟨g', off', cap', cur, e1, hF, hg, h1, h2, h3, h4⟩⟩ := h
  · cases h
  · obtain ⟨⟨rfl, rfl⟩, rfl⟩ : (g = g' ∧ off = off') ∧ cap = cap' := by simpa using e1
    rw [← h4, List.getElem?_take] at hj
    split at hj
    · rw [List.getElem?_drop] at hj
      simp only [World.cell?, hg]
      simpa using hj
    · cases hj
theorem Sl.rd {w : World} {F : Nat → Prop} {e : TypeId} {size : Nat} {v : Value} {n : Nat} {us : List Value} (h : Sl w F e size v n us) : Rd w size v n us := by
  have h' := h
  obtain ⟨hl, ⟨rfl, rfl⟩ | ⟨g, off, cap, cur, rfl, hF, hg, h1, h2, h3, h4⟩⟩ := h
  · exact ⟨hl, none, 0, rfl, Nat.le_refl _, Nat.zero_le _, fun _ => ⟨rfl, rfl⟩, fun b hb => by cases hb⟩
  · refine ⟨hl, some ⟨g, off, none⟩, cap, rfl, h1, h2, (fun e => by cases e), fun b hb j u hj => ?_⟩
    obtain rfl := Option.some.inj hb
    exact ⟨rfl, h'.cell j u hj⟩
/-- v[k:] : the walk's own spelling of its address -/
theorem Sl.drop {w : World} {F : Nat → Prop} {e : TypeId} {g off n cap : Nat} {us : List Value} (h : Sl w F e 1 (.slice (some ⟨g, off, none⟩) n cap) n us) {k : Nat} (hk : k ≤ n) :
    Sl w F e 1 (.slice (if cap = k then some ⟨g, off, none⟩ else some ⟨g, off + k, none⟩) (n - k) (cap - k)) (n - k) (us.drop k) := by
  obtain ⟨hl, ⟨h, _⟩ | ⟨g', off', cap', cur, e1, hF, hg, h1, h2, h3, h4⟩⟩ := h
  · cases h
  · obtain ⟨⟨rfl, rfl⟩, rfl⟩ : (g = g' ∧ off = off') ∧ cap = cap' := by simpa using e1
    refine ⟨by rw [List.length_drop, hl]; omega, .inr ?_⟩
    by_cases hc : cap = k
    · rw [if_pos hc]
      have hn : n - k = 0 := by omega
      refine ⟨g, off, cap - k, cur, rfl, hF, hg, by omega, by omega, by omega, ?_⟩
      have : us.drop k = [] := List.drop_eq_nil_of_le (by omega)
      rw [this, hn]; simp
    · rw [if_neg hc]
      refine ⟨g, off + k, cap - k, cur, rfl, hF, hg, by omega, by omega, by omega, ?_⟩
      rw [← h4, List.drop_take, List.drop_drop]
      congr 1
      omega

section
variable {P : Program}
theorem run_append_room_at (w : World) (t ty e : TypeId) (i : TypeInfo) (ht : P.underlying t = some (.slice e)) (hi : P.info? e = some i)
    (g off sLen sCap : Nat) (cur : Array Value) (hg : w.heap[g]? = some (.cells cur e (0, 0)))
    (a : Addr) (m c : Nat) (news : List Value) (hl : news.length = m * i.size) (hnews : ∀ j u, news[j]? = some u → w.cell? (a.add j) = some u) (h1 : ∀ u ∈ news, u.oneCell' = true)
    (hroom : sLen + m ≤ sCap) (hfit : off + sLen * i.size + news.length ≤ cur.size) :
    (Builtin.append_ #[t, t] ty #[.slice (some ⟨g, off, none⟩) sLen sCap, .slice (some a) m c]).run P w =
      .ok (.slice (some ⟨g, off, none⟩) (sLen + m) sCap) (w.setRow g (cur.toList.take (off + sLen * i.size) ++ news ++ cur.toList.drop (off + sLen * i.size + news.length)).toArray) := by
  have hf := run_firstCells_some (P := P) w i.size m a m c news hl hnews
  have hst := run_storeCells_at P g (off + sLen * i.size) e news 0 cur w hg (by simpa using hfit) h1
  simp only [Nat.add_zero] at hst
  have ha : (⟨g, off, none⟩ : Addr).add (sLen * i.size) = ⟨g, off + sLen * i.size, none⟩ := add_eq _ _ rfl
  simp [Builtin.append_, run_underlying ht, sizeOf, typeInfo, hi, Builtin.lenOf, hroom, hf, ha, hst]
/-- append to a slice at its own place -/
theorem run_append_sl {t e : TypeId} {z : Value} {size bytes : Nat} (S : SlT P t e z size bytes) (w : World) (ty : TypeId) (F : Nat → Prop)
    (v : Value) (n : Nat) (us : List Value) (hs : Sl w F e size v n us) (y : Value) (m : Nat) (news : List Value) (hr : Rd w size y m news) (h1 : ∀ u ∈ news, u.oneCell' = true)
    (h63 : n + m ≤ maxLen) (hbytes : (n + m) * bytes ≤ 140737488355328) :
    ∃ v' w', (Builtin.append_ #[t, t] ty #[v, y]).run P w = .ok v' w' ∧ Sl w' (fun k => F k ∨ w.heap.size ≤ k) e size v' (n + m) (us ++ news) ∧ Fr F w w' := by
  obtain ⟨i, hi, hz, rfl, rfl⟩ := S.info
  obtain ⟨hl, ad, c, rfl, r1, r2, r3, r4⟩ := hr
  have hsmall : n + m ≤ 9223372036854775807 := by simp only [maxLen] at h63; omega
  have hlen : (us ++ news).length = (n + m) * i.size := by rw [List.length_append, hs.1, hl, Nat.add_mul]
  have grown : ∀ (old : Nat), old < n + m →
      Sl (w.drew.alloc (.cells (us.toArray ++ news.toArray ++ Builtin.zeroCells z.cells (grownCap w (n + m) old e - (n + m))) e)) (fun k => F k ∨ w.heap.size ≤ k) e i.size
        (.slice (some ⟨w.heap.size, 0, none⟩) (n + m) (grownCap w (n + m) old e)) (n + m) (us ++ news) ∧
      Fr F w (w.drew.alloc (.cells (us.toArray ++ news.toArray ++ Builtin.zeroCells z.cells (grownCap w (n + m) old e - (n + m))) e)) := by
    intro old ho
    have hge := grownCap_ge w (n + m) old e
    have hcm : grownCap w (n + m) old e ≤ maxLen := grownCap_le_maxLen w (n + m) old e h63
    refine ⟨⟨hlen, .inr ⟨w.heap.size, 0, _, _, rfl, .inr (Nat.le_refl _), heap_alloc_new w.drew _, hge, hcm, ?_, ?_⟩⟩, (Fr.refl F w).drew.alloc _⟩
    · simp only [Array.size_append, List.size_toArray, size_zeroCells, S.zs, hs.1, hl, ← Nat.add_mul, Nat.zero_add]
      refine Nat.le_of_eq ?_
      congr 1
      omega
    · simp only [Array.toList_append, List.drop_zero, List.append_assoc]
      rw [← List.append_assoc, ← hlen]
      exact List.take_left
  cases ad with
  | none =>
    obtain ⟨rfl, rfl⟩ := r3 rfl
    have hn : news = [] := List.eq_nil_of_length_eq_zero (by simpa using hl)
    subst hn
    refine ⟨v, w, ?_, by simpa using hs.mono fun k f => .inl f, Fr.refl F w⟩
    rcases hs.2 with ⟨rfl, rfl⟩ | ⟨g, off, cap, cur, rfl, hF, hg, h2, h3, h4, h5⟩
    · simp [Builtin.append_, run_underlying S.under, sizeOf, typeInfo, hi, Builtin.lenOf, Builtin.firstCells]
    · simp [Builtin.append_, run_underlying S.under, sizeOf, typeInfo, hi, Builtin.lenOf, Builtin.firstCells, h2, storeCells]
  | some a =>
    have hnews : ∀ j u, news[j]? = some u → w.cell? (a.add j) = some u := fun j u hj => by
      have := r4 a rfl j u hj
      rw [add_eq _ _ this.1]; exact this.2
    rcases hs.2 with ⟨rfl, rfl⟩ | ⟨g, off, cap, cur, rfl, hF, hg, hnc, hcm, hcs, htake⟩
    · have hx : us = [] := List.eq_nil_of_length_eq_zero (by simpa using hs.1)
      subst hx
      by_cases hm : m = 0
      · subst hm
        have hn : news = [] := List.eq_nil_of_length_eq_zero (by simpa using hl)
        subst hn
        refine ⟨.slice none 0 0, w, ?_, Sl.nil w _ e i.size, Fr.refl F w⟩
        simp [Builtin.append_, run_underlying S.under, sizeOf, typeInfo, hi, Builtin.lenOf, Builtin.firstCells, loadCells, loadCellsFrom]
      · have hr := run_append_nil (P := P) w t ty e i z S.under hi hz a m c news hl hnews (by omega) (by omega) (by have hb := hbytes; simp only [Nat.zero_add] at hb; omega)
        have hgr := grown 0 (by omega)
        simp only [Nat.zero_add, List.nil_append, Array.empty_append] at hgr ⊢
        exact ⟨_, _, hr, hgr.1, hgr.2⟩
    · by_cases hroom : n + m ≤ cap
      · have hfit : off + n * i.size + news.length ≤ cur.size := by
          have : (n + m) * i.size ≤ cap * i.size := Nat.mul_le_mul_right _ hroom
          rw [Nat.add_mul] at this
          rw [hl]; omega
        have hrun := run_append_room_at (P := P) w t ty e i S.under hi g off n cap cur hg a m c news hl hnews h1 hroom hfit
        refine ⟨_, _, hrun, ⟨hlen, .inr ⟨g, off, cap, _, rfl, .inl hF, setRow_heap w g cur _ e _ hg, hroom, hcm, ?_, ?_⟩⟩, ⟨rfl, rfl, rfl, by simp, fun k _ hk => setRow_other w g k _ (fun e => hk (by rw [e]; exact hF))⟩⟩
        · simp only [List.size_toArray, List.length_append, List.length_take, List.length_drop, Array.length_toList]
          omega
        · have hl1 : (List.take (off + n * i.size) cur.toList).length = off + n * i.size := by
            rw [List.length_take, Array.length_toList]; omega
          simp only [List.append_assoc]
          rw [List.drop_append_of_le_length (by rw [hl1]; omega), List.drop_take]
          have e1 : off + n * i.size - off = n * i.size := by omega
          rw [e1, htake, ← List.append_assoc, ← hlen]
          exact List.take_left
      · have holds : ∀ j u, us[j]? = some u → w.cell? ((⟨g, off, none⟩ : Addr).add j) = some u := fun j u hj => by
          rw [add_eq _ _ rfl]; exact Sl.cell hs j u hj
        have hrun := run_append_grow (P := P) w t ty e i z S.under hi hz ⟨g, off, none⟩ n cap us hs.1 holds a m c news hl hnews (by omega) (by omega) (growslice_fits (by omega) hbytes)
        have hgr := grown cap (by omega)
        exact ⟨_, _, hrun, hgr.1, hgr.2⟩
end
/-- append at its place in a walk -/
theorem wpList_apps {P : Program} {t e : TypeId} {z : Value} {size bytes : Nat} (S : SlT P t e z size bytes) {w : World} {ops : Array Oper} {rest : List Oper} {o : Oper} {a : Act} {Q : Exit → Act → World → Prop}
    (hg : o.guard = none) (s x : Operand) (hop : o.op = Op.call { callee := Callee.builtin Builtin.append, args := #[s, x], argTypes := #[t, t] })
    (F : Nat → Prop) (v : Value) (n : Nat) (us : List Value) (hs : a.eval s = v) (hown : Sl w F e size v n us)
    (y : Value) (m : Nat) (news : List Value) (hx : a.eval x = y) (hr : Rd w size y m news) (h1 : ∀ u ∈ news, u.oneCell' = true)
    (b1 : n + m ≤ maxLen) (b2 : (n + m) * bytes ≤ 140737488355328)
    (hK : ∀ v' w', Sl w' (fun k => F k ∨ w.heap.size ≤ k) e size v' (n + m) (us ++ news) → Fr F w w' → wpList P ops Q rest (a.put o.dst v') w') :
    wpList P ops Q (o :: rest) a w := by
  refine wpList_plain hg fun K hK' => ?_
  obtain ⟨v', w', hrun, h2, h3⟩ := run_append_sl S w o.type F v n us hown y m news hr h1 b1 b2
  unfold Oper.wp execOp
  simp only [hop, resolve, invoke, builtin, Sem.run_bind, Sem.run_pure, Result.andThen_ok, List.map_toArray, List.map_cons, List.map_nil, hs, hx, hrun]
  exact hK' _ _ (hK v' w' h2 h3)

/-- append at its place, as one step of a region that draws -/
theorem step_app_sl {P : Program} {t e : TypeId} {z : Value} {size bytes : Nat} (S : SlT P t e z size bytes) {ops : Array Oper} {o : Oper} {a : Act} {w : World} {K : Act → World → Prop} {Q : Exit → Act → World → Prop} {E : Prop}
    (hg : o.guard = none) (s x : Operand) (hop : o.op = Op.call { callee := Callee.builtin Builtin.append, args := #[s, x], argTypes := #[t, t] })
    (F : Nat → Prop) (v : Value) (n : Nat) (us : List Value) (hs : a.eval s = v) (hown : Sl w F e size v n us)
    (y : Value) (m : Nat) (news : List Value) (hx : a.eval x = y) (hr : Rd w size y m news) (h1 : ∀ u ∈ news, u.oneCell' = true)
    (b1 : n + m ≤ maxLen) (b2 : (n + m) * bytes ≤ 140737488355328)
    (hK : ∀ v' w', Sl w' (fun k => F k ∨ w.heap.size ≤ k) e size v' (n + m) (us ++ news) → Fr F w w' → K (a.put o.dst v') w') :
    if Region.wanted o (yielded ops a.tmps) = true then Oper.wp P o a w K Q else E := by
  have hw : Region.wanted o (yielded ops a.tmps) = true := by simp [Region.wanted, hg]
  rw [if_pos hw]
  obtain ⟨v', w', hrun, h2, h3⟩ := run_append_sl S w o.type F v n us hown y m news hr h1 b1 b2
  unfold Oper.wp execOp
  simp only [hop, resolve, invoke, builtin, Sem.run_bind, Sem.run_pure, Result.andThen_ok, List.map_toArray, List.map_cons, List.map_nil, hs, hx, hrun]
  exact hK v' w' h2 h3
/-- a slice that is not empty shows itself -/
theorem Sl.head {w : World} {F : Nat → Prop} {e : TypeId} {size : Nat} {v : Value} {n : Nat} {us : List Value} (h : Sl w F e size v n us) (hn : 0 < n) : ∃ g off cap, v = .slice (some ⟨g, off, none⟩) n cap ∧ F g ∧ n ≤ cap := by
  rcases h.2 with ⟨_, h0⟩ | ⟨g, off, cap, cur, rfl, hF, _, hc, _⟩
  · omega
  · exact ⟨g, off, cap, rfl, hF, hc⟩
theorem Sl.shape {w : World} {F : Nat → Prop} {e : TypeId} {size : Nat} {v : Value} {n : Nat} {us : List Value} (h : Sl w F e size v n us) : ∃ a cap, v = .slice a n cap := by
  rcases h.2 with ⟨rfl, rfl⟩ | ⟨g, off, cap, cur, rfl, hF, _⟩
  · exact ⟨none, 0, rfl⟩
  · exact ⟨_, cap, rfl⟩
/-- the set of its blocks, cut to those that are there -/
theorem Sl.bound {w : World} {F : Nat → Prop} {e : TypeId} {size : Nat} {v : Value} {n : Nat} {us : List Value} (h : Sl w F e size v n us) : Sl w (fun k => F k ∧ k < w.heap.size) e size v n us := by
  obtain ⟨hl, h | ⟨g, off, cap, cur, rfl, hf, hg, h1⟩⟩ := h
  · exact ⟨hl, .inl h⟩
  · exact ⟨hl, .inr ⟨g, off, cap, cur, rfl, ⟨hf, lt_of_block hg⟩, hg, h1⟩⟩
theorem Sl.alloc {w : World} {F : Nat → Prop} {e : TypeId} {size : Nat} {v : Value} {n : Nat} {us : List Value} (h : Sl w F e size v n us) (o : Obj) : Sl (w.alloc o) F e size v n us :=
  h.keep fun k _ hk => Below.heap_alloc w o k hk
theorem Sl.drew {w : World} {F : Nat → Prop} {e : TypeId} {size : Nat} {v : Value} {n : Nat} {us : List Value} (h : Sl w F e size v n us) : Sl w.drew F e size v n us := h.keep fun _ _ _ => rfl
/-- a new block of one cell, read as a slice of one element -/
theorem rd_one (w : World) (g : Nat) (u : Value) (T : TypeId) (hg : g = w.heap.size) : Rd (w.alloc (.cells #[u] T)) 1 (.slice (some ⟨g, 0, none⟩) 1 1) 1 [u] := by
  subst hg
  refine ⟨rfl, _, 1, rfl, Nat.le_refl _, by decide, (fun e => by cases e), fun b hb j v hj => ?_⟩
  obtain rfl := Option.some.inj hb
  refine ⟨rfl, ?_⟩
  have h0 : (w.alloc (.cells #[u] T)).heap[w.heap.size]? = some (.cells #[u] T) := heap_alloc_new w _
  simp only [World.cell?, h0, Nat.zero_add]
  match j, hj with
  | 0, hj => simpa using hj
/-- bytes, with the set that their block is in -/
def ByD (w : World) (D : Nat → Prop) (v : Value) (bs : List (BitVec 8)) : Prop := By w v bs ∧ ∀ b, v.ownBlock = some b → D b
theorem ByD.keep {w w' : World} {D : Nat → Prop} {v : Value} {bs : List (BitVec 8)} (h : ByD w D v bs) (hk : ∀ k, D k → k < w.heap.size → w'.heap[k]? = w.heap[k]?) : ByD w' D v bs :=
  ⟨Rd.keep h.1 fun k e hl => hk k (h.2 k e) hl, h.2⟩
theorem ByD.mono {w : World} {D E : Nat → Prop} {v : Value} {bs : List (BitVec 8)} (h : ByD w D v bs) (hD : ∀ k, D k → E k) : ByD w E v bs := ⟨h.1, fun b e => hD b (h.2 b e)⟩
end Go.Proofs.Ytbibippdafnenaa

/- Strings made of bytes that are read. -/
namespace Go.Proofs.Ytbibippdafnenaa
open Go.RowKit

/-- the string with these bytes (a plain def, so that simp does not open it) -/
def str8 (bs : List (BitVec 8)) : ByteArray := strOfNums (bs.map U)
theorem str8_toList (bs : List (BitVec 8)) : (str8 bs).toList = bs.map fun x => UInt8.ofBitVec x := by
  rw [ByteArray.toList_eq]
  show (bs.map U).map (fun n => UInt8.ofNat n.toNat) = _
  rw [List.map_map]
  refine List.map_congr_left fun x _ => ?_
  show UInt8.ofNat (U x).toNat = _
  rw [U_toNat]
  apply UInt8.toBitVec_inj.1
  show BitVec.ofNat 8 x.toNat = x
  simp
theorem str8_inj {a b : List (BitVec 8)} (h : (str8 a).toList = (str8 b).toList) : a = b := by
  rw [str8_toList, str8_toList] at h
  have h2 := congrArg (List.map UInt8.toBitVec) h
  rw [List.map_map, List.map_map] at h2
  have e : ∀ l : List (BitVec 8), l.map (UInt8.toBitVec ∘ fun x => UInt8.ofBitVec x) = l := fun l => by
    conv => rhs; rw [← List.map_id l]
    rfl
  rwa [e, e] at h2
@[go_sem] theorem str8_beq (a b : List (BitVec 8)) : ((str8 a).toList == (str8 b).toList) = (a == b) := by
  rw [Bool.eq_iff_iff, beq_iff_eq, beq_iff_eq]
  exact ⟨str8_inj, fun h => by rw [h]⟩
theorem str8_size (bs : List (BitVec 8)) : (str8 bs).size = bs.length := by unfold str8; rw [strOfNums_size, List.length_map]
/-- string(v) of a slice that reads as bytes -/
theorem run_str8 {P : Program} {src e dst : TypeId} (hs : P.underlying src = some (.slice e)) (he : P.underlying e = some (.int .u8)) (hd : P.underlying dst = some .string) {w : World} {v : Value} {bs : List (BitVec 8)} (hv : By w v bs) :
    (convert src dst v).run P w = .ok (.string (str8 bs)) w := by
  obtain ⟨_, ⟨rfl, a, cap, rfl, _⟩ | ⟨b, off, cap, rfl, _, _, _, hc⟩⟩ := hv.cases
  · cases a with
    | none => exact run_convert_bytes_nil (P := P) w src e hs he 0 cap dst hd
    | some a =>
      obtain ⟨l, hl⟩ : ∃ l : List Int, l = [] := ⟨_, rfl⟩
      have hld : (loadCells a 0).run P w = .ok (([] : List Int).map (Value.int .u8)).toArray w := by
        have := run_loadCells_list (P := P) w a [] (fun j v hj => by simp at hj)
        simpa using this
      rw [run_convert_bytes_string w src dst e _ 0 cap hs he hd, run_bytesToString w _ 0 cap [] hld]
      rfl
  · have := run_convert_bytes_arg (P := P) w src e hs he b off bs.length cap (bs.map U) (by simp) (fun i hi => by rw [hc i hi]; simp [hi]) dst hd
    exact this
end Go.Proofs.Ytbibippdafnenaa

/- Blocks with labels: each block of memory belongs to one owner; a call on an owner's thing leaves the others' blocks as they were. No condition on the program. -/
namespace Go.Proofs.Ytbibippdafnenaa
open Go.RowKit

abbrev Lab := Nat → Nat
def Lab.is (L : Lab) (i : Nat) : Nat → Prop := fun k => L k = i
/-- new blocks get the label i -/
def Lab.new (L : Lab) (w : World) (i : Nat) : Lab := fun k => if k < w.heap.size then L k else i
theorem Lab.new_old {L : Lab} {w : World} {i k : Nat} (h : k < w.heap.size) : L.new w i k = L k := if_pos h
theorem Lab.new_new {L : Lab} {w : World} {i k : Nat} (h : w.heap.size ≤ k) : L.new w i k = i := if_neg (by omega)
/-- a thing that lives in a set of blocks: it stands as long as these are as they were, and does not ask that the set be exact -/
structure Thing (O : World → (Nat → Prop) → Prop) : Prop where
  keep : ∀ {w w' F}, O w F → w.heap.size ≤ w'.heap.size → (∀ k, F k → k < w.heap.size → w'.heap[k]? = w.heap[k]?) → O w' (fun k => F k ∧ k < w.heap.size)
  mono : ∀ {w F G}, O w F → (∀ k, F k → G k) → O w G
theorem Thing.of {O : World → (Nat → Prop) → Prop} (T : Thing O) {w w' : World} {F G : Nat → Prop} (h : O w F) (hs : w.heap.size ≤ w'.heap.size) (hk : ∀ k, F k → k < w.heap.size → w'.heap[k]? = w.heap[k]?) (hG : ∀ k, F k → k < w.heap.size → G k) : O w' G :=
  T.mono (T.keep h hs hk) fun k ⟨a, b⟩ => hG k a b
/-- another's call -/
theorem Thing.stay {O : World → (Nat → Prop) → Prop} (T : Thing O) {w w' : World} {L : Lab} {i j m : Nat} (h : O w (L.is m)) (hf : Fr (L.is i) w w') (hm : m ≠ i) : O w' ((L.new w j).is m) :=
  T.of h hf.size (fun k e hl => hf.block k hl fun f => hm (e.symm.trans f)) fun _ e hl => (Lab.new_old hl).trans e
theorem Thing.below {O : World → (Nat → Prop) → Prop} (T : Thing O) {w w' : World} {L : Lab} {j m : Nat} (h : O w (L.is m)) (hf : Below w.heap.size w w') : O w' ((L.new w j).is m) :=
  T.of h hf.size (fun k _ hl => hf.block k hl) fun _ e hl => (Lab.new_old hl).trans e
/-- one's own call that may have taken new blocks -/
theorem Thing.mine {O : World → (Nat → Prop) → Prop} (T : Thing O) {w w' : World} {L : Lab} {i : Nat} (h : O w' (fun k => L.is i k ∨ w.heap.size ≤ k)) : O w' ((L.new w i).is i) :=
  T.mono h fun k e => by
    by_cases hl : k < w.heap.size
    · exact (Lab.new_old hl).trans (e.resolve_right (by omega))
    · exact Lab.new_new (by omega)
/-- .. that has not: its new blocks are somebody else's -/
theorem Thing.mine_old {O : World → (Nat → Prop) → Prop} (T : Thing O) {w' : World} {w : World} {L : Lab} {i j : Nat} (h : O w' (fun k => L.is i k ∧ k < w.heap.size)) : O w' ((L.new w j).is i) :=
  T.mono h fun _ ⟨e, hl⟩ => (Lab.new_old hl).trans e
/-- what a walk has done so far: blocks outside F are as they were, and bear the label 0 -/
structure Fl (F : Nat → Prop) (w0 w : World) (L : Lab) : Prop where
  fr : Fr F w0 w
  lab : ∀ k, k < w0.heap.size → ¬ F k → L k = 0
theorem Fl.call {F : Nat → Prop} {w0 w w' : World} {L : Lab} (h : Fl F w0 w L) {i : Nat} (hf : Fr (L.is i) w w') (hi : i ≠ 0) (j : Nat) : Fl F w0 w' (L.new w j) where
  fr := ⟨hf.os.trans h.fr.os, hf.tape.trans h.fr.tape, hf.output.trans h.fr.output, Nat.le_trans h.fr.size hf.size, fun k hl hn =>
    (hf.block k (Nat.lt_of_lt_of_le hl h.fr.size) fun e => hi (e.symm.trans (h.lab k hl hn))).trans (h.fr.block k hl hn)⟩
  lab k hl hn := (Lab.new_old (Nat.lt_of_lt_of_le hl h.fr.size)).trans (h.lab k hl hn)
theorem Fl.own {F : Nat → Prop} {w0 w w' : World} {L : Lab} (h : Fl F w0 w L) (hf : Below w.heap.size w w') (j : Nat) : Fl F w0 w' (L.new w j) where
  fr := h.fr.of_below hf
  lab k hl hn := (Lab.new_old (Nat.lt_of_lt_of_le hl h.fr.size)).trans (h.lab k hl hn)
theorem Fl.start {w : World} : Fl (fun _ => False) w w (fun _ => 0) := ⟨Fr.refl _ _, fun _ _ _ => rfl⟩
theorem Fl.end {w0 w : World} {L : Lab} (h : Fl (fun _ => False) w0 w L) : Below w0.heap.size w0 w := h.fr.below (Nat.le_refl _) fun _ f => f.elim
theorem below_alloc (w : World) (o : Obj) : Below w.heap.size w (w.alloc o) := (Below.refl _ _).alloc (Nat.le_refl _) _
theorem below_drew (w : World) (n : Nat) : Below w.heap.size w (w.drewN n) := ⟨rfl, rfl, rfl, Nat.le_refl _, fun _ _ => rfl⟩
/-- one block that is known whole -/
def Blk (p : Nat) (o : Obj) (w : World) (F : Nat → Prop) : Prop := w.heap[p]? = some o ∧ F p
theorem Blk.thing (p : Nat) (o : Obj) : Thing (Blk p o) := ⟨fun ⟨h, f⟩ _ hk => ⟨(hk p f (lt_of_block h)).trans h, f, lt_of_block h⟩, fun ⟨h, f⟩ hG => ⟨h, hG p f⟩⟩
end Go.Proofs.Ytbibippdafnenaa
