/- Streams, stores and ledgers in memory. No condition on the program. -/
import Derived.Test.YtbibippdafnenaaWaM
import Derived.Test.YtbibippdafnenaaWaQ
import Derived.Test.YtbibippdafnenaaPorD
import Derived.Test.YtbibippdafnenaaPorR
import Derived.Test.YtbibippdafnenaaU8a
namespace Go.Proofs.Ytbibippdafnenaa
open Go.RowKit Go.Maps
set_option maxRecDepth 100000

/-- a segment: its bytes lie where nobody writes -/
def eSeg : El Seg where
  size := 3
  rd w _ Z cs s := ∃ v, cs = [.int .i64 (s.off : Int), v, .bool s.last] ∧ ByZ w Z v s.data
  len h := by obtain ⟨v, h, _⟩ := h; rw [h]; rfl
  keep h _ hk := by obtain ⟨v, e, h⟩ := h; exact ⟨v, e, h.stay fun k hz => hk k (.inr hz)⟩
  mono h _ hZ := by obtain ⟨v, e, h⟩ := h; exact ⟨v, e, h.mono hZ⟩
  one h u hu := by
    obtain ⟨v, rfl, ⟨_, a, c, rfl, _⟩, _⟩ := h
    simp at hu
    rcases hu with rfl | rfl | rfl <;> rfl
/-- a booking, in five cells -/
def entC (e : Ent) : List Value := [.int .i64 (e.tick : Int), .int .i64 (e.conn : Int), .int .i64 (e.frm : Int), .int .i64 ((e.frm + 1 : Nat) : Int), .int .i64 (e.bytes : Int)]
def eEnt : El Ent where
  size := 5
  rd _ _ _ cs e := cs = entC e
  len h := by rw [h]; rfl
  keep h _ _ := h
  mono h _ _ := h
  one h u hu := by
    rw [h] at hu
    simp [entC] at hu
    rcases hu with rfl | rfl | rfl | rfl | rfl <;> rfl
/-- a confirmation: two numbers -/
def eAk : El (Nat × Nat) where
  size := 2
  rd _ _ _ cs t := cs = [.int .i64 (t.1 : Int), .int .i64 (t.2 : Int)]
  len h := by rw [h]; rfl
  keep h _ _ := h
  mono h _ _ := h
  one h u hu := by
    rw [h] at hu
    simp at hu
    rcases hu with rfl | rfl <;> rfl
/-- bytes in a map -/
def u8Elem : Value → Option (DataW Unit × List MemPlace)
  | .int .u8 c => some (.lit (.int .u8 c), [])
  | _ => none
def mU8 : MEl Byte where
  elem := u8Elem
  val b := .int .u8 (U b)
  dat b := .lit (.int .u8 (U b))
  ok _ := True
  hmk _ _ := rfl
  hinv v a ps h := by
    cases v with
    | int k c =>
      cases k <;> simp [u8Elem] at h
      rw [h.1]
    | _ => cases h
theorem u8Elem_inv (v : Value) (y : DataW Unit × List MemPlace) (h : u8Elem v = some y) : ∃ c : Int, v = .int .u8 c := by
  cases v with
  | int k c =>
    cases k <;> first | exact ⟨c, rfl⟩ | cases h
  | _ => cases h
def balD (b : Bal) : DataW Unit := .agg [.lit (.int .i64 b.s), .lit (.int .i64 b.t), .lit (.int .i64 b.f), .lit (.int .i64 b.d), .lit (.int .i64 b.g)]
abbrev balV (b : Bal) : Value := .agg #[.int .i64 b.s, .int .i64 b.t, .int .i64 b.f, .int .i64 b.d, .int .i64 b.g]
def balOf : List Value → Option (DataW Unit × List MemPlace)
  | [.int .i64 a, .int .i64 b, .int .i64 c, .int .i64 d, .int .i64 e] => some (balD ⟨a, b, c, d, e⟩, [])
  | _ => none
def balElem : Value → Option (DataW Unit × List MemPlace)
  | .agg cs => balOf cs.toList
  | _ => none
def mBal : MEl Bal where
  elem := balElem
  val := balV
  dat := balD
  ok _ := True
  hmk _ _ := rfl
  hinv v e ps h := by
    cases v with
    | agg cs =>
      obtain ⟨cs⟩ := cs
      have h' : balOf cs = some (balD e, ps) := h
      unfold balOf at h'
      split at h'
      · obtain ⟨a, b, c, d, g⟩ := e
        simp [balD] at h'
        obtain ⟨⟨rfl, rfl, rfl, rfl, rfl⟩, _⟩ := h'
        rfl
      · cases h'
    | _ => cases h
/-- one of the things to the front, and back -/
theorem Held.lift {F Z : BS} {W w : World} {A B : List Th} {T : Th} (h : Held F Z W (A ++ T :: B) w) : Held F Z W (T :: (A ++ B)) w := by
  obtain ⟨L, h1, h2, h3⟩ := h
  obtain ⟨L', hL⟩ : ∃ L' : Lab, ∀ k, L' k = if L k ≤ 1 then L k else if L k = A.length + 2 then 2 else if L k < A.length + 2 then L k + 1 else L k := ⟨_, fun _ => rfl⟩
  have hz : ∀ k, L.is 1 k → L'.is 1 k := fun k hk => by
    have hk' : L k = 1 := hk
    show L' k = 1
    rw [hL, if_pos (by omega), hk']
  refine ⟨L', h1, fun k hk hF => ?_, fun j T' hj => ?_⟩
  · have := h2 k hk hF
    rw [show L' k = L k by rw [hL, if_pos (by have := this.1; omega)]]; exact this
  · match j, hj with
    | 0, hj =>
      obtain rfl : T = T' := by simpa using hj
      refine T.mono (h3 A.length T (by rw [List.getElem?_append_right (Nat.le_refl _), Nat.sub_self]; rfl)) (fun k hk => ?_) hz
      have hk' : L k = A.length + 2 := hk
      show L' k = 0 + 2
      rw [hL, if_neg (by omega), if_pos hk']
    | j + 1, hj =>
      have hj' : (A ++ B)[j]? = some T' := by simpa using hj
      by_cases hjl : j < A.length
      · rw [List.getElem?_append_left hjl] at hj'
        refine T'.mono (h3 j T' (by rw [List.getElem?_append_left hjl]; exact hj')) (fun k hk => ?_) hz
        have hk' : L k = j + 2 := hk
        show L' k = j + 1 + 2
        rw [hL, if_neg (by omega), if_neg (by omega), if_pos (by omega), hk']
      · rw [List.getElem?_append_right (by omega)] at hj'
        refine T'.mono (h3 (j + 1) T' (by rw [List.getElem?_append_right (by omega), show j + 1 - A.length = (j - A.length) + 1 by omega, List.getElem?_cons_succ]; exact hj')) (fun k hk => ?_) hz
        have hk' : L k = j + 1 + 2 := hk
        show L' k = j + 1 + 2
        rw [hL, if_neg (by omega), if_neg (by omega), if_neg (by omega), hk']
theorem Held.sink {F Z : BS} {W w : World} {A B : List Th} {T : Th} (h : Held F Z W (T :: (A ++ B)) w) : Held F Z W (A ++ T :: B) w := by
  obtain ⟨L, h1, h2, h3⟩ := h
  obtain ⟨L', hL⟩ : ∃ L' : Lab, ∀ k, L' k = if L k ≤ 1 then L k else if L k = 2 then A.length + 2 else if L k ≤ A.length + 2 then L k - 1 else L k := ⟨_, fun _ => rfl⟩
  have hz : ∀ k, L.is 1 k → L'.is 1 k := fun k hk => by
    have hk' : L k = 1 := hk
    show L' k = 1
    rw [hL, if_pos (by omega), hk']
  refine ⟨L', h1, fun k hk hF => ?_, fun j T' hj => ?_⟩
  · have := h2 k hk hF
    rw [show L' k = L k by rw [hL, if_pos (by have := this.1; omega)]]; exact this
  · by_cases hjl : j < A.length
    · rw [List.getElem?_append_left hjl] at hj
      refine T'.mono (h3 (j + 1) T' (by rw [List.getElem?_cons_succ, List.getElem?_append_left hjl]; exact hj)) (fun k hk => ?_) hz
      have hk' : L k = j + 1 + 2 := hk
      show L' k = j + 2
      rw [hL, if_neg (by omega), if_neg (by omega), if_pos (by omega), hk']; omega
    · rw [List.getElem?_append_right (by omega)] at hj
      by_cases hje : j = A.length
      · subst hje
        rw [Nat.sub_self] at hj
        obtain rfl : T = T' := by simpa using hj
        refine T.mono (h3 0 T rfl) (fun k hk => ?_) hz
        have hk' : L k = 0 + 2 := hk
        show L' k = A.length + 2
        rw [hL, if_neg (by omega), if_pos (by omega)]
      · rw [show j - A.length = (j - A.length - 1) + 1 by omega, List.getElem?_cons_succ] at hj
        refine T'.mono (h3 j T' (by rw [show j = (j - 1) + 1 by omega, List.getElem?_cons_succ, List.getElem?_append_right (by omega), show j - 1 - A.length = j - A.length - 1 by omega]; exact hj)) (fun k hk => ?_) hz
        have hk' : L k = j + 2 := hk
        show L' k = j + 2
        rw [hL, if_neg (by omega), if_neg (by omega), if_neg (by omega), hk']
/-! the things -/
abbrev wrRow (x : Wr) (v : Value) : Obj := .cells #[.int .i64 (x.win : Int), .int .i64 2, v, .int .i64 (x.all.length : Int), .int .i64 (x.base : Int), .int .i64 (x.next : Int), .int .i64 (x.top : Int), .int .i64 (x.room : Int), .int .i64 (x.idle : Int), .bool x.closed, .bool x.ended, .bool x.marked, .bool x.done] 76
abbrev wrThs (p : Nat) (x : Wr) (v : Value) : List Th := [tBlk p (wrRow x v), tSq eU8 5 v (x.all.drop x.base)]
def tWr (p : Nat) (x : Wr) : Th := tEx (wrThs p x)
abbrev stRow (S : St) (b : Nat) : Obj := .cells #[.int .i64 (S.win : Int), .int .i64 (S.off : Int), .int .i64 (S.next : Int), .map (some b), .int .i64 (S.fin : Int), .bool S.known] 107
abbrev stThs (p : Nat) (S : St) (b : Nat) : List Th := [tBlk p (stRow S b), tMap mU8 b S.n S.m]
def tSt (p : Nat) (S : St) : Th := tEx (stThs p S)
abbrev rdrThs (p : Nat) (S : St) (s : Nat) : List Th := [tBlk p (.cells #[.pointer (some ⟨s, 0, none⟩), .int .i64 (S.win : Int)] 81), tSt s S]
def tRdr (p : Nat) (S : St) : Th := tEx (rdrThs p S)
abbrev ledThs (p : Nat) (L : Led) (i : Value × Nat) : List Th := [tBlk p (.cells #[i.1, .map (some i.2)] 74), tSq eEnt 45 i.1 L.es, tMap mBal i.2 L.es.length L.m]
def tLed (p : Nat) (L : Led) : Th := tEx (ledThs p L)
/-- where a line's parts lie -/
structure LnV where
  wp : Nat
  rp : Nat
  wv : Value
  rv : Value
  sv : Value
  av : Value
  dv : Value
abbrev lnRow (_ : Ln) (v : LnV) (top base : Nat) : Obj := .cells #[.pointer (some ⟨v.wp, 0, none⟩), .pointer (some ⟨v.rp, 0, none⟩), v.wv, v.rv, v.sv, v.av, v.dv, .int .i64 (top : Int), .int .i64 (base : Int)] 35
end Go.Proofs.Ytbibippdafnenaa
