/- A port in memory: begin (a new session). -/
import Derived.Test.YtcocnfbhileheaaPorQ
import Derived.Test.YtcocnfbhileheaaPorR
import Derived.Deep.CutBlock
namespace Go.Proofs.Ytcocnfbhileheaa
open Go.RowKit

/-- the row of a port whose session may not be there yet -/
abbrev portRowG (a : Prt) (x : PV) (v10 v11 v12 v13 : Value) : Obj :=
  .cells #[.int .i64 (a.inc : Int), x.rv, .int .i64 (a.window : Int), .int .i64 (a.timeout : Int), .int .i64 (a.dead : Int), .pointer (some ⟨x.sp, 0, none⟩), .pointer (some ⟨x.ap, 0, none⟩), x.wv, x.bv, .int .i64 (a.peer : Int),
    v10, v11, v12, v13, x.bsv, x.kv, x.acv, x.rev, x.tav, .int .i64 (a.overflows : Int)] 101
/-- the frames of a class that are sent again -/
def again (kept : List (Nat × Bytes)) (c : Nat) : List Bytes := (kept.filter fun f => f.1 == c).map (·.2)
theorem again_snoc {kept : List (Nat × Bytes)} {k c : Nat} {f : Nat × Bytes} (hk : kept[k]? = some f) : again (kept.take (k + 1)) c = again (kept.take k) c ++ (if f.1 == c then [f.2] else []) := by
  unfold again
  rw [List.take_succ_eq_append_getElem (lt_of_get hk), List.filter_append, List.map_append]
  have : kept[k]'(lt_of_get hk) = f := by rw [List.getElem?_eq_getElem (lt_of_get hk)] at hk; exact Option.some.inj hk
  rw [this]
  congr 1
  by_cases h : (f.1 == c) = true
  · rw [if_pos h]; simp only [List.filter, h]; rfl
  · have h' : (f.1 == c) = false := by simpa using h
    rw [if_neg h]; simp only [List.filter, h']; rfl
theorem again_le (kept : List (Nat × Bytes)) (c : Nat) : (again kept c).length ≤ kept.length := by
  unfold again; rw [List.length_map]; exact List.length_filter_le _ _
def waitTo (p : Prt) (j : Nat) : List (List Bytes) := (List.range p.waiting.length).map fun c => if c < j then again p.kept c ++ p.waiting.getD c [] else p.waiting.getD c []
theorem waitTo_length (p : Prt) (j : Nat) : (waitTo p j).length = p.waiting.length := by simp [waitTo]
theorem waitTo_zero (p : Prt) : waitTo p 0 = p.waiting := by
  apply List.ext_getElem
  · simp [waitTo]
  · intro i h1 h2; simp [waitTo, List.getD, h2]
theorem waitTo_get {p : Prt} {j : Nat} (hj : j < p.waiting.length) : (waitTo p j)[j]? = some (p.waiting.getD j []) := by
  unfold waitTo
  rw [List.getElem?_map, List.getElem?_range hj, Option.map_some, if_neg (by omega)]
theorem waitTo_set {p : Prt} {j : Nat} : (waitTo p j).set j (again p.kept j ++ p.waiting.getD j []) = waitTo p (j + 1) := by
  apply List.ext_getElem?
  intro i
  rw [List.getElem?_set]
  unfold waitTo
  by_cases hij : j = i
  · subst hij
    rw [if_pos rfl]
    by_cases hl : j < p.waiting.length
    · rw [if_pos (by simpa using hl), List.getElem?_map, List.getElem?_range hl, Option.map_some, if_pos (by omega)]
    · rw [if_neg (by simpa using hl), List.getElem?_map, List.getElem?_eq_none (by simp; omega)]; rfl
  · rw [if_neg hij, List.getElem?_map, List.getElem?_map]
    by_cases hl : i < p.waiting.length
    · rw [List.getElem?_range hl, Option.map_some, Option.map_some]
      by_cases h : i < j
      · simp only [if_pos h, if_pos (show i < j + 1 by omega)]
      · simp only [if_neg h, if_neg (show ¬ i < j + 1 by omega)]
    · rw [List.getElem?_eq_none (by simp; omega)]; rfl
theorem waitTo_all (p : Prt) : waitTo p p.waiting.length = (List.range p.waiting.length).map fun c => ((p.kept.filter fun f => f.1 == c).map (·.2)) ++ p.waiting.getD c [] := by
  unfold waitTo
  refine List.map_congr_left fun c hc => ?_
  rw [if_pos (by simpa using hc)]; rfl
theorem kept_at {T : TypeId} {w : World} {F Z : BS} {b off n cap : Nat} {ks : List (Nat × List (BitVec 8))} {i c : Nat} {d : List (BitVec 8)} (h : Sq eKept T w F Z (.slice (some ⟨b, off, none⟩) n cap) ks) (hi : ks[i]? = some (c, d)) :
    ∃ v, w.cell? ⟨b, off + i * 2, none⟩ = some (.int .i64 (c : Int)) ∧ w.cell? ⟨b, off + i * 2 + 1, none⟩ = some v ∧ ByZ w Z v d := by
  obtain ⟨b', off', cs, A, e, _, h2, _, h4⟩ := h.at (by decide : 0 < 2) hi
  obtain ⟨rfl, rfl⟩ : b = b' ∧ off = off' := by simpa using e
  obtain ⟨c1, d1, G, H, rfl, _, _, _, h5, v, rfl, h6⟩ := h2
  obtain rfl : c1 = [.int .i64 (c : Int)] := h5
  exact ⟨v, h4 0 _ rfl, h4 1 _ rfl, h6⟩
/-- a list that is written from the front -/
def upTo {α : Type} (n : Nat) (f g : Nat → α) (j : Nat) : List α := (List.range n).map fun i => if i < j then f i else g i
theorem upTo_length {α : Type} (n : Nat) (f g : Nat → α) (j : Nat) : (upTo n f g j).length = n := by simp [upTo]
theorem upTo_zero {α : Type} (n : Nat) (f g : Nat → α) : upTo n f g 0 = (List.range n).map g := by
  unfold upTo
  exact List.map_congr_left fun i _ => if_neg (by omega)
theorem upTo_all {α : Type} (n : Nat) (f g : Nat → α) : upTo n f g n = (List.range n).map f := by
  unfold upTo
  exact List.map_congr_left fun i hi => if_pos (by simpa using hi)
theorem upTo_get {α : Type} {n : Nat} {f g : Nat → α} {j : Nat} (hj : j < n) : (upTo n f g j)[j]? = some (g j) := by
  unfold upTo
  rw [List.getElem?_map, List.getElem?_range hj, Option.map_some, if_neg (by omega)]
theorem upTo_set {α : Type} {n : Nat} {f g : Nat → α} {j : Nat} : (upTo n f g j).set j (f j) = upTo n f g (j + 1) := by
  apply List.ext_getElem?
  intro i
  rw [List.getElem?_set]
  unfold upTo
  by_cases hij : j = i
  · subst hij
    rw [if_pos rfl]
    by_cases hl : j < n
    · rw [if_pos (by simpa using hl), List.getElem?_map, List.getElem?_range hl, Option.map_some, if_pos (by omega)]
    · rw [if_neg (by simpa using hl), List.getElem?_map, List.getElem?_eq_none (by simp; omega)]; rfl
  · rw [if_neg hij, List.getElem?_map, List.getElem?_map]
    by_cases hl : i < n
    · rw [List.getElem?_range hl, Option.map_some, Option.map_some]
      by_cases h : i < j
      · simp only [if_pos h, if_pos (show i < j + 1 by omega)]
      · simp only [if_neg h, if_neg (show ¬ i < j + 1 by omega)]
    · rw [List.getElem?_eq_none (by simp; omega)]; rfl
theorem map_getD {α : Type} (l : List α) (d : α) : (List.range l.length).map (fun i => l.getD i d) = l := by
  apply List.ext_getElem
  · simp
  · intro i h1 h2; simp [List.getD, h2]
theorem held_eq (r : Nat) : ∀ k, Giv.held ⟨r, 0, 0⟩ k = ⟨r, min k r, 0⟩
  | 0 => by simp [Giv.held]
  | k + 1 => by
    unfold Giv.held
    rw [held_eq r k]
    unfold Giv.receive Giv.limit
    split
    · rename_i h; simp only [Giv.mk.injEq, true_and, and_true]; dsimp only at h; omega
    · rename_i h; simp only [Giv.mk.injEq, true_and, and_true]; dsimp only at h; omega
abbrev givB (a : Prt) (j : Nat) : List Giv := upTo a.rooms.length (fun i => ⟨a.rooms.getD i 0, min (a.buffer.getD i []).length (a.rooms.getD i 0), 0⟩) (fun i => ⟨a.rooms.getD i 0, 0, 0⟩) j
abbrev baseB (a : Prt) (j : Nat) : List Nat := upTo a.rooms.length (fun i => (a.buffer.getD i []).length) (fun i => a.base.getD i 0) j
theorem givB_zero (a : Prt) : givB a 0 = a.rooms.map fun r => ⟨r, 0, 0⟩ := by
  rw [givB, upTo_zero]
  conv => rhs; rw [← map_getD a.rooms 0]
  rw [List.map_map]; rfl
theorem givB_all (a : Prt) (peer : Nat) : givB a a.rooms.length = (a.begin peer).giv := by
  rw [givB, upTo_all]
  unfold Prt.begin
  refine List.map_congr_left fun i _ => ?_
  rw [held_eq]
theorem baseB_zero {a : Prt} (h : a.base.length = a.rooms.length) : baseB a 0 = a.base := by
  rw [baseB, upTo_zero, ← h, map_getD]
theorem baseB_all {a : Prt} (h : a.buffer.length = a.rooms.length) (peer : Nat) : baseB a a.rooms.length = (a.begin peer).base := by
  rw [baseB, upTo_all]
  unfold Prt.begin
  dsimp only
  conv => rhs; rw [← map_getD a.buffer []]
  rw [List.map_map, h]; rfl
/-- what begin needs to be bounded -/
structure Prt.Beg (N : Nat) (p : Prt) : Prop where
  n1 : 1 ≤ p.rooms.length
  n4 : p.rooms.length ≤ 4
  rm : ∀ x ∈ p.rooms, 1 ≤ x ∧ x ≤ 64
  w1 : 1 ≤ p.window
  w2 : p.window ≤ 128
  t1 : 1 ≤ p.timeout
  t2 : p.timeout ≤ 1000
  wl : p.waiting.length = p.rooms.length
  bl : p.buffer.length = p.rooms.length
  sl : p.base.length = p.rooms.length
  kl : p.kept.length ≤ 128
  wln : ∀ l ∈ p.waiting, l.length ≤ N
  bln : ∀ l ∈ p.buffer, l.length ≤ N
abbrev begThs (p : Nat) (a : Prt) (x : PV) (v10 v11 v12 v13 : Value) : List Th :=
  [tBlk p (portRowG a x v10 v11 v12 v13), tSq eNat 3 x.rv a.rooms, tSq (eSq eBy 31) 48 x.wv a.waiting, tSq (eSq eBy 31) 48 x.bv a.buffer, tSq eNat 3 x.bsv a.base, tSq eKept 134 x.kv a.kept]
/-- behind begin -/
def BegPost (F Z : BS) (W : World) (ts : List Th) (p : Nat) (a : Prt) (x : PV) (peer : Nat) (e : Ending) (w' : World) : Prop :=
  e = .returned (.tuple #[]) ∧ ∃ (snp rcp tkp gvp : Nat), Held F Z W ([tBlk p (portRow (a.begin peer) { x with snp := snp, rcp := rcp, tkp := tkp, gvp := gvp, kv := .slice none 0 0 }), tSq eNat 3 x.rv a.rooms, tSq (eSq eBy 31) 48 x.wv (a.begin peer).waiting, tSq (eSq eBy 31) 48 x.bv a.buffer,
    tSq eNat 3 x.bsv (a.begin peer).base, tSq eKept 134 (.slice none 0 0) [], tSnd snp (a.begin peer).snd, tRcv rcp 0, tTak tkp (a.begin peer).tak, tGiv gvp (a.begin peer).giv] ++ ts) w'
theorem portG_cells {w : World} {p : Nat} {a : Prt} {x : PV} {v10 v11 v12 v13 : Value} (h : w.heap[p]? = some (portRowG a x v10 v11 v12 v13)) :
    w.cell? ⟨p, 1, none⟩ = some x.rv ∧ w.cell? ⟨p, 2, none⟩ = some (.int .i64 (a.window : Int)) ∧ w.cell? ⟨p, 3, none⟩ = some (.int .i64 (a.timeout : Int)) ∧ w.cell? ⟨p, 7, none⟩ = some x.wv ∧ w.cell? ⟨p, 8, none⟩ = some x.bv ∧ w.cell? ⟨p, 9, none⟩ = some (.int .i64 (a.peer : Int)) ∧
    w.cell? ⟨p, 10, none⟩ = some v10 ∧ w.cell? ⟨p, 11, none⟩ = some v11 ∧ w.cell? ⟨p, 12, none⟩ = some v12 ∧ w.cell? ⟨p, 13, none⟩ = some v13 ∧ w.cell? ⟨p, 14, none⟩ = some x.bsv ∧ w.cell? ⟨p, 15, none⟩ = some x.kv :=
  ⟨blk_cell h rfl, blk_cell h rfl, blk_cell h rfl, blk_cell h rfl, blk_cell h rfl, blk_cell h rfl, blk_cell h rfl, blk_cell h rfl, blk_cell h rfl, blk_cell h rfl, blk_cell h rfl, blk_cell h rfl⟩
end Go.Proofs.Ytcocnfbhileheaa
