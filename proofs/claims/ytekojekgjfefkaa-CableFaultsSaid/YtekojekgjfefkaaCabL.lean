/- A cable without faults that carries one transmission a tick, in plain words. No condition on the program. -/
import Derived.Test.YtekojekgjfefkaaCabJ
namespace Go.Proofs.Ytekojekgjfefkaa

/-- what is sent, with the tick in which it arrives -/
def trP (d : Nat) (l : List Byt) : List (Nat × Byt) := l.zipIdx.map fun y => (y.2 + d, y.1)
theorem trP_length (d : Nat) (l : List Byt) : (trP d l).length = l.length := by simp [trP]
theorem trP_get {d : Nat} {l : List Byt} {k : Nat} {x : Byt} (h : l[k]? = some x) : (trP d l)[k]? = some (k + d, x) := by
  unfold trP; rw [List.getElem?_map, List.getElem?_zipIdx, h]; simp
theorem trP_due {d : Nat} {l : List Byt} {k : Nat} {y : Nat × Byt} (h : (trP d l)[k]? = some y) : y.1 = k + d ∧ l[k]? = some y.2 := by
  have hl : k < l.length := by
    rw [← trP_length d l]
    rcases Nat.lt_or_ge k (trP d l).length with h' | h'
    · exact h'
    · rw [List.getElem?_eq_none h'] at h; cases h
  have := trP_get (d := d) (List.getElem?_eq_getElem hl)
  rw [this] at h
  obtain rfl := Option.some.inj h
  exact ⟨rfl, List.getElem?_eq_getElem hl⟩
/-- before tick i: l holds those that are sent, at most 64 -/
def carC (d : Nat) (l : List Byt) (i : Nat) : Cab := ⟨d, [], true, i, min i l.length, 0, ((trP d l).take i).drop (i + 1 - d)⟩
def carS (d : Nat) (l : List Byt) (i : Nat) : Cab := ⟨d, [], true, i, min (i + 1) l.length, 0, ((trP d l).take (i + 1)).drop (i + 1 - d)⟩
theorem carC_0 (d : Nat) (l : List Byt) (_ : 1 ≤ d) : carC d l 0 = Cab.new d [] := by unfold carC Cab.new; simp
theorem carC_send {d : Nat} {l : List Byt} {i : Nat} {x : Byt} (hd : 1 ≤ d) (hl : l.length ≤ 64) (hx : l[i]? = some x) : (carC d l i).send x = (0, carS d l i) := by
  have hil : i < l.length := by
    rcases Nat.lt_or_ge i l.length with h | h
    · exact h
    · rw [List.getElem?_eq_none h] at hx; cases hx
  rw [send_room rfl rfl (by show (((trP d l).take i).drop (i + 1 - d)).length < 64; rw [List.length_drop, List.length_take, trP_length]; omega)]
  unfold carC carS
  simp only [Prod.mk.injEq, true_and]
  rw [show min i l.length + 1 = min (i + 1) l.length by omega]
  congr 1
  rw [List.take_add_one, trP_get hx, List.drop_append_of_le_length (by rw [List.length_take, trP_length]; omega)]
  rfl
theorem carC_past {d : Nat} {l : List Byt} {i : Nat} (h : l.length ≤ i) : carC d l i = carS d l i := by
  unfold carC carS
  rw [List.take_of_length_le (by rw [trP_length]; omega), List.take_of_length_le (by rw [trP_length]; omega), show min i l.length = min (i + 1) l.length by omega]
/-- what arrives in tick i: one, or none -/
def carA (d : Nat) (l : List Byt) (i : Nat) : List Byt := (l.take (i + 2 - d)).drop (i + 1 - d)
theorem carA_len (d : Nat) (l : List Byt) (i : Nat) : (carA d l i).length ≤ 1 ∧ (i + 1 < d → carA d l i = []) := by
  unfold carA
  refine ⟨by rw [List.length_drop, List.length_take]; omega, fun h => ?_⟩
  rw [show i + 2 - d = 0 ∨ i + 2 - d = 1 by omega |>.elim id (fun _ => by omega)]
  simp
theorem carA_app (d : Nat) (l : List Byt) (i : Nat) : l.take (i + 1 - d) ++ carA d l i = l.take (i + 1 + 1 - d) := by
  unfold carA
  have h : l.take (i + 1 - d) = (l.take (i + 2 - d)).take (i + 1 - d) := by rw [List.take_take, Nat.min_eq_left (by omega)]
  rw [h, List.take_append_drop]
theorem carS_tick {d : Nat} {l : List Byt} {i : Nat} (hd : 1 ≤ d) : (carS d l i).tick = (carA d l i, carC d l (i + 1)) := by
  have harr : (carS d l i).arrived = (((trP d l).take (i + 1)).drop (i + 1 - d)).take (i + 2 - d - (i + 1 - d)) := by
    unfold Cab.arrived
    show (((trP d l).take (i + 1)).drop (i + 1 - d)).takeWhile (fun x => decide (x.1 ≤ i + 1)) = _
    have hget : ∀ (k : Nat) y, (((trP d l).take (i + 1)).drop (i + 1 - d))[k]? = some y → y.1 = i + 1 - d + k + d := fun k y h => by
      rw [List.getElem?_drop, List.getElem?_take] at h
      split at h
      · exact (trP_due h).1
      · cases h
    generalize ((trP d l).take (i + 1)).drop (i + 1 - d) = L at hget
    cases L with
    | nil => simp
    | cons a L =>
      have h0 := hget 0 a rfl
      by_cases hi : i + 1 < d
      · rw [List.takeWhile_cons, if_neg (by simp; omega), show i + 2 - d - (i + 1 - d) = 0 ∨ i + 2 - d - (i + 1 - d) = 1 by omega |>.elim id (fun h => by omega)]
        rfl
      · rw [List.takeWhile_cons, if_pos (by simp; omega), show i + 2 - d - (i + 1 - d) = 1 by omega, List.take_succ_cons, List.take_zero]
        congr 1
        cases L with
        | nil => rfl
        | cons b L =>
          have h1 := hget 1 b rfl
          rw [List.takeWhile_cons, if_neg (by simp; omega)]
  have hm2 : (trP d l).map (·.2) = l := by
    unfold trP; rw [List.map_map]
    exact List.zipIdx_map_fst 0 l
  have hmm : i + 2 - d - (i + 1 - d) ≤ i + 1 - (i + 1 - d) := by omega
  have hsum : i + 1 - d + (i + 2 - d - (i + 1 - d)) = i + 2 - d := by omega
  have e1 : (carS d l i).arrived.map (fun x => x.2) = carA d l i := by
    rw [harr, List.map_take, List.map_drop, List.map_take, hm2]
    unfold carA
    rw [List.drop_take, List.take_take, List.drop_take, Nat.min_eq_left hmm]
  have e2 : (carS d l i).flying.drop (carS d l i).arrived.length = ((trP d l).take (i + 1)).drop (i + 1 + 1 - d) := by
    rw [harr]
    show (((trP d l).take (i + 1)).drop (i + 1 - d)).drop _ = _
    rw [List.length_take]
    rcases Nat.le_total (i + 2 - d - (i + 1 - d)) (((trP d l).take (i + 1)).drop (i + 1 - d)).length with h | h
    · rw [Nat.min_eq_left h, List.drop_drop, hsum]
    · rw [Nat.min_eq_right h, List.drop_length, List.drop_eq_nil_of_le]
      rw [List.length_drop] at h
      omega
  unfold Cab.tick
  rw [e1, e2]
  rfl
theorem carC_end {d : Nat} {l : List Byt} {i : Nat} (h : l.length + d ≤ i) : (carC d l i).flying = [] ∧ l.take (i + 1 - d) = l := by
  refine ⟨?_, List.take_of_length_le (by omega)⟩
  unfold carC
  exact List.drop_eq_nil_of_le (by rw [List.length_take, trP_length]; omega)
theorem carC_ok {d : Nat} {l : List Byt} (h1 : 1 ≤ d) (h2 : d ≤ 100) (hl : l.length ≤ 64) (i : Nat) : (carC d l i).Ok := ⟨h1, h2, fun i j f g _ h => by simp [carC] at h, fun i f h => by simp [carC] at h, by
  show (((trP d l).take i).drop (i + 1 - d)).length ≤ 64
  rw [List.length_drop, List.length_take, trP_length]; omega⟩
end Go.Proofs.Ytekojekgjfefkaa
