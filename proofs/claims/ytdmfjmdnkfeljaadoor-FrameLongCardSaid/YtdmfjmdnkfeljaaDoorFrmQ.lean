/- What a scanner finds: the laws of scanning in plain words. No program in sight. -/
import Derived.Test.YtdmfjmdnkfeljaaDoorFrmP
namespace Go.Proofs.YtdmfjmdnkfeljaaDoor

theorem data_ne : ∀ x : Byte, isData x = true → x ≠ 49 ∧ x ≠ 50 := by decide +kernel
theorem scan_data (d : List Byte) (b : Nat) : ∀ (ds : List Byte), (∀ s ∈ ds, isData s = true) → d.length + ds.length ≤ 162 → (⟨true, d, b⟩ : Sc).scan ds = (⟨true, d ++ ds, b⟩, [])
  | [], _, _ => by simp [Sc.scan]
  | x :: l, hd, hl => by
    have hx := hd x (by simp)
    simp only [List.length_cons] at hl
    have hp : (⟨true, d, b⟩ : Sc).push x = (⟨true, d ++ [x], b⟩, none) := by
      unfold Sc.push
      rw [if_neg (data_ne x hx).1, if_neg (by simp), if_pos ⟨hx, by show d.length < 162; omega⟩]
    have h := scan_data (d ++ [x]) b l (fun s hs => hd s (by simp [hs])) (by simp; omega)
    show (((⟨true, d, b⟩ : Sc).push x).1.scan l |>.1, ((⟨true, d, b⟩ : Sc).push x).2.toList ++ (((⟨true, d, b⟩ : Sc).push x).1.scan l).2) = _
    rw [hp, h, List.append_assoc]; rfl
theorem scan_out (s : Sc) (h : s.inside = false) : ∀ l : List Byte, (∀ x ∈ l, x ≠ 49) → s.scan l = (s, [])
  | [], _ => rfl
  | x :: l, hx => by
    have hp : s.push x = (s, none) := by
      unfold Sc.push
      rw [if_neg (hx x (by simp)), if_pos h]
    show ((s.push x).1.scan l |>.1, (s.push x).2.toList ++ ((s.push x).1.scan l).2) = _
    rw [hp, scan_out s h l fun y hy => hx y (by simp [hy])]; rfl
theorem push_start (s : Sc) : s.push 49 = (⟨true, [], if s.inside then s.bad + 1 else s.bad⟩, none) := by unfold Sc.push; rw [if_pos rfl]
theorem scan_cons (s : Sc) (x : Byte) (l : List Byte) : s.scan (x :: l) = (((s.push x).1.scan l).1, (s.push x).2.toList ++ ((s.push x).1.scan l).2) := rfl
/-- whatever was before, the packet is found -/
theorem scan_sym {p : Pk} (h : Good p) (s : Sc) : s.scan (symP p) = (⟨false, [], if s.inside then s.bad + 1 else s.bad⟩, [p]) := by
  have hp := h.pay
  have hl : (encS (encP p)).length ≤ 162 := by rw [encS_length, encP_length]; omega
  unfold symP
  rw [scan_cons, push_start]
  generalize (if s.inside then s.bad + 1 else s.bad) = b
  have hd := scan_data [] b (encS (encP p)) (encS_data _) (by simpa using hl)
  rw [Sc.scan_app, hd, List.nil_append]
  have hq : (⟨true, encS (encP p), b⟩ : Sc).push 50 = (⟨false, [], b⟩, some p) := by
    unfold Sc.push
    have e1 : decS (encS (encP p)) = (encP p, -1, 0) := decS_encS _
    rw [if_neg (by decide), if_neg (by simp), if_neg (fun hh => absurd hh.1 (by decide))]
    show (if (50 : Byte) = 50 ∧ (decS (encS (encP p))).2.2 = 0 ∧ (decP (decS (encS (encP p))).1).2 = 0 then ((⟨false, [], b⟩ : Sc), some (decP (decS (encS (encP p))).1).1) else (⟨false, [], b + 1⟩, none)) = _
    rw [e1]
    show (if (50 : Byte) = 50 ∧ (0 : Int) = 0 ∧ (decP (encP p)).2 = 0 then ((⟨false, [], b⟩ : Sc), some (decP (encP p)).1) else (⟨false, [], b + 1⟩, none)) = _
    rw [decP_encP h]
    rfl
  rw [scan_cons, hq]; rfl
theorem scan_found {p : Pk} (h : Good p) (l : List Byte) : (Sc.new.scan (l ++ symP p)).2 = (Sc.new.scan l).2 ++ [p] ∧ ((Sc.new.scan (l ++ symP p)).1.bad = (Sc.new.scan l).1.bad ∨ (Sc.new.scan (l ++ symP p)).1.bad = (Sc.new.scan l).1.bad + 1) := by
  rw [Sc.scan_app, scan_sym h]
  refine ⟨rfl, ?_⟩
  show (if _ then _ else _) = _ ∨ (if _ then _ else _) = _
  cases (Sc.new.scan l).1.inside <;> simp
/-- packets one behind another, with idle symbols before each -/
def stream : List (Nat × Pk) → List Byte
  | [] => []
  | (n, p) :: l => List.replicate n 52 ++ symP p ++ stream l
theorem scan_stream (b : Nat) : ∀ (l : List (Nat × Pk)), (∀ x ∈ l, Good x.2) → (⟨false, [], b⟩ : Sc).scan (stream l) = (⟨false, [], b⟩, l.map (·.2))
  | [], _ => rfl
  | (n, p) :: l, h => by
    unfold stream
    rw [Sc.scan_app, Sc.scan_app, scan_out ⟨false, [], b⟩ rfl (List.replicate n 52) (fun x hx => by rw [List.eq_of_mem_replicate hx]; decide), scan_sym (h (n, p) (by simp))]
    show (((⟨false, [], b⟩ : Sc).scan (stream l)).1, ([] ++ [p]) ++ ((⟨false, [], b⟩ : Sc).scan (stream l)).2) = _
    rw [scan_stream b l fun x hx => h x (by simp [hx])]; rfl
/-- a bit of a symbol inverted -/
def flipS (x : Byte) (k : Nat) : Byte := x ^^^ (1#8 <<< (5 - k))
theorem flipS_bad : ∀ (n : Fin 20) (k : Fin 6), idx (flipS (sym n.val) k.val) = 20 := by decide +kernel
theorem flipS_bad' {x : Byte} (h : idx x < 20) {k : Nat} (hk : k < 6) : idx (flipS x k) = 20 := by
  have := flipS_bad ⟨idx x, h⟩ ⟨k, hk⟩
  rwa [sym_idx x h] at this
theorem bad_ne : ∀ x : Byte, idx x = 20 → x ≠ 49 ∧ x ≠ 50 ∧ isData x = false := by decide +kernel
/-- an invalid symbol in the place of one of a packet's: nothing is found, and the scanner is outside -/
theorem scan_broken {p : Pk} (h : Good p) {i : Nat} (hi : i < (symP p).length) (y : Byte) (hy : idx y = 20) : ∃ b, b ≤ 1 ∧ Sc.new.scan ((symP p).set i y) = (⟨false, [], b⟩, []) := by
  obtain ⟨h1, h2, h3⟩ := bad_ne y hy
  have hp := h.pay
  have hl : (encS (encP p)).length ≤ 162 := by rw [encS_length, encP_length]; omega
  have h49 : ∀ x ∈ encS (encP p) ++ [50], x ≠ (49 : Byte) := fun x hx => by
    rcases List.mem_append.1 hx with hx | hx
    · exact (data_ne x (encS_data _ x hx)).1
    · rw [List.mem_singleton.1 hx]; decide
  have hbad : ∀ (d : List Byte), (⟨true, d, 0⟩ : Sc).push y = (⟨false, [], 1⟩, none) := fun d => by
    unfold Sc.push
    rw [if_neg h1, if_neg (by simp), if_neg (fun hh => by rw [h3] at hh; cases hh.1), if_neg (fun hh => h2 hh.1)]
  have hset : ∀ x ∈ (encS (encP p) ++ [50]), ∀ n, x ∈ (encS (encP p) ++ [50]).drop n → x ≠ (49 : Byte) := fun x hx _ _ => h49 x hx
  match i, hi with
  | 0, _ =>
    refine ⟨0, by omega, ?_⟩
    show Sc.new.scan (y :: (encS (encP p) ++ [50])) = _
    exact scan_out Sc.new rfl _ fun x hx => by
      rcases List.mem_cons.1 hx with rfl | hx
      · exact h1
      · exact h49 x hx
  | i + 1, hi =>
    refine ⟨1, by omega, ?_⟩
    show Sc.new.scan (49 :: (encS (encP p) ++ [50]).set i y) = _
    have hi' : i < (encS (encP p) ++ [50]).length := by unfold symP at hi; simpa using hi
    rw [List.set_eq_take_append_cons_drop, if_pos hi', scan_cons, push_start, Sc.scan_app]
    have hil : i ≤ (encS (encP p)).length := by simp at hi'; omega
    have ht : (encS (encP p) ++ [50]).take i = (encS (encP p)).take i := by rw [List.take_append_of_le_length hil]
    rw [ht]
    have hd := scan_data [] 0 ((encS (encP p)).take i) (fun s hs => encS_data _ s (List.mem_of_mem_take hs)) (by simp; omega)
    show (((⟨true, [], 0⟩ : Sc).scan _).1.scan _ |>.1, [] ++ (((⟨true, [], 0⟩ : Sc).scan _).2 ++ (((⟨true, [], 0⟩ : Sc).scan _).1.scan _).2)) = _
    rw [hd, scan_cons]
    show ((((⟨true, [] ++ (encS (encP p)).take i, 0⟩ : Sc).push y).1.scan _).1, [] ++ ([] ++ (((⟨true, [] ++ (encS (encP p)).take i, 0⟩ : Sc).push y).2.toList ++ (((⟨true, [] ++ (encS (encP p)).take i, 0⟩ : Sc).push y).1.scan _).2))) = _
    rw [hbad, scan_out ⟨false, [], 1⟩ rfl _ fun x hx => h49 x (List.mem_of_mem_drop hx)]
    rfl
theorem scan_flip {p q : Pk} (h : Good p) (hq : Good q) {i : Nat} (hi : i < (symP p).length) (y : Byte) (hy : idx y = 20) : (Sc.new.scan ((symP p).set i y ++ symP q)).2 = [q] ∧ (Sc.new.scan ((symP p).set i y ++ symP q)).1.bad ≤ 1 := by
  obtain ⟨b, hb, hs⟩ := scan_broken h hi y hy
  rw [Sc.scan_app, hs, scan_sym hq]
  exact ⟨rfl, hb⟩
/-- every symbol of a packet is valid -/
theorem sym_valid (p : Pk) : ∀ x ∈ symP p, idx x < 20 := fun x hx => by
  unfold symP at hx
  rcases List.mem_cons.1 hx with rfl | hx
  · decide
  · rcases List.mem_append.1 hx with hx | hx
    · have := encS_data _ x hx
      unfold isData at this
      have h16 : idx x < 16 := by simpa using this
      omega
    · rw [List.mem_singleton.1 hx]; decide
/-! parts and more -/
theorem dec_take {p : Pk} (h : Good p) {k : Nat} (hk : k < (encP p).length) : (decP ((encP p).take k)).2 = if k < 17 then 4 else 3 := by
  have hl := encP_length p
  have ht : ((encP p).take k).length = k := by rw [List.length_take]; omega
  by_cases hk17 : k < 17
  · rw [decP_short (by rw [ht]; exact hk17), if_pos hk17]
  · have h12 : ((encP p).take k).getD 12 0 = (encP p).getD 12 0 := by unfold List.getD; rw [List.getElem?_take, if_pos (by omega)]
    rw [decP_form (by rw [ht]; omega) (by rw [h12, encP_12 p h.pay, ht]; right; omega), if_neg hk17]
theorem dec_more {p : Pk} (h : Good p) {more : List Byte} (hm : more ≠ []) : (decP (encP p ++ more)).2 = 3 := by
  have hl := encP_length p
  have hml : 0 < more.length := List.length_pos_iff.2 hm
  rw [decP_form (by rw [List.length_append]; omega) (by rw [getD_app_left (by omega), encP_12 p h.pay, List.length_append]; right; omega)]
/-! a packet that does not end -/
theorem scan_long (x : Byte) (hx : isData x = true) (n : Nat) : ((Sc.new.push 49).1.scan (List.replicate n x)).2 = [] ∧ ((Sc.new.push 49).1.scan (List.replicate n x)).1 = if n ≤ 162 then (⟨true, List.replicate n x, 0⟩ : Sc) else ⟨false, [], 1⟩ := by
  rw [push_start]
  show ((⟨true, [], 0⟩ : Sc).scan (List.replicate n x)).2 = [] ∧ ((⟨true, [], 0⟩ : Sc).scan (List.replicate n x)).1 = _
  have hr : ∀ m, ∀ s ∈ List.replicate m x, isData s = true := fun m s hs => by rw [List.eq_of_mem_replicate hs]; exact hx
  by_cases hn : n ≤ 162
  · rw [if_pos hn, scan_data [] 0 _ (hr n) (by simpa using hn)]
    exact ⟨rfl, rfl⟩
  · obtain ⟨m, rfl⟩ : ∃ m, n = 162 + (m + 1) := ⟨n - 163, by omega⟩
    rw [if_neg hn, ← List.replicate_append_replicate, Sc.scan_app, scan_data [] 0 _ (hr 162) (by simp), show List.replicate (m + 1) x = x :: List.replicate m x from rfl, scan_cons]
    have hp : (⟨true, [] ++ List.replicate 162 x, 0⟩ : Sc).push x = (⟨false, [], 1⟩, none) := by
      unfold Sc.push
      rw [if_neg (data_ne x hx).1, if_neg (by simp), if_neg (fun hh => by have h2 : ([] ++ List.replicate 162 x : List Byte).length < 162 := hh.2; rw [List.nil_append, List.length_replicate] at h2; exact absurd h2 (by omega)), if_neg (fun hh => (data_ne x hx).2 hh.1)]
    show _ ++ (_ ++ _) = _ ∧ _
    rw [hp, scan_out ⟨false, [], 1⟩ rfl _ fun y hy => by rw [List.eq_of_mem_replicate hy]; exact (data_ne x hx).1]
    exact ⟨rfl, rfl⟩
end Go.Proofs.YtdmfjmdnkfeljaaDoor
