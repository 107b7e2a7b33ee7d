/- A queue of events in plain words: the order, what the operations do. No condition on the program. -/
import Derived.Test.YtococphklfbidaaBv
namespace Go.Proofs.Ytococphklfbidaa

structure Ev where
  at' : Int
  kind : Int
  node : Int
  number : Int
  arg : Int
deriving DecidableEq
def Ev.zero : Ev := ⟨0, 0, 0, 0, 0⟩
/-- a comes before b -/
def Lt (a b : Ev) : Prop := a.at' < b.at' ∨ (a.at' = b.at' ∧ (a.kind < b.kind ∨ (a.kind = b.kind ∧ (a.node < b.node ∨ (a.node = b.node ∧ a.number < b.number)))))
instance (a b : Ev) : Decidable (Lt a b) := by unfold Lt; infer_instance
theorem Lt.irrefl (a : Ev) : ¬ Lt a a := by unfold Lt; omega
theorem Lt.trans {a b c : Ev} (h : Lt a b) (k : Lt b c) : Lt a c := by unfold Lt at *; omega
theorem Lt.asymm {a b : Ev} (h : Lt a b) : ¬ Lt b a := by unfold Lt at *; omega
theorem Lt.total {a b : Ev} (h : ¬ Lt a b) (hn : a.number ≠ b.number) : Lt b a := by unfold Lt at *; omega
theorem Lt.ge_trans {a b c : Ev} (h : ¬ Lt b a) (k : ¬ Lt c b) : ¬ Lt c a := by unfold Lt at *; omega
def cmpE (a b : Ev) : Int := if Lt a b then -1 else if Lt b a then 1 else 0
theorem cmpE_neg {a b : Ev} (h : Lt a b) : cmpE a b = -1 := if_pos h
theorem cmpE_nonneg {a b : Ev} (h : ¬ Lt a b) : 0 ≤ cmpE a b := by unfold cmpE; rw [if_neg h]; split <;> simp
def Srt (l : List Ev) : Prop := l.Pairwise Lt
theorem Srt.get {l : List Ev} (h : Srt l) {i j : Nat} {a b : Ev} (hij : i < j) (ha : l[i]? = some a) (hb : l[j]? = some b) : Lt a b := by
  have hi : i < l.length := by
    rcases Nat.lt_or_ge i l.length with h | h
    · exact h
    · rw [List.getElem?_eq_none h] at ha; cases ha
  have hj : j < l.length := by
    rcases Nat.lt_or_ge j l.length with h | h
    · exact h
    · rw [List.getElem?_eq_none h] at hb; cases hb
  have := List.pairwise_iff_getElem.1 h i j hi hj hij
  rw [List.getElem?_eq_getElem hi] at ha
  rw [List.getElem?_eq_getElem hj] at hb
  rw [← Option.some.inj ha, ← Option.some.inj hb]; exact this
/-- in its place in a list in order -/
def ins (e : Ev) : List Ev → List Ev
  | [] => [e]
  | a :: l => if Lt a e then a :: ins e l else e :: a :: l
theorem ins_length (e : Ev) : ∀ l, (ins e l).length = l.length + 1
  | [] => rfl
  | a :: l => by unfold ins; split <;> simp [ins_length e l]
theorem ins_perm (e : Ev) : ∀ l, (ins e l).Perm (e :: l)
  | [] => List.Perm.refl _
  | a :: l => by
    unfold ins
    split
    · exact ((ins_perm e l).cons a).trans (List.Perm.swap e a l)
    · exact List.Perm.refl _
theorem ins_mem {e x : Ev} {l : List Ev} : x ∈ ins e l ↔ x = e ∨ x ∈ l := by rw [(ins_perm e l).mem_iff, List.mem_cons]
theorem ins_srt {e : Ev} : ∀ {l : List Ev}, Srt l → (∀ a ∈ l, a.number ≠ e.number) → Srt (ins e l)
  | [], _, _ => by unfold ins; exact List.pairwise_singleton _ _
  | a :: l, h, hn => by
    obtain ⟨h1, h2⟩ := List.pairwise_cons.1 h
    unfold ins
    split
    · rename_i hl
      refine List.pairwise_cons.2 ⟨fun x hx => ?_, ins_srt h2 fun x hx => hn x (List.mem_cons_of_mem _ hx)⟩
      rcases ins_mem.1 hx with rfl | hx
      · exact hl
      · exact h1 x hx
    · rename_i hl
      have ha : Lt e a := Lt.total hl (hn a List.mem_cons_self)
      refine List.pairwise_cons.2 ⟨fun x hx => ?_, h⟩
      rcases List.mem_cons.1 hx with rfl | hx
      · exact ha
      · exact ha.trans (h1 x hx)
/-- the place that a search finds -/
theorem ins_at {e : Ev} : ∀ {l : List Ev} {i : Nat}, i ≤ l.length → (∀ k a, k < i → l[k]? = some a → Lt a e) → (∀ k a, i ≤ k → l[k]? = some a → ¬ Lt a e) → l.take i ++ e :: l.drop i = ins e l
  | [], i, hi, _, _ => by obtain rfl : i = 0 := by simpa using hi
                          rfl
  | a :: l, 0, _, _, h2 => by
    unfold ins
    rw [if_neg (h2 0 a (Nat.le_refl _) rfl)]; rfl
  | a :: l, i + 1, hi, h1, h2 => by
    unfold ins
    rw [if_pos (h1 0 a (by omega) rfl), List.take_succ_cons, List.drop_succ_cons, List.cons_append, ins_at (by simpa using hi) (fun k b hk hb => h1 (k + 1) b (by omega) (by simpa using hb)) fun k b hk hb => h2 (k + 1) b (by omega) (by simpa using hb)]
/-- a queue -/
structure Qu where
  now : Int
  last : Nat
  evs : List Ev
def Qu.new : Qu := ⟨0, 0, []⟩
/-- whether a place is one at which a queue takes an event -/
def okAt (now at' kind node : Int) : Bool := decide (now ≤ at') && decide (at' ≤ 1073741824) && decide (0 ≤ kind) && decide (kind ≤ 255) && decide (0 ≤ node) && decide (node < 16)
def Qu.push (q : Qu) (at' kind node arg : Int) : Qu × Int × Int :=
  if okAt q.now at' kind node = false then (q, 0, 2)
  else if 10000 ≤ q.evs.length then (q, 0, 5)
  else (⟨q.now, q.last + 1, ins ⟨at', kind, node, (q.last + 1 : Nat), arg⟩ q.evs⟩, ((q.last + 1 : Nat) : Int), 0)
def Qu.cancel (q : Qu) (number : Int) : Qu × Int :=
  if (q.evs.any fun e => e.number == number) then (⟨q.now, q.last, q.evs.filter fun e => !(e.number == number)⟩, 0) else (q, 7)
def Qu.pop (q : Qu) : Qu × Ev × Bool :=
  match q.evs with
  | [] => (q, Ev.zero, false)
  | e :: l => (⟨e.at', q.last, l⟩, e, true)
/-- Pop as long as the first is not behind a tick: the tick, what is left, what is taken -/
def runs (t : Int) : Int → List Ev → Int × List Ev × List Ev
  | now, [] => (now, [], [])
  | now, e :: l => if e.at' ≤ t then ((runs t e.at' l).1, (runs t e.at' l).2.1, e :: (runs t e.at' l).2.2) else (now, e :: l, [])
def Qu.until (q : Qu) (t : Int) : Qu × List Ev :=
  (⟨if t ≤ 1073741824 then max (runs t q.now q.evs).1 t else (runs t q.now q.evs).1, q.last, (runs t q.now q.evs).2.1⟩, (runs t q.now q.evs).2.2)
theorem runs_nil (t now : Int) : runs t now [] = (now, [], []) := rfl
theorem runs_stop {t now : Int} {e : Ev} {l : List Ev} (h : t < e.at') : runs t now (e :: l) = (now, e :: l, []) := by unfold runs; rw [if_neg (by omega)]
theorem runs_go {t now : Int} {e : Ev} {l : List Ev} (h : e.at' ≤ t) : runs t now (e :: l) = ((runs t e.at' l).1, (runs t e.at' l).2.1, e :: (runs t e.at' l).2.2) := by rw [runs, if_pos h]
theorem runs_app (t : Int) : ∀ (now : Int) (l : List Ev), (runs t now l).2.2 ++ (runs t now l).2.1 = l
  | _, [] => rfl
  | now, e :: l => by
    by_cases h : e.at' ≤ t
    · rw [runs_go h]; show e :: _ ++ _ = _; rw [List.cons_append, runs_app t e.at' l]
    · rw [runs_stop (by omega)]; rfl
/-- what holds of every queue: its events lie in order, have numbers of their own from 1 to the last, and lie ahead -/
structure Qu.Ok (q : Qu) : Prop where
  srt : Srt q.evs
  num : (q.evs.map (·.number)).Nodup
  le : ∀ e ∈ q.evs, 1 ≤ e.number ∧ e.number ≤ (q.last : Int)
  ahead : ∀ e ∈ q.evs, q.now ≤ e.at' ∧ e.at' ≤ 1073741824
  kind : ∀ e ∈ q.evs, 0 ≤ e.kind ∧ e.kind ≤ 255 ∧ 0 ≤ e.node ∧ e.node < 16
  args : ∀ e ∈ q.evs, -9223372036854775808 ≤ e.arg ∧ e.arg ≤ 9223372036854775807
  now0 : 0 ≤ q.now
  nowm : q.now ≤ 1073741824
  len : q.evs.length ≤ 10000
theorem Qu.new_ok : Qu.new.Ok := ⟨List.Pairwise.nil, List.Pairwise.nil, (fun e h => by cases h), (fun e h => by cases h), (fun e h => by cases h), (fun e h => by cases h), Int.le_refl _, by decide, by decide⟩
theorem okAt_iff {now a k n : Int} : okAt now a k n = true ↔ now ≤ a ∧ a ≤ 1073741824 ∧ 0 ≤ k ∧ k ≤ 255 ∧ 0 ≤ n ∧ n < 16 := by
  unfold okAt; simp only [Bool.and_eq_true, decide_eq_true_eq]; constructor
  · rintro ⟨⟨⟨⟨⟨a, b⟩, c⟩, d⟩, e⟩, f⟩; exact ⟨a, b, c, d, e, f⟩
  · rintro ⟨a, b, c, d, e, f⟩; exact ⟨⟨⟨⟨⟨a, b⟩, c⟩, d⟩, e⟩, f⟩
theorem okAt_false {now a k n : Int} : okAt now a k n = false ↔ ¬ (now ≤ a ∧ a ≤ 1073741824 ∧ 0 ≤ k ∧ k ≤ 255 ∧ 0 ≤ n ∧ n < 16) := by
  rw [← okAt_iff]; simp
theorem Qu.push_range {q : Qu} {a k n g : Int} (h : okAt q.now a k n = false) : q.push a k n g = (q, 0, 2) := if_pos h
theorem Qu.push_full {q : Qu} {a k n g : Int} (h : okAt q.now a k n = true) (hl : 10000 ≤ q.evs.length) : q.push a k n g = (q, 0, 5) := by
  unfold Qu.push; rw [if_neg (by rw [h]; simp), if_pos hl]
theorem Qu.push_go {q : Qu} {a k n g : Int} (h : okAt q.now a k n = true) (hl : q.evs.length < 10000) :
    q.push a k n g = (⟨q.now, q.last + 1, ins ⟨a, k, n, (q.last + 1 : Nat), g⟩ q.evs⟩, ((q.last + 1 : Nat) : Int), 0) := by
  unfold Qu.push; rw [if_neg (by rw [h]; simp), if_neg (by omega)]
theorem Qu.new_num {q : Qu} (h : q.Ok) : ∀ e ∈ q.evs, e.number ≠ ((q.last + 1 : Nat) : Int) := fun e he => by have := (h.le e he).2; omega
theorem Qu.push_ok {q : Qu} (h : q.Ok) {a k n g : Int} (hg : -9223372036854775808 ≤ g ∧ g ≤ 9223372036854775807) : (q.push a k n g).1.Ok := by
  cases ho : okAt q.now a k n with
  | false => rw [Qu.push_range ho]; exact h
  | true =>
    by_cases hl : 10000 ≤ q.evs.length
    · rw [Qu.push_full ho hl]; exact h
    · rw [Qu.push_go ho (by omega)]
      obtain ⟨o1, o2, o3, o4, o5, o6⟩ := okAt_iff.1 ho
      have hnn := Qu.new_num h
      refine ⟨ins_srt h.srt hnn, ?_, fun e he => ?_, fun e he => ?_, fun e he => ?_, fun e he => ?_, h.now0, h.nowm, by rw [ins_length]; omega⟩
      · refine (((ins_perm _ q.evs).map (·.number)).nodup_iff).2 (List.nodup_cons.2 ⟨fun hm => ?_, h.num⟩)
        obtain ⟨e, he, e2⟩ := List.mem_map.1 hm
        exact hnn e he e2
      · rcases ins_mem.1 he with rfl | he
        · show 1 ≤ ((q.last + 1 : Nat) : Int) ∧ _ ; exact ⟨by omega, Int.le_refl _⟩
        · have := h.le e he; exact ⟨this.1, by show _ ≤ ((q.last + 1 : Nat) : Int); omega⟩
      · rcases ins_mem.1 he with rfl | he
        · exact ⟨o1, o2⟩
        · exact h.ahead e he
      · rcases ins_mem.1 he with rfl | he
        · exact ⟨o3, o4, o5, o6⟩
        · exact h.kind e he
      · rcases ins_mem.1 he with rfl | he
        · exact hg
        · exact h.args e he
theorem Srt.head {e : Ev} {l : List Ev} (h : Srt (e :: l)) : ∀ x ∈ l, e.at' ≤ x.at' := fun x hx => by
  have := (List.pairwise_cons.1 h).1 x hx; unfold Lt at this; omega
theorem Qu.pop_cons {now : Int} {n : Nat} {e : Ev} {l : List Ev} : Qu.pop ⟨now, n, e :: l⟩ = (⟨e.at', n, l⟩, e, true) := rfl
theorem Qu.tail_ok {now : Int} {n : Nat} {e : Ev} {l : List Ev} (h : (Qu.mk now n (e :: l)).Ok) : (Qu.mk e.at' n l).Ok := by
  have ha := h.ahead e List.mem_cons_self
  have h0 := h.now0
  refine ⟨(List.pairwise_cons.1 h.srt).2, (List.nodup_cons.1 h.num).2, fun x hx => h.le x (List.mem_cons_of_mem _ hx), fun x hx => ⟨h.srt.head x hx, (h.ahead x (List.mem_cons_of_mem _ hx)).2⟩, fun x hx => h.kind x (List.mem_cons_of_mem _ hx),
    fun x hx => h.args x (List.mem_cons_of_mem _ hx), ?_, ha.2, by have := h.len; simp at this; show l.length ≤ _; omega⟩
  show 0 ≤ e.at'
  have h1 : now ≤ e.at' := ha.1
  have h2 : 0 ≤ now := h0
  omega
theorem Qu.pop_ok {q : Qu} (h : q.Ok) : q.pop.1.Ok := by
  obtain ⟨now, n, evs⟩ := q
  cases evs with
  | nil => exact h
  | cons e l => exact Qu.tail_ok h
theorem Qu.cancel_ok {q : Qu} (h : q.Ok) (k : Int) : (q.cancel k).1.Ok := by
  unfold Qu.cancel
  split
  · refine ⟨h.srt.sublist List.filter_sublist, h.num.sublist ((List.filter_sublist).map _), fun x hx => h.le x (List.mem_filter.1 hx).1, fun x hx => h.ahead x (List.mem_filter.1 hx).1, fun x hx => h.kind x (List.mem_filter.1 hx).1,
      fun x hx => h.args x (List.mem_filter.1 hx).1, h.now0, h.nowm, Nat.le_trans (List.length_filter_le _ _) h.len⟩
  · exact h
theorem runs_taken (t : Int) : ∀ (now : Int) (l : List Ev), ∀ e ∈ (runs t now l).2.2, e.at' ≤ t
  | _, [], e, h => by cases h
  | now, a :: l, e, h => by
    by_cases hl : a.at' ≤ t
    · rw [runs_go hl] at h
      rcases List.mem_cons.1 h with rfl | h
      · exact hl
      · exact runs_taken t _ l e h
    · rw [runs_stop (by omega)] at h; cases h
theorem runs_ok (t : Int) {n : Nat} : ∀ {now : Int} {l : List Ev}, (Qu.mk now n l).Ok → (Qu.mk (runs t now l).1 n (runs t now l).2.1).Ok ∧ now ≤ (runs t now l).1 ∧ ∀ e ∈ (runs t now l).2.1, t < e.at'
  | now, [], h => ⟨h, Int.le_refl _, fun e h => by cases h⟩
  | now, e :: l, h => by
    by_cases hl : e.at' ≤ t
    · rw [runs_go hl]
      obtain ⟨h1, h2, h3⟩ := runs_ok t (Qu.tail_ok h)
      have h4 : now ≤ e.at' := (h.ahead e List.mem_cons_self).1
      exact ⟨h1, by show now ≤ (runs t e.at' l).1; omega, h3⟩
    · rw [runs_stop (by omega)]
      refine ⟨h, Int.le_refl _, fun x hx => ?_⟩
      rcases List.mem_cons.1 hx with rfl | hx
      · omega
      · have := h.srt.head x hx; omega
theorem Qu.until_ok {q : Qu} (h : q.Ok) (t : Int) : (q.until t).1.Ok ∧ q.now ≤ (q.until t).1.now := by
  obtain ⟨h1, h2, h3⟩ := runs_ok t (now := q.now) (l := q.evs) (n := q.last) h
  have hn : (runs t q.now q.evs).1 ≤ (q.until t).1.now := by
    show _ ≤ if _ then _ else _
    rw [Int.max_def]; split <;> (try split) <;> omega
  refine ⟨⟨h1.srt, h1.num, h1.le, fun e he => ⟨?_, (h1.ahead e he).2⟩, h1.kind, h1.args, Int.le_trans h1.now0 hn, ?_, h1.len⟩, Int.le_trans h2 hn⟩
  · have a1 : (runs t q.now q.evs).1 ≤ e.at' := (h1.ahead e he).1
    have a2 := h3 e he
    show (if _ then _ else _) ≤ _
    rw [Int.max_def]; split <;> (try split) <;> omega
  · have a1 : (runs t q.now q.evs).1 ≤ 1073741824 := h1.nowm
    show (if _ then _ else _) ≤ _
    rw [Int.max_def]; split <;> (try split) <;> omega
end Go.Proofs.Ytococphklfbidaa
