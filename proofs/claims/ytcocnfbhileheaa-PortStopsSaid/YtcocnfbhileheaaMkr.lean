/- A region that makes several slices in an open order. No condition on the program. -/
import Derived.Test.YtcocnfbhileheaaReg
import Derived.Test.YtcocnfbhileheaaPorR
namespace Go.Proofs.Ytcocnfbhileheaa
open Go.RowKit

section
variable {P : Program} {ops : Array Oper} {Q : Exit → Act → World → Prop} {md : Region.Mode} {S : World → Prop}
/-- exactly the operations js are ready, in whatever order they come up -/
def readies (md : Region.Mode) (ops : Array Oper) : Nat → List Nat → Array Bool → Bool
  | 0, _, _ => true
  | m + 1, js, listed => decide (Region.ready md ops listed = js) && js.all fun j => readies md ops m (js.erase j) (listed.setIfInBounds j true)
theorem foldl_cong {α β : Type} {f g : β → α → β} : ∀ {l : List α} {b : β}, (∀ x ∈ l, ∀ c, f c x = g c x) → l.foldl f b = l.foldl g b
  | [], _, _ => rfl
  | x :: l, b, h => by
    rw [List.foldl_cons, List.foldl_cons, h x List.mem_cons_self b]
    exact foldl_cong fun y hy c => h y (List.mem_cons_of_mem _ hy) c
theorem foldl_perm {α β : Type} {f : β → α → β} (hf : ∀ c x y, f (f c x) y = f (f c y) x) {l l' : List α} (h : l.Perm l') : ∀ b, l.foldl f b = l'.foldl f b := by
  induction h with
  | nil => intro b; rfl
  | cons x _ ih => intro b; exact ih (f b x)
  | swap x y l => intro b; simp only [List.foldl_cons, hf b y x]
  | trans _ _ h1 h2 => intro b; rw [h1 b, h2 b]
theorem eval_put {a : Act} {d x : Nat} {v : Value} (h : d ≠ x) : (a.put (some d) v).eval (.tmp x) = a.eval (.tmp x) := by
  unfold Act.eval Act.put
  dsimp only
  rw [Array.getD_eq_getD_getElem?, Array.getD_eq_getD_getElem?, Array.getElem?_setIfInBounds_ne h]
/-- the operation at j makes a slice of n elements of one cell each -/
def Mks (P : Program) (ops : Array Oper) (n : Nat) (D : Nat → Nat) (Ty : Nat → TypeId) (Zv : Nat → Value) (js : List Nat) (a : Act) (j : Nat) : Prop :=
  ∃ o t x bytes, ops[j]? = some o ∧ o.guard = none ∧ o.dst = some (D j) ∧ o.op = Op.makeSlice t (.tmp x) (.tmp x) ∧ (∀ i ∈ js, D i ≠ x) ∧ a.eval (.tmp x) = .int .i64 (n : Int) ∧ SlT P t (Ty j) (Zv j) 1 bytes ∧ (Zv j).cells = #[Zv j] ∧ bytes * n ≤ 281474976710656
theorem wpAnyH_makes (n : Nat) (hn : n ≤ maxLen) (D : Nat → Nat) (hD : ∀ i j, D i = D j → i = j) (Ty : Nat → TypeId) (Zv : Nat → Value) (fuel : Nat) :
    ∀ (m : Nat) (js : List Nat) (listed : Array Bool) (a : Act) (w : World), js.length = m → js.Nodup → readies md ops m js listed = true → (∀ w', Below w.heap.size w w' → S w') → (∀ j ∈ js, Mks P ops n D Ty Zv js a j) →
      (∀ (B : Nat → Nat) (w' : World), Below w.heap.size w w' → (∀ j ∈ js, w.heap.size ≤ B j ∧ Sl w' (fun k => k = B j) (Ty j) 1 (.slice (some ⟨B j, 0, none⟩) n n) n (List.replicate n (Zv j))) → (∀ i ∈ js, ∀ j ∈ js, B i = B j → i = j) →
        wpAnyH P md ops Q S fuel (js.foldl (fun l j => l.setIfInBounds j true) listed) (js.foldl (fun a j => a.put (some (D j)) (.slice (some ⟨B j, 0, none⟩) n n)) a) w') →
      wpAnyH P md ops Q S (fuel + m) listed a w := by
  intro m
  induction m with
  | zero =>
    intro js listed a w hl _ _ _ _ H
    obtain rfl := List.length_eq_zero_iff.1 hl
    exact H (fun _ => 0) w (Below.refl _ _) (fun j hj => by cases hj) fun i hi => by cases hi
  | succ m ih =>
    intro js listed a w hl hnd hok hS hops H
    simp only [readies, Bool.and_eq_true, decide_eq_true_eq, List.all_eq_true] at hok
    refine wpAnyH_all hok.1 (fun e => by rw [e] at hl; cases hl) fun k hk => ?_
    obtain ⟨o, t, x, bytes, h1, h2, h3, h4, h5, h6, h7, h8, h9⟩ := hops k hk
    obtain ⟨i, hi, hz, hsz, hby⟩ := h7.info
    obtain ⟨w1, hrun, hown, hgr⟩ := run_make_full (P := P) (w := w) w.heap.size t (Ty k) i (Zv k) 1 h7.under hi hz hsz .i64 .i64 n (by rw [hby]; exact h9) hn (Nat.le_refl _)
    have hb1 : Below w.heap.size w w1 := (Below.refl w.heap.size w).grown hgr (Nat.le_refl _) (fun k e => by cases e)
    rw [h8, Nat.mul_one, toList_madeCells_one] at hown
    have hsl : Sl w1 (fun k => k = w.heap.size) (Ty k) 1 (.slice (some ⟨w.heap.size, 0, none⟩) n n) n (List.replicate n (Zv k)) := by
      obtain ⟨hl, ⟨h, _⟩ | ⟨g, cap, cur, e, hb, hg, h10, h11, h12, h13⟩⟩ := hown
      · cases h
      · obtain ⟨rfl, rfl⟩ : w.heap.size = g ∧ n = cap := by simpa using e
        exact ⟨hl, .inr ⟨_, 0, _, cur, rfl, rfl, hg, h10, h11, by omega, by simpa using h13⟩⟩
    have hkl : w.heap.size < w1.heap.size := by
      obtain ⟨_, ⟨h, _⟩ | ⟨g, off, cap, cur, e, rfl, hg, _⟩⟩ := hsl
      · cases h
      · exact lt_of_block hg
    refine wpOp_step h1 fun K hK => ?_
    refine step_val (v := .slice (some ⟨w.heap.size, 0, none⟩) n n) (w' := w1) (by simp [Region.wanted, h2]) (by simp [execOp, h4, h6, hrun, Result.andThen]) ?_
    refine hK _ _ ⟨hS w1 hb1, ?_⟩
    rw [h3]
    have hmem : ∀ j, j ∈ js.erase k → j ∈ js ∧ j ≠ k := fun j hj => ⟨List.mem_of_mem_erase hj, fun e => by subst e; exact (List.Nodup.not_mem_erase hnd) hj⟩
    refine ih (js.erase k) _ _ w1 (by rw [List.length_erase_of_mem hk, hl]; rfl) (hnd.erase k) (hok.2 k hk) (fun w' hb => hS w' (hb1.trans (hb.mono hb1.size))) (fun j hj => ?_) fun B' w' hb' hall hinj => ?_
    · obtain ⟨o', t', x', bytes', q1, q2, q3, q4, q5, q6, q7⟩ := hops j (hmem j hj).1
      exact ⟨o', t', x', bytes', q1, q2, q3, q4, fun i hi => q5 i (hmem i hi).1, by rw [eval_put (q5 k hk)]; exact q6, q7⟩
    · have hperm : js.Perm (k :: js.erase k) := List.perm_cons_erase hk
      have := H (fun j => if j = k then w.heap.size else B' j) w' (hb1.trans (hb'.mono hb1.size)) (fun j hj => ?_) (fun i hi j hj e => ?_)
      · have e1 : js.foldl (fun (l : Array Bool) j => l.setIfInBounds j true) listed = (js.erase k).foldl (fun (l : Array Bool) j => l.setIfInBounds j true) (listed.setIfInBounds k true) :=
          foldl_perm (f := fun (l : Array Bool) j => l.setIfInBounds j true) (fun c x y => by
            by_cases hxy : x = y
            · subst hxy; rfl
            · exact Array.setIfInBounds_comm _ _ hxy) hperm listed
        have e2 : js.foldl (fun (a : Act) j => a.put (some (D j)) (.slice (some ⟨if j = k then w.heap.size else B' j, 0, none⟩) n n)) a = (js.erase k).foldl (fun (a : Act) j => a.put (some (D j)) (.slice (some ⟨B' j, 0, none⟩) n n)) (a.put (some (D k)) (.slice (some ⟨w.heap.size, 0, none⟩) n n)) := by
          rw [foldl_perm (f := fun (a : Act) j => a.put (some (D j)) (.slice (some ⟨if j = k then w.heap.size else B' j, 0, none⟩) n n)) (fun c x y => ?_) hperm a]
          · rw [List.foldl_cons, if_pos rfl]
            exact foldl_cong fun j hj c => by rw [if_neg (hmem j hj).2]
          · by_cases hxy : x = y
            · subst hxy; rfl
            · exact Act.put_comm c _ _ fun d e e' => hxy (hD _ _ (by cases e; exact (Option.some.inj e').symm))
        rw [e1, e2] at this
        exact this
      · by_cases hjk : j = k
        · subst hjk
          rw [if_pos rfl]
          exact ⟨Nat.le_refl _, hsl.keep fun x hx hl => hb'.block x hl⟩
        · rw [if_neg hjk]
          have hj' : j ∈ js.erase k := (List.mem_erase_of_ne hjk).2 hj
          exact ⟨Nat.le_trans hb1.size (hall j hj').1, (hall j hj').2⟩
      · by_cases hik : i = k
        · by_cases hjk : j = k
          · rw [hik, hjk]
          · rw [if_pos hik, if_neg hjk] at e
            have := (hall j ((List.mem_erase_of_ne hjk).2 hj)).1
            omega
        · by_cases hjk : j = k
          · rw [if_neg hik, if_pos hjk] at e
            have := (hall i ((List.mem_erase_of_ne hik).2 hi)).1
            omega
          · rw [if_neg hik, if_neg hjk] at e
            exact hinj i ((List.mem_erase_of_ne hik).2 hi) j ((List.mem_erase_of_ne hjk).2 hj) e
end
end Go.Proofs.Ytcocnfbhileheaa
