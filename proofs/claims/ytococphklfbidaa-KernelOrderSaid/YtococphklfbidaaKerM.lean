/- Queues that are filled by lists of calls; renumbering. No condition on the program. -/
import Derived.Test.YtococphklfbidaaWalkKernelNow
namespace Go.Proofs.Ytococphklfbidaa

theorem srt_unique : ∀ {l l' : List Ev}, Srt l → Srt l' → (∀ x, x ∈ l ↔ x ∈ l') → l = l'
  | [], [], _, _, _ => rfl
  | [], b :: l', _, _, h => by have := (h b).2 List.mem_cons_self; cases this
  | a :: l, [], _, _, h => by have := (h a).1 List.mem_cons_self; cases this
  | a :: l, b :: l', h1, h2, h => by
    obtain ⟨a1, a2⟩ := List.pairwise_cons.1 h1
    obtain ⟨b1, b2⟩ := List.pairwise_cons.1 h2
    have hab : a = b := by
      rcases List.mem_cons.1 ((h a).1 List.mem_cons_self) with h3 | h3
      · exact h3
      · rcases List.mem_cons.1 ((h b).2 List.mem_cons_self) with h4 | h4
        · exact h4.symm
        · exact absurd (b1 a h3) (a1 b h4).asymm
    subst hab
    congr 1
    refine srt_unique a2 b2 fun x => ⟨fun hx => ?_, fun hx => ?_⟩
    · rcases List.mem_cons.1 ((h x).1 (List.mem_cons_of_mem _ hx)) with h3 | h3
      · subst h3; exact absurd (a1 x hx) (Lt.irrefl x)
      · exact h3
    · rcases List.mem_cons.1 ((h x).2 (List.mem_cons_of_mem _ hx)) with h3 | h3
      · subst h3; exact absurd (b1 x hx) (Lt.irrefl x)
      · exact h3
def Qu.pushA (q : Qu) (f : Ac) : Qu := (q.push f.at' f.sort f.node f.arg).1
def pushes (l : List Ac) : Qu := l.foldl Qu.pushA Qu.new
def WfL (l : List Ac) : Prop := ∀ f ∈ l, (Lit.int .i64 f.arg).wf = true
theorem pushes_snoc (l : List Ac) (f : Ac) : pushes (l ++ [f]) = (pushes l).pushA f := by unfold pushes; rw [List.foldl_append]; rfl
theorem pushes_take {l : List Ac} {j : Nat} {f : Ac} (h : l[j]? = some f) : pushes (l.take (j + 1)) = (pushes (l.take j)).pushA f := by
  have hl : j < l.length := by
    rcases Nat.lt_or_ge j l.length with h' | h'
    · exact h'
    · rw [List.getElem?_eq_none h'] at h; cases h
  rw [List.take_succ_eq_append_getElem hl, pushes_snoc]
  rw [List.getElem?_eq_getElem hl] at h
  rw [Option.some.inj h]
theorem few_foldl : ∀ (l : List Ac) {j : Nat} {q : Qu}, Few j q → WfL l → Few (j + l.length) (l.foldl Qu.pushA q)
  | [], _, _, h, _ => h
  | f :: l, j, q, h, hw => by
    have h1 := h.push f.at' f.sort f.node (hw f List.mem_cons_self)
    have := few_foldl l h1 fun x hx => hw x (List.mem_cons_of_mem _ hx)
    rw [List.length_cons, show j + (l.length + 1) = j + 1 + l.length by omega]
    exact this
theorem pushes_few {l : List Ac} (hw : WfL l) : Few l.length (pushes l) := by
  have := few_foldl l Few.new hw
  rwa [Nat.zero_add] at this
theorem WfL.take {l : List Ac} (h : WfL l) (j : Nat) : WfL (l.take j) := fun f hf => h f (List.mem_of_mem_take hf)
/-- the event without its number -/
def zn (e : Ev) : Ev := ⟨e.at', e.kind, e.node, 0, e.arg⟩
/-- an event with another number -/
def ren (s : Int → Int) (e : Ev) : Ev := ⟨e.at', e.kind, e.node, s e.number, e.arg⟩
theorem zn_ren (s : Int → Int) (e : Ev) : zn (ren s e) = zn e := rfl
/-- q is p, renumbered -/
structure Like (s : Int → Int) (p q : Qu) : Prop where
  pok : p.Ok
  qok : q.Ok
  now : q.now = p.now
  mem : ∀ e, e ∈ q.evs ↔ ∃ a ∈ p.evs, e = ren s a
  mono : ∀ a ∈ p.evs, ∀ b ∈ p.evs, Lt a b → Lt (ren s a) (ren s b)
theorem Like.evs {s : Int → Int} {p q : Qu} (h : Like s p q) : q.evs = p.evs.map (ren s) := by
  refine srt_unique h.qok.srt ?_ fun x => ?_
  · unfold Srt
    rw [List.pairwise_map]
    exact List.Pairwise.imp_of_mem (fun ha hb hl => h.mono _ ha _ hb hl) h.pok.srt
  · rw [h.mem x, List.mem_map]
    constructor
    · rintro ⟨a, ha, rfl⟩; exact ⟨a, ha, rfl⟩
    · rintro ⟨a, ha, rfl⟩; exact ⟨a, ha, rfl⟩
/-- another call on both -/
theorem Like.push {s : Int → Int} {p q : Qu} (h : Like s p q) (f : Ac) (hw : (Lit.int .i64 f.arg).wf = true) (hp : p.evs.length < 10000) (hs : s ((p.last + 1 : Nat) : Int) = ((q.last + 1 : Nat) : Int)) (hlt : ∀ a ∈ p.evs, s a.number < ((q.last + 1 : Nat) : Int)) : Like s (p.pushA f) (q.pushA f) := by
  have hlen : q.evs.length = p.evs.length := by rw [h.evs, List.length_map]
  have hpo := Qu.push_ok h.pok (a := f.at') (k := f.sort) (n := f.node) (i64_of_wf hw)
  have hqo := Qu.push_ok h.qok (a := f.at') (k := f.sort) (n := f.node) (i64_of_wf hw)
  unfold Qu.pushA
  cases ho : okAt p.now f.at' f.sort f.node with
  | false =>
    rw [Qu.push_range ho, Qu.push_range (q := q) (by rw [h.now]; exact ho)]
    exact h
  | true =>
    rw [Qu.push_go ho hp] at hpo ⊢
    rw [Qu.push_go (q := q) (by rw [h.now]; exact ho) (by omega)] at hqo ⊢
    refine ⟨hpo, hqo, h.now, fun e => ?_, fun a ha b hb hl => ?_⟩
    · show e ∈ ins _ q.evs ↔ _
      rw [ins_mem, h.mem e]
      constructor
      · rintro (rfl | ⟨a, ha, rfl⟩)
        · exact ⟨_, ins_mem.2 (.inl rfl), by unfold ren; rw [hs]⟩
        · exact ⟨a, ins_mem.2 (.inr ha), rfl⟩
      · rintro ⟨a, ha, rfl⟩
        rcases ins_mem.1 ha with rfl | ha
        · exact .inl (by unfold ren; rw [hs])
        · exact .inr ⟨a, ha, rfl⟩
    · rcases ins_mem.1 ha with rfl | ha <;> rcases ins_mem.1 hb with rfl | hb
      · exact absurd hl (Lt.irrefl _)
      · have h1 := (h.pok.le b hb).2
        unfold Lt at hl ⊢
        simp only [ren] at hl ⊢
        omega
      · have h1 := (h.pok.le a ha).2
        have h2 := hlt a ha
        unfold Lt at hl ⊢
        simp only [ren, hs] at hl ⊢
        omega
      · exact h.mono a ha b hb hl
theorem Like.refl {p : Qu} (h : p.Ok) : Like id p p := ⟨h, h, rfl, fun e => ⟨fun he => ⟨e, he, rfl⟩, fun ⟨a, ha, e1⟩ => by rw [e1]; exact ha⟩, fun _ _ _ _ hl => hl⟩
theorem pushA_no {q : Qu} {f : Ac} (h : okAt q.now f.at' f.sort f.node = false) : q.pushA f = q := by unfold Qu.pushA; rw [Qu.push_range h]
theorem pushA_yes {q : Qu} {f : Ac} (h : okAt q.now f.at' f.sort f.node = true) (hl : q.evs.length < 10000) : q.pushA f = ⟨q.now, q.last + 1, ins ⟨f.at', f.sort, f.node, ((q.last + 1 : Nat) : Int), f.arg⟩ q.evs⟩ := by unfold Qu.pushA; rw [Qu.push_go h hl]
theorem pushA_now (q : Qu) (f : Ac) : (q.pushA f).now = q.now := (Qu.push_small _ _ _ _).2.2
theorem pushA_few {j : Nat} {q : Qu} (h : Few j q) {f : Ac} (hf : (Lit.int .i64 f.arg).wf = true) : Few (j + 1) (q.pushA f) := h.push _ _ _ hf
/-- .. with numbers that go on alike -/
def Twin (s : Int → Int) (p q : Qu) : Prop := Like s p q ∧ q.last = p.last ∧ (∀ k : Int, (p.last : Int) < k → s k = k) ∧ ∀ k : Int, k ≤ (p.last : Int) → s k ≤ (p.last : Int)
theorem Twin.push {s : Int → Int} {p q : Qu} (h : Twin s p q) (f : Ac) (hw : (Lit.int .i64 f.arg).wf = true) (hp : p.evs.length < 10000) : Twin s (p.pushA f) (q.pushA f) := by
  obtain ⟨h1, h2, h3, h4⟩ := h
  have hl := h1.push f hw hp (by rw [h2]; exact h3 _ (by omega)) fun a ha => by have := h4 _ (h1.pok.le a ha).2; rw [h2]; omega
  have hlen : q.evs.length = p.evs.length := by rw [h1.evs, List.length_map]
  cases ho : okAt p.now f.at' f.sort f.node with
  | false =>
    rw [pushA_no ho, pushA_no (q := q) (by rw [h1.now]; exact ho)] at *
    exact ⟨h1, h2, h3, h4⟩
  | true =>
    have e1 := pushA_yes ho hp
    have e2 := pushA_yes (q := q) (f := f) (by rw [h1.now]; exact ho) (by omega)
    refine ⟨hl, by rw [e1, e2]; show q.last + 1 = p.last + 1; rw [h2], fun k hk => ?_, fun k hk => ?_⟩
    · rw [e1] at hk; have hk' : ((p.last + 1 : Nat) : Int) < k := hk; exact h3 k (by omega)
    · rw [e1] at hk ⊢
      have hk' : k ≤ ((p.last + 1 : Nat) : Int) := hk
      show s k ≤ ((p.last + 1 : Nat) : Int)
      rcases Int.lt_or_le (p.last : Int) k with h | h
      · rw [h3 k h]; exact hk'
      · have := h4 k h; omega
theorem Twin.pushes {s : Int → Int} : ∀ (l : List Ac) {j : Nat} {p q : Qu}, Twin s p q → Few j p → j + l.length < 10000 → WfL l → Twin s (l.foldl Qu.pushA p) (l.foldl Qu.pushA q)
  | [], _, _, _, h, _, _, _ => h
  | f :: l, j, p, q, h, hf, hj, hw => by
    have hwf := hw f List.mem_cons_self
    rw [List.length_cons] at hj
    exact Twin.pushes l (h.push f hwf (by have := hf.len; omega)) (pushA_few hf hwf) (by omega) fun x hx => hw x (List.mem_cons_of_mem _ hx)
/-- two numbers exchanged -/
def sw (n : Nat) (k : Int) : Int := if k = (n : Int) + 1 then (n : Int) + 2 else if k = (n : Int) + 2 then (n : Int) + 1 else k
theorem sw_1 (n : Nat) : sw n ((n : Int) + 1) = (n : Int) + 2 := if_pos rfl
theorem sw_2 (n : Nat) : sw n ((n : Int) + 2) = (n : Int) + 1 := by unfold sw; rw [if_neg (by omega), if_pos rfl]
theorem sw_lt {n : Nat} {k : Int} (h : k ≤ (n : Int)) : sw n k = k := by unfold sw; rw [if_neg (by omega), if_neg (by omega)]
theorem sw_gt {n : Nat} {k : Int} (h : (n : Int) + 2 < k) : sw n k = k := by unfold sw; rw [if_neg (by omega), if_neg (by omega)]
theorem swap_two {j : Nat} {Q : Qu} (h : Few j Q) (hj : j < 9000) {x y : Ac} (hx : (Lit.int .i64 x.arg).wf = true) (hy : (Lit.int .i64 y.arg).wf = true) (hd : x.sort ≠ y.sort ∨ x.node ≠ y.node) : ∃ s, Twin s ((Q.pushA x).pushA y) ((Q.pushA y).pushA x) := by
  have hl := h.len
  have fx := pushA_few h hx
  have fy := pushA_few h hy
  have fxy := pushA_few fx hy
  have fyx := pushA_few fy hx
  cases ox : okAt Q.now x.at' x.sort x.node with
  | false =>
    rw [pushA_no ox, pushA_no (q := Q.pushA y) (by rw [pushA_now]; exact ox)]
    exact ⟨id, Like.refl fy.ok, rfl, fun _ _ => rfl, fun _ h => h⟩
  | true =>
    cases oy : okAt Q.now y.at' y.sort y.node with
    | false =>
      rw [pushA_no oy, pushA_no (q := Q.pushA x) (by rw [pushA_now]; exact oy)]
      exact ⟨id, Like.refl fx.ok, rfl, fun _ _ => rfl, fun _ h => h⟩
    | true =>
      have px := pushA_yes ox (by omega)
      have py := pushA_yes oy (by omega)
      have pxy := pushA_yes (q := Q.pushA x) (f := y) (by rw [pushA_now]; exact oy) (by have := fx.len; omega)
      have pyx := pushA_yes (q := Q.pushA y) (f := x) (by rw [pushA_now]; exact ox) (by have := fy.len; omega)
      rw [px] at pxy fxy ⊢
      rw [py] at pyx fyx ⊢
      rw [pxy] at fxy ⊢
      rw [pyx] at fyx ⊢
      have hle := h.ok.le
      have hren : ∀ a ∈ Q.evs, ren (sw Q.last) a = a := fun a ha => by unfold ren; rw [sw_lt (hle a ha).2]
      have n1 : ((Q.last + 1 : Nat) : Int) = (Q.last : Int) + 1 := rfl
      have n2 : ((Q.last + 1 + 1 : Nat) : Int) = (Q.last : Int) + 2 := by omega
      have rx : ren (sw Q.last) ⟨x.at', x.sort, x.node, ((Q.last + 1 : Nat) : Int), x.arg⟩ = ⟨x.at', x.sort, x.node, ((Q.last + 1 + 1 : Nat) : Int), x.arg⟩ := by unfold ren; rw [n1, sw_1, n2]
      have ry : ren (sw Q.last) ⟨y.at', y.sort, y.node, ((Q.last + 1 + 1 : Nat) : Int), y.arg⟩ = ⟨y.at', y.sort, y.node, ((Q.last + 1 : Nat) : Int), y.arg⟩ := by unfold ren; rw [n2, sw_2, n1]
      refine ⟨sw Q.last, ⟨fxy.ok, fyx.ok, rfl, fun e => ?_, fun a ha b hb hlt => ?_⟩, rfl, fun k hk => ?_, fun k hk => ?_⟩
      · show e ∈ ins _ (ins _ Q.evs) ↔ ∃ a ∈ ins _ (ins _ Q.evs), _
        simp only [ins_mem]
        constructor
        · rintro (rfl | rfl | he)
          · exact ⟨_, .inr (.inl rfl), rx.symm⟩
          · exact ⟨_, .inl rfl, ry.symm⟩
          · exact ⟨e, .inr (.inr he), (hren e he).symm⟩
        · rintro ⟨a, rfl | rfl | ha, rfl⟩
          · exact .inr (.inl ry)
          · exact .inl rx
          · rw [hren a ha]; exact .inr (.inr ha)
      · have ha' : a = _ ∨ a = _ ∨ a ∈ Q.evs := (ins_mem.1 ha).imp id ins_mem.1
        have hb' : b = _ ∨ b = _ ∨ b ∈ Q.evs := (ins_mem.1 hb).imp id ins_mem.1
        rcases ha' with rfl | rfl | ha <;> rcases hb' with rfl | rfl | hb
        · exact absurd hlt (Lt.irrefl _)
        · rw [rx, ry]; unfold Lt at hlt ⊢; simp only at hlt ⊢; omega
        · rw [ry, hren b hb]; have := (hle b hb).2; unfold Lt at hlt ⊢; simp only at hlt ⊢; omega
        · rw [rx, ry]; unfold Lt at hlt ⊢; simp only at hlt ⊢; omega
        · exact absurd hlt (Lt.irrefl _)
        · rw [rx, hren b hb]; have := (hle b hb).2; unfold Lt at hlt ⊢; simp only at hlt ⊢; omega
        · rw [ry, hren a ha]; have := (hle a ha).2; unfold Lt at hlt ⊢; simp only at hlt ⊢; omega
        · rw [rx, hren a ha]; have := (hle a ha).2; unfold Lt at hlt ⊢; simp only at hlt ⊢; omega
        · rw [hren a ha, hren b hb]; exact hlt
      · have hk' : ((Q.last + 1 + 1 : Nat) : Int) < k := hk
        exact sw_gt (by omega)
      · have hk' : k ≤ ((Q.last + 1 + 1 : Nat) : Int) := hk
        show sw Q.last k ≤ ((Q.last + 1 + 1 : Nat) : Int)
        unfold sw; split
        · omega
        · split <;> omega
theorem swap_all {A B : List Ac} {x y : Ac} (hl : (A ++ x :: y :: B).length ≤ 40) (hw : WfL (A ++ x :: y :: B)) (hd : x.sort ≠ y.sort ∨ x.node ≠ y.node) : (pushes (A ++ x :: y :: B)).evs.map zn = (pushes (A ++ y :: x :: B)).evs.map zn := by
  simp only [List.length_append, List.length_cons] at hl
  have hA := pushes_few (l := A) fun f hf => hw f (List.mem_append_left _ hf)
  have hx := hw x (by simp)
  have hy := hw y (by simp)
  obtain ⟨s, hs⟩ := swap_two hA (by omega) hx hy hd
  have h2 := Twin.pushes B hs (pushA_few (pushA_few hA hx) hy) (by omega) fun f hf => hw f (by simp [hf])
  have e1 : pushes (A ++ x :: y :: B) = B.foldl Qu.pushA (((pushes A).pushA x).pushA y) := by unfold pushes; rw [List.foldl_append]; rfl
  have e2 : pushes (A ++ y :: x :: B) = B.foldl Qu.pushA (((pushes A).pushA y).pushA x) := by unfold pushes; rw [List.foldl_append]; rfl
  rw [e1, e2, h2.1.evs, List.map_map]
  rfl
end Go.Proofs.Ytococphklfbidaa
