/- A queue that is held: its methods; Until. -/
import Derived.Test.YtococphklfbidaaKerH
import Derived.Test.YtococphklfbidaaApp
import Derived.Lib.MinMax
namespace Go.Proofs.Ytococphklfbidaa
open Go.RowKit Go.Maps

theorem pop_any {p : Nat} {q : Qu} (hok : q.Ok) (hlt : q.last < 1000000000) {w : World} {F Z : BS} (h : (tQu p q).on w F Z) :
    Calls Try.prog 14 #[.pointer (some ⟨p, 0, none⟩)] w (PopPost p q w F Z) := by
  obtain ⟨now, last, evs⟩ := q
  cases evs with
  | nil => exact pop_nil h
  | cons e l => exact pop_cons hok hlt h
theorem push_any {p : Nat} {q : Qu} (hok : q.Ok) (hlt : q.last < 1000000000) {w : World} {F Z : BS} (h : (tQu p q).on w F Z) (a k n g : Int) :
    Calls Try.prog 13 #[.pointer (some ⟨p, 0, none⟩), .int .i64 a, .int .i64 k, .int .i64 n, .int .i64 g] w (PushPost p (q.push a k n g).1 (q.push a k n g).2.1 (q.push a k n g).2.2 w F Z) := by
  cases ho : okAt q.now a k n with
  | false => rw [Qu.push_range ho]; exact push_range h a k n g ho
  | true =>
    by_cases hl : 10000 ≤ q.evs.length
    · rw [Qu.push_full ho hl]; exact push_full h a k n g ho hl
    · rw [Qu.push_go ho (by omega)]; exact push_go hok hlt h a k n g ho (by omega)
theorem cancel_any {p : Nat} {q : Qu} (hok : q.Ok) (hlt : q.last < 1000000000) (k : Int) (hk : (Lit.int .i64 k).wf = true) {w : World} {F Z : BS} (h : (tQu p q).on w F Z) :
    Calls Try.prog 21 #[.pointer (some ⟨p, 0, none⟩), .int .i64 k] w (CanPost p q k w F Z) := by
  cases hno : (q.evs.any fun e => e.number == k) with
  | false => exact cancel_none k hk hno h
  | true =>
    obtain ⟨e, he, hek⟩ := List.any_eq_true.1 hno
    obtain rfl : e.number = k := by simpa using hek
    exact cancel_some hok hlt e he h
section
variable {F Z : BS} {W w : World} {ts : List Th} {p : Nat} {q : Qu}
theorem new_h (h : Held F Z W ts w) : Calls Try.prog 12 #[] w fun e w' => ∃ p, e = .returned (.pointer (some ⟨p, 0, none⟩)) ∧ Held F Z W (ts ++ [tQu p Qu.new]) w' :=
  (new_any w).mono fun _ _ ⟨p, he, hm⟩ => ⟨p, he, h.made hm⟩
theorem now_h (h : Held F Z W ts w) (i : Nat) (hi : ts[i]? = some (tQu p q)) : Calls Try.prog 17 #[.pointer (some ⟨p, 0, none⟩)] w fun e w' => e = .returned (.int .i64 q.now) ∧ w = w' := by
  obtain ⟨G, Y, hq⟩ := h.get i hi
  exact now_any hq
theorem len_h (h : Held F Z W ts w) (i : Nat) (hi : ts[i]? = some (tQu p q)) : Calls Try.prog 15 #[.pointer (some ⟨p, 0, none⟩)] w fun e w' => e = .returned (.int .i64 (q.evs.length : Int)) ∧ w = w' := by
  obtain ⟨G, Y, hq⟩ := h.get i hi
  exact len_any hq
theorem pop_h (h : Held F Z W ts w) (i : Nat) (hi : ts[i]? = some (tQu p q)) (hok : q.Ok) (hlt : q.last < 1000000000) :
    Calls Try.prog 14 #[.pointer (some ⟨p, 0, none⟩)] w fun e w' => e = .returned (.tuple #[.agg #[.int .i64 q.pop.2.1.at', .int .i64 q.pop.2.1.kind, .int .i64 q.pop.2.1.node, .int .i64 q.pop.2.1.number, .int .i64 q.pop.2.1.arg], .bool q.pop.2.2]) ∧ Held F Z W (ts.set i (tQu p q.pop.1)) w' := by
  obtain ⟨G, Y, hq, hd, _, _, hb⟩ := h.use i hi
  refine (pop_any hok hlt hq).mono fun e w' ⟨he, hst⟩ => ⟨he, ?_⟩
  have := hb w' _ [] hst
  rwa [List.append_nil] at this
theorem push_h (h : Held F Z W ts w) (i : Nat) (hi : ts[i]? = some (tQu p q)) (hok : q.Ok) (hlt : q.last < 1000000000) (a k n g : Int) :
    Calls Try.prog 13 #[.pointer (some ⟨p, 0, none⟩), .int .i64 a, .int .i64 k, .int .i64 n, .int .i64 g] w fun e w' => e = .returned (.tuple #[.int .i64 (q.push a k n g).2.1, .int .i64 (q.push a k n g).2.2]) ∧ Held F Z W (ts.set i (tQu p (q.push a k n g).1)) w' := by
  obtain ⟨G, Y, hq, hd, _, _, hb⟩ := h.use i hi
  refine (push_any hok hlt hq a k n g).mono fun e w' ⟨he, hst⟩ => ⟨he, ?_⟩
  have := hb w' _ [] hst
  rwa [List.append_nil] at this
theorem cancel_h (h : Held F Z W ts w) (i : Nat) (hi : ts[i]? = some (tQu p q)) (hok : q.Ok) (hlt : q.last < 1000000000) (k : Int) (hk : (Lit.int .i64 k).wf = true) :
    Calls Try.prog 21 #[.pointer (some ⟨p, 0, none⟩), .int .i64 k] w fun e w' => e = .returned (.int .i64 (q.cancel k).2) ∧ Held F Z W (ts.set i (tQu p (q.cancel k).1)) w' := by
  obtain ⟨G, Y, hq, hd, _, _, hb⟩ := h.use i hi
  refine (cancel_any hok hlt k hk hq).mono fun e w' ⟨he, hst⟩ => ⟨he, ?_⟩
  have := hb w' _ [] hst
  rwa [List.append_nil] at this
end
/-- the block of a queue that is held: its tick, its list -/
theorem Held.qu {F Z : BS} {W w : World} {ts : List Th} {p : Nat} {q : Qu} (h : Held F Z W ts w) (i : Nat) (hi : ts[i]? = some (tQu p q)) : ∃ lv b, w.heap[p]? = some (.cells (quCells q.now q.last lv b) 64 (0, 0)) ∧ EvR w lv q.evs := by
  obtain ⟨G, Y, _, lv, b, _, _, h3, h4, _⟩ := h.get i hi
  exact ⟨lv, b, h3, h4.evR⟩
theorem Did.pool0 {G Z : BS} {w w' : World} {ts : List Th} (h : Did w G (fun _ => False) ts w') : Did w G Z ts w' := by
  obtain ⟨h1, Y, h2, h3⟩ := h
  exact ⟨h1, Y, fun k hk => .inr ((h2 k hk).resolve_left id), h3⟩
def UnPost (p : Nat) (q : Qu) (t : Int) (w : World) (F Z : BS) (e : Ending) (w' : World) : Prop := ∃ (a : Option Addr) (c : Nat), e = .returned (.slice a (q.until t).2.length c) ∧ Did w F Z [tQu p (q.until t).1, tSq eEv 32 (.slice a (q.until t).2.length c) (q.until t).2] w'
/-- an event put behind a list that is held -/
theorem wpList_app_ev {F Z : BS} {W w1 w2 : World} {ts : List Th} {ops : Array Oper} {rest : List Oper} {o : Oper} {ac : Act} {Q : Exit → Act → World → Prop} {a : Option Addr} {c : Nat} {xs : List Ev} {e : Ev}
    (hg : o.guard = none) (s x : Operand) (hop : o.op = Op.call { callee := Callee.builtin Builtin.append, args := #[s, x], argTypes := #[38, 38] })
    (h : Held F Z W ts w1) (i : Nat) (hi : ts[i]? = some (tSq eEv 32 (.slice a xs.length c) xs)) (hb : Below w1.heap.size w1 w2) (hl : xs.length ≤ 1000000) (hs : ac.eval s = .slice a xs.length c) (vb : Nat) (hx : ac.eval x = .slice (some ⟨vb, 0, none⟩) 1 1) (hrow : w2.heap[vb]? = some (.cells #[.int .i64 e.at', .int .i64 e.kind, .int .i64 e.node, .int .i64 e.number, .int .i64 e.arg] 32))
    (hK : ∀ a' c' w3, Held F Z W (ts.set i (tSq eEv 32 (.slice a' (xs ++ [e]).length c') (xs ++ [e]))) w3 → wpList Try.prog ops Q rest (ac.put o.dst (.slice a' (xs.length + 1) c')) w3) : wpList Try.prog ops Q (o :: rest) ac w2 := by
  obtain ⟨K, us, hsl, hKn, hback⟩ := h.app i hi
  refine wpList_apps slEv hg s x hop K (.slice a xs.length c) xs.length us hs (Sl.keep hsl fun k _ hl => hb.block k hl) _ 1 (evC e) hx (rd_ev hrow) (oneC e) (by unfold maxLen; omega) (by omega) ?_
  intro v' w' hs2 hf2
  obtain ⟨g2, off2, cap2, rfl, _⟩ := Sl.head hs2 (by omega)
  refine hK _ _ _ ?_
  have := hback w2 w' (evC e) [e] _ hb hs2 hf2 fun Y _ => ⟨fun _ => False, fun _ => False, fun _ f => f.elim, fun _ f => f.elim, fun _ f => f.elim, Els.single (E := eEv) rfl⟩
  rw [List.length_append]
  exact this
/-- how far Until has come -/
def Runs (t : Int) (q qj : Qu) (xs : List Ev) : Prop := qj.Ok ∧ qj.last = q.last ∧ (runs t q.now q.evs).1 = (runs t qj.now qj.evs).1 ∧ (runs t q.now q.evs).2.1 = (runs t qj.now qj.evs).2.1 ∧ (runs t q.now q.evs).2.2 = xs ++ (runs t qj.now qj.evs).2.2
theorem until_fin {t : Int} {q qj : Qu} {xs : List Ev} (h : Runs t q qj xs) (hs : runs t qj.now qj.evs = (qj.now, qj.evs, [])) : q.until t = (⟨if t ≤ 1073741824 then max qj.now t else qj.now, qj.last, qj.evs⟩, xs) := by
  obtain ⟨_, h2, h3, h4, h5⟩ := h
  unfold Qu.until
  rw [h3, h4, h5, hs, h2]
  simp
theorem QuAt.now_set {p : Nat} {q : Qu} {w : World} {F Z : BS} (h : (tQu p q).on w F Z) (m : Int) : (tQu p ⟨m, q.last, q.evs⟩).on (w.setCell ⟨p, 0, none⟩ (.int .i64 m)) F Z ∧ Fr F w (w.setCell ⟨p, 0, none⟩ (.int .i64 m)) := by
  obtain ⟨h0, lv, b, h1, h2, h3, h4, h5⟩ := h
  have hf : Fr (fun k => k = p) w (w.setCell ⟨p, 0, none⟩ (.int .i64 m)) := Fr.setCell (Fr.refl (fun k => k = p) w) (Or.inl rfl) _
  refine ⟨⟨h0, lv, b, h1, h2, ?_, Sl.keep h4 fun k hk hl => hf.block k hl hk.2.1, h5.keep (hf.block b h5.lt h2)⟩, hf.mono fun k hk => by subst hk; exact h0⟩
  (apply row_trans; focus (repeat (first | (with_reducible exact h3) | (with_reducible apply row_set) | (with_reducible apply row_drewN) | (with_reducible apply row_drew)))); rfl
set_option maxHeartbeats 4000000 in
theorem until_any {p : Nat} {q : Qu} (hok : q.Ok) (hlt : q.last < 1000000000) (t : Int) {w : World} {F Z : BS} (h : (tQu p q).on w F Z) :
    Calls Try.prog 20 #[.pointer (some ⟨p, 0, none⟩), .int .i64 t] w (UnPost p q t w F Z) := by
  have hh : Held F (fun _ => False) w [tQu p q] w := Held.start (Star.one (QuAt.pool (Y := fun _ => False) h fun _ h => h)) fun _ _ f => f
  have HH := Lib.hid (show Held F (fun _ => False) w [tQu p q, tSq eEv 32 (.slice none 0 0) []] w from hh.adds (Did.news (Below.refl _ _) (Star.one (Sq.nil _ _ _ _ _)) fun _ f => f.2.1.elim))
  have HOK := Lib.hid hok
  clear hh h hok
  go_enter Try.func20, Try.ntmps20
  go_wp2_with fail
  go_loopw [5] (fun u5 wr => ∃ (qj : Qu) (xs : List Ev) (a : Option Addr) (c : Nat), u5 = .slice a xs.length c ∧ Hid (Runs t q qj xs) ∧ Hid (Held F (fun _ => False) w [tQu p qj, tSq eEv 32 (.slice a xs.length c) xs] wr)) (fun _ wr => match wr.cell? ⟨p, 2, none⟩ with | some (.slice _ n _) => n | _ => 0)
  case atStart => exact ⟨q, [], none, 0, rfl, Lib.hid ⟨HOK.out, rfl, rfl, rfl, rfl⟩, HH⟩
  case round =>
    clear HH
    obtain ⟨qj, xs, a, c, rfl, HR, HH⟩ := hrel
    obtain ⟨nj, lj, evs⟩ := qj
    obtain ⟨lv, b, hrow, hev⟩ := HH.out.qu 0 rfl
    obtain ⟨la, lc, rfl, hlc, _⟩ := hev.shape
    have HROW := Lib.hid hrow; have HEV := Lib.hid hev
    have c2 := (qu_cells hrow).2.2.1; have c0 := (qu_cells hrow).1
    have fr := fun i => blk_free hrow i
    clear hrow hev
    have hex : evs = [] ∨ (∃ e l, evs = e :: l ∧ t < e.at') ∨ (∃ e l, evs = e :: l ∧ e.at' ≤ t) := by
      cases evs with
      | nil => exact .inl rfl
      | cons e l => rcases Int.lt_or_le t e.at' with h | h
                    · exact .inr (.inl ⟨e, l, rfl, h⟩)
                    · exact .inr (.inr ⟨e, l, rfl, h⟩)
    rcases hex with h0 | ⟨e, l, h0, hgt⟩ | ⟨e, l, h0, hle⟩
    · subst h0
      have HFIN := Lib.hid (until_fin HR.out rfl)
      rw [show ([] : List Ev).length = 0 from rfl] at c2
      by_cases hm : t ≤ 1073741824
      · obtain ⟨m, hmm⟩ : ∃ m, max nj t = m := ⟨_, rfl⟩
        have HMM := Lib.hid hmm
        go_wp2_with fail
        go_ret
        refine ⟨a, c, by rw [HFIN.out]; rfl, ?_⟩
        rw [HFIN.out]
        show Did w F Z [tQu p ⟨if t ≤ 1073741824 then max nj t else nj, lj, []⟩, tSq eEv _ (.slice a xs.length c) xs] _
        rw [if_pos hm, HMM.out]
        exact ((HH.out.upd 0 rfl (T' := tQu p ⟨m, lj, []⟩) fun G Y hq _ => QuAt.now_set hq m).did).pool0
      · go_wp2_with fail
        go_ret
        refine ⟨a, c, by rw [HFIN.out]; rfl, ?_⟩
        rw [HFIN.out]
        show Did w F Z [tQu p ⟨if t ≤ 1073741824 then max nj t else nj, lj, []⟩, tSq eEv _ (.slice a xs.length c) xs] _
        rw [if_neg (by omega)]
        exact HH.out.did.pool0
    · subst h0
      have HFIN := Lib.hid (until_fin HR.out (runs_stop hgt))
      obtain ⟨g, off, rfl, e0, _⟩ := ev_at HEV.out (i := 0) (e := e) rfl
      rw [Nat.zero_mul, Nat.add_zero] at e0
      rw [show (e :: l).length = l.length + 1 from rfl] at c2
      by_cases hm : t ≤ 1073741824
      · obtain ⟨m, hmm⟩ : ∃ m, max nj t = m := ⟨_, rfl⟩
        have HMM := Lib.hid hmm
        go_wp2_with fail
        go_ret
        refine ⟨a, c, by rw [HFIN.out]; rfl, ?_⟩
        rw [HFIN.out]
        show Did w F Z [tQu p ⟨if t ≤ 1073741824 then max nj t else nj, lj, e :: l⟩, tSq eEv _ (.slice a xs.length c) xs] _
        rw [if_pos hm, HMM.out]
        exact ((HH.out.upd 0 rfl (T' := tQu p ⟨m, lj, e :: l⟩) fun G Y hq _ => QuAt.now_set hq m).did).pool0
      · go_wp2_with fail
        go_ret
        refine ⟨a, c, by rw [HFIN.out]; rfl, ?_⟩
        rw [HFIN.out]
        show Did w F Z [tQu p ⟨if t ≤ 1073741824 then max nj t else nj, lj, e :: l⟩, tSq eEv _ (.slice a xs.length c) xs] _
        rw [if_neg (by omega)]
        exact HH.out.did.pool0
    · subst h0
      have hlj : lj < 1000000000 := by have : lj = q.last := HR.out.2.1; omega
      have hxl : xs.length ≤ q.evs.length := by have h1 := runs_app t q.now q.evs; rw [HR.out.2.2.2.2] at h1; have := congrArg List.length h1; simp at this; omega
      have hql := HOK.out.len
      have HRN : Hid (Runs t q ⟨e.at', lj, l⟩ (xs ++ [e])) := Lib.hid (by
        obtain ⟨r1, r2, r3, r4, r5⟩ := HR.out
        have hg := runs_go (now := nj) (l := l) hle
        refine ⟨Qu.tail_ok r1, r2, r3.trans ?_, r4.trans ?_, r5.trans ?_⟩
        · show (runs t nj (e :: l)).1 = _; rw [hg]
        · show (runs t nj (e :: l)).2.1 = _; rw [hg]
        · show xs ++ (runs t nj (e :: l)).2.2 = _; rw [hg]; simp)
      obtain ⟨g, off, rfl, e0, _⟩ := ev_at HEV.out (i := 0) (e := e) rfl
      rw [Nat.zero_mul, Nat.add_zero] at e0
      rw [show (e :: l).length = l.length + 1 from rfl] at c2
      go_wp2_with (first
        | (go_at_call 14; refine (pop_h HH.out 0 rfl HR.out.1 hlj).mono ?_; rintro ee w1 ⟨rfl, h⟩; have H1 := Lib.hid (show Held F (fun _ => False) w [tQu p ⟨e.at', lj, l⟩, tSq eEv 32 (.slice a xs.length c) xs] w1 from h); clear h; simp only [Qu.pop])
        | (at_builtin; refine wpList_app_ev rfl _ _ rfl H1.out 1 rfl (by (repeat (first | (with_reducible exact Below.refl _ _) | (with_reducible refine Bw.alloc ?_ _) | (with_reducible refine Bw.drewN ?_ _) | (with_reducible refine Bw.drew ?_)))) (by omega) rfl (w1.heap.size + 1) rfl (by (first | exact heap_alloc_new _ _ | (have hh := heap_alloc_new (w1.alloc (.cells #[.int .i64 e.at', .int .i64 e.kind, .int .i64 e.node, .int .i64 e.number, .int .i64 e.arg] 32)) (.cells #[.int .i64 e.at', .int .i64 e.kind, .int .i64 e.node, .int .i64 e.number, .int .i64 e.arg] 32); rw [World.size_alloc] at hh; exact hh))) ?_; intro a' c' w3 h; have H3 := Lib.hid h; clear h))
      go_roundw
      case rel => exact ⟨⟨e.at', lj, l⟩, xs ++ [e], a', c', by rw [List.length_append]; rfl, HRN, H3⟩
      case measure =>
        obtain ⟨lv', b', hrow', hev'⟩ := H3.out.qu 0 rfl
        obtain ⟨la', lc', rfl, _⟩ := hev'.shape
        have c2' := (qu_cells hrow').2.2.1
        simp only [c2', c2]
        show l.length < l.length + 1
        omega
theorem until_h {F Z : BS} {W w : World} {ts : List Th} {p : Nat} {q : Qu} (h : Held F Z W ts w) (i : Nat) (hi : ts[i]? = some (tQu p q)) (hok : q.Ok) (hlt : q.last < 1000000000) (t : Int) :
    Calls Try.prog 20 #[.pointer (some ⟨p, 0, none⟩), .int .i64 t] w fun e w' => ∃ (a : Option Addr) (c : Nat), e = .returned (.slice a (q.until t).2.length c) ∧ Held F Z W (ts.set i (tQu p (q.until t).1) ++ [tSq eEv 32 (.slice a (q.until t).2.length c) (q.until t).2]) w' := by
  obtain ⟨G, Y, hq, hd, _, _, hb⟩ := h.use i hi
  exact (until_any hok hlt t hq).mono fun e w' ⟨a, c, he, hst⟩ => ⟨a, c, he, hb w' _ _ hst⟩
/-! what nil pointers answer -/
theorem push_none (w : World) (a k n g : Int) : Calls Try.prog 13 #[.pointer none, .int .i64 a, .int .i64 k, .int .i64 n, .int .i64 g] w fun e w' => e = .returned (.tuple #[.int .i64 0, .int .i64 1]) ∧ w = w' := by
  go_enter Try.func13, Try.ntmps13
  go_wp2_with fail
  go_ret2
  exact ⟨rfl, rfl⟩
theorem pop_none (w : World) : Calls Try.prog 14 #[.pointer none] w fun e w' => e = .returned (.tuple #[.agg #[.int .i64 Ev.zero.at', .int .i64 Ev.zero.kind, .int .i64 Ev.zero.node, .int .i64 Ev.zero.number, .int .i64 Ev.zero.arg], .bool false]) ∧ Below w.heap.size w w' := by
  go_enter Try.func14, Try.ntmps14
  go_wp2_with fail
  exact bodyPost_ret (v := .tuple #[.agg #[.int .i64 0, .int .i64 0, .int .i64 0, .int .i64 0, .int .i64 0], .bool false]) (by simp [results, Try.results14, go_sem]) rfl ⟨rfl, below_alloc _ _⟩
theorem cancel_nil (w : World) (k : Int) : Calls Try.prog 21 #[.pointer none, .int .i64 k] w fun e w' => e = .returned (.int .i64 1) ∧ w = w' := by
  go_enter Try.func21, Try.ntmps21
  go_wp2_with fail
  go_ret
  exact ⟨rfl, rfl⟩
theorem until_nil (w : World) (t : Int) : Calls Try.prog 20 #[.pointer none, .int .i64 t] w fun e w' => e = .returned (.slice none 0 0) ∧ w = w' := by
  go_enter Try.func20, Try.ntmps20
  go_wp2_with fail
  go_ret
  exact ⟨rfl, rfl⟩
theorem now_nil (w : World) : Calls Try.prog 17 #[.pointer none] w fun e w' => e = .returned (.int .i64 0) ∧ w = w' := by
  go_enter Try.func17, Try.ntmps17
  go_wp2_with fail
  go_ret
  exact ⟨rfl, rfl⟩
theorem len_nil (w : World) : Calls Try.prog 15 #[.pointer none] w fun e w' => e = .returned (.int .i64 0) ∧ w = w' := by
  go_enter Try.func15, Try.ntmps15
  go_wp2_with fail
  go_ret
  exact ⟨rfl, rfl⟩
end Go.Proofs.Ytococphklfbidaa
