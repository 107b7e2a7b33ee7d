/- A port in memory: choose: which classes ask. -/
import Derived.Test.YtcocnfbhileheaaPotA
namespace Go.Proofs.Ytcocnfbhileheaa
open Go.RowKit

theorem slKept : SlT Try.prog 99 134 (.agg #[.int .i64 0, .slice none 0 0]) 2 32 := ⟨Try.underlying99, info_parts (by kernel_rfl), rfl, by decide⟩
/-- data in the pool that a thing in hand leads to -/
theorem Held.weak {F Z : BS} {W w : World} {ts : List Th} {A T : Th} (h : Held F Z W ts w) (i : Nat) (hi : ts[i]? = some A) (k : ∀ G Y, A.on w G Y → T.on w (fun _ => False) Y) : Held F Z W (ts ++ [T]) w := by
  obtain ⟨L, h1, h2, h3⟩ := h
  refine ⟨L, h1, h2, fun j T' hj => ?_⟩
  by_cases hjl : j < ts.length
  · rw [List.getElem?_append_left hjl] at hj; exact h3 j T' hj
  · rw [List.getElem?_append_right (Nat.le_of_not_lt hjl)] at hj
    obtain rfl : T = T' := by
      have : j - ts.length = 0 := by have := lt_of_get hj; simp at this; omega
      rw [this] at hj; simpa using hj
    exact T.mono (k _ _ (h3 i A hi)) (fun _ f => f.elim) fun _ h => h
theorem rd_two (w : World) (g : Nat) (u v : Value) (T : TypeId) (hg : g = w.heap.size) : Rd (w.alloc (.cells #[u, v] T)) 2 (.slice (some ⟨g, 0, none⟩) 1 1) 1 [u, v] := by
  subst hg
  refine ⟨rfl, _, 1, rfl, Nat.le_refl _, by decide, (fun e => by cases e), fun b hb j x hj => ?_⟩
  obtain rfl := Option.some.inj hb
  have hr := heap_alloc_new w (.cells #[u, v] T)
  match j, hj with
  | 0, hj => exact ⟨rfl, by obtain rfl : u = x := by simpa using hj
                            exact blk_cell (i := 0) hr rfl⟩
  | 1, hj => exact ⟨rfl, by obtain rfl : v = x := by simpa using hj
                            exact blk_cell (i := 1) hr rfl⟩
  | j + 2, hj => simp at hj
abbrev askC (a : Prt) (c : Nat) : Bool := decide (0 < (a.waiting.getD c []).length) && decide ((a.tak.getD c ⟨0, 0⟩).sent < (a.tak.getD c ⟨0, 0⟩).limit)
theorem requests_eq {a : Prt} {n : Nat} (h : a.waiting.length = n) : upTo n (askC a) (fun _ => false) n = a.requests := by rw [upTo_all, ← h]; rfl
theorem put_bool {F Z : BS} {W w : World} {ts : List Th} {T : TypeId} {b off n cap : Nat} {xs : List Bool} (h : Held F Z W ts w) (i : Nat) (hi : ts[i]? = some (tSq eBool T (.slice (some ⟨b, off, none⟩) n cap) xs)) {c : Nat} {y : Bool} (hc : c < xs.length) :
    Held F Z W (ts.set i (tSq eBool T (.slice (some ⟨b, off, none⟩) n cap) (xs.set c y))) (w.setCell ⟨b, off + c, none⟩ (.bool y)) := by
  have := h.put pure_bool i hi (c := c) (j := 0) (a := xs.getD c false) (a' := y) (u := .bool y) (getD_of hc) (by decide) rfl
  simpa [eBool] using this
theorem Held.byAt {F Z : BS} {W w : World} {ts : List Th} {T1 T2 : TypeId} {b o n cap c k : Nat} {xss : List (List (List (BitVec 8)))} {xs : List (List (BitVec 8))} {d : List (BitVec 8)} (h : Held F Z W ts w) (i : Nat) (hi : ts[i]? = some (tSq (eSq eBy T1) T2 (.slice (some ⟨b, o, none⟩) n cap) xss)) (hx : xss[c]? = some xs) (hd : xs[k]? = some d) :
    ∃ b2 o2 k2 v, w.cell? ⟨b, o + c, none⟩ = some (.slice (some ⟨b2, o2, none⟩) xs.length k2) ∧ xs.length ≤ k2 ∧ k2 ≤ 9223372036854775807 ∧ w.cell? ⟨b2, o2 + k, none⟩ = some v ∧ Held F Z W (ts ++ [tBy v d]) w := by
  obtain ⟨G, Y, hon⟩ := h.get i hi
  obtain ⟨v0, A, hv0, hsq, _⟩ := sqsq_at hon hx
  obtain ⟨b2, o2, k2, rfl, m1, m2⟩ := sq_some hsq (by have := lt_of_get hd; omega)
  obtain ⟨v, hv, hby⟩ := sqby_at hsq hd
  refine ⟨b2, o2, k2, v, hv0, m1, m2, hv, h.weak i hi fun G' Y' hon' => ?_⟩
  obtain ⟨v0', A', hv0', hsq', _⟩ := sqsq_at hon' hx
  rw [hv0] at hv0'
  obtain rfl := Option.some.inj hv0'
  obtain ⟨v', hv', hby'⟩ := sqby_at hsq' hd
  rw [hv] at hv'
  obtain rfl := Option.some.inj hv'
  exact hby'
theorem Held.lastBy {F Z : BS} {W w : World} {us ts : List Th} {v : Value} {d : List (BitVec 8)} (h : Held F Z W (us ++ (ts ++ [tBy v d])) w) : By w v d := by
  rw [← List.append_assoc] at h
  obtain ⟨_, _, hb⟩ := h.front.get 0 rfl
  exact hb.1
section
variable {F Z : BS} {W w : World} {ts : List Th} {p N : Nat} {a : Prt}
set_option maxRecDepth 100000 in
set_option maxHeartbeats 16000000 in
theorem class_c (num : Nat) (hok : a.Ok N) (hN : N ≤ 1000000000) (hnum : num < 256) (hk : (num + 256 - a.snd.acked % 256) % 256 < a.kept.length) (h : Held F Z W (tPort p a :: ts) w) :
    Calls Try.prog 52 #[.pointer (some ⟨p, 0, none⟩), .int .i64 (num : Int)] w fun e w' => e = .returned (.int .i64 ((a.classOf num : Nat) : Int)) ∧ Held F Z W (tPort p a :: ts) w' := by
  obtain ⟨y, hst⟩ := h.port'
  obtain ⟨rv, sp, ap, wv, bv, snp, rcp, tkp, gvp, bsv, kv, acv, rev, tav⟩ := y
  have hrow := hst.blk 0 rfl
  have c10 := (port_cells hrow).2.2.2.2.2.2.2.2.2.2.1
  have HR := Lib.hid (stotal_h hst 6 rfl hok.snd (by have := hok.tot; omega))
  have hac : a.snd.acked ≤ 1000000000 := by have := hok.tot; unfold Snd.total at this; omega
  obtain ⟨q, hq⟩ : ∃ q, q = (num + 256 - a.snd.acked % 256) % 256 := ⟨_, rfl⟩
  have hqi : ((num : Int) - (a.snd.acked : Int) % 256 + 256) % 256 = (q : Int) := by omega
  have HQ := Lib.hid hq
  rw [← hq] at hk
  have hn1 : (num : Int) < 256 := by omega
  obtain ⟨⟨fc, fd⟩, hx⟩ : ∃ f, a.kept[q]? = some f := ⟨_, List.getElem?_eq_getElem hk⟩
  have HK := Lib.hid hx
  dsimp only at c10
  clear hq hst hrow h hok hx
  go_enter Try.func52, Try.ntmps52
  go_wp2_with fail
  refine HR.out.mono ?_
  rintro e w1 ⟨rfl, hh⟩
  obtain ⟨_, _, hkp⟩ := hh.get 11 rfl
  obtain ⟨kb, ko, kc, e5, m1, m2⟩ := sq_some (show Sq eKept 134 w1 _ _ kv a.kept from hkp) (by omega)
  subst e5
  obtain ⟨v, k0, _, _⟩ := kept_at hkp HK.out
  have HH := Lib.hid hh
  have hrow := hh.blk 0 rfl
  have c15 := (port_cells hrow).2.2.2.2.2.2.2.2.2.2.2.2.2.2.2.1
  dsimp only at c15
  clear hkp hh hrow HR c10
  go_wp2_with fail
  go_ret
  refine ⟨?_, HH.out.port_shut⟩
  unfold Prt.classOf
  rw [← HQ.out, show a.kept.getD q (0, []) = (fc, fd) by simp [List.getD, HK.out]]
  rfl
set_option maxRecDepth 100000 in
set_option maxHeartbeats 16000000 in
theorem choose_c (hok : a.Ok N) (_ : N ≤ 1000000000) (h : Held F Z W (tPort p a :: ts) w) :
    Calls Try.prog 50 #[.pointer (some ⟨p, 0, none⟩)] w fun e w' => e = .returned (.tuple #[]) ∧ Held F Z W (tPort p a.choose :: ts) w' := by
  obtain ⟨y, hst⟩ := h.port'
  obtain ⟨rv, sp, ap, wv, bv, snp, rcp, tkp, gvp, bsv, kv, acv, rev, tav⟩ := y
  have hrow := hst.blk 0 rfl
  obtain ⟨_, _, c2, _, _, _, _, c7, _, _, c10, _⟩ := port_cells hrow
  obtain ⟨_, _, hwt⟩ := hst.get 4 rfl
  have n1 := hok.n1; have n4 := hok.n4
  obtain ⟨b1, o1, k1, e2, m1, m1'⟩ := sq_some (show Sq (eSq eBy 31) 48 w _ _ wv a.waiting from hwt) (by rw [hok.wl]; exact n1)
  subst e2
  have HOK := Lib.hid hok
  have HH := Lib.hid hst
  dsimp only at c2 c7 c10
  rw [hok.wl] at c7 m1
  clear hst hrow h hok hwt
  go_enter Try.func50, Try.ntmps50
  go_wp2_with fail
  by_cases hfull : a.window ≤ a.snd.kept.length
  · have HG := Lib.hid (show a.choose = a by unfold Prt.choose; rw [if_pos hfull])
    go_quiet ((go_at_call 81; exact Calls.quiet_of_same ((skept_h (HH.out.drewN _) 6 rfl).mono fun e w' h => ⟨show e = .returned (.int .i64 (a.snd.kept.length : Int)) from h.1, h.2.symm⟩)))
    go_wp2_with fail
    refine bodyPost_ret (v := .tuple #[]) (by simp [results, Try.results50, go_sem]) rfl ?_
    refine ⟨rfl, ?_⟩
    rw [HG.out]
    exact (HH.out.drewN _).port_shut
  · have hroom : decide (a.window ≤ a.snd.kept.length) = false := by simpa using hfull
    have HROOM := Lib.hid hfull
    clear hfull
    go_quiet ((go_at_call 81; exact Calls.quiet_of_same ((skept_h (HH.out.drewN _) 6 rfl).mono fun e w' h => ⟨show e = .returned (.int .i64 (a.snd.kept.length : Int)) from h.1, h.2.symm⟩)))
    have h1 := HH.out.drewN nq
    generalize w.drewN nq = w1 at h1 ⊢
    have H1 := Lib.hid h1
    have d7 := (port_cells (h1.blk 0 rfl)).2.2.2.2.2.2.2.1
    dsimp only at d7
    rw [HOK.out.wl] at d7
    clear h1 c2 c7 c10 HH
    go_wp2_with (at_make; refine wpList_mkH (E := eBool) slBool rfl (a0 := false) (fun _ _ => rfl) rfl _ _ rfl a.rooms.length rfl rfl (by omega) (by unfold maxLen; omega) ?_; intro w2 hb2 hs2; obtain ⟨qb, hqb⟩ : ∃ qb, qb = w1.heap.size := ⟨_, rfl⟩; rw [← hqb] at hs2 ⊢; have H2 := Lib.hid ((H1.out.add hb2 (T := tSq eBool 4 (.slice (some ⟨qb, 0, none⟩) a.rooms.length a.rooms.length) (List.replicate a.rooms.length false)) (by rw [hqb] at hs2 ⊢; exact hs2)).front); clear hb2 hs2 d7 hqb; have d7 := (port_cells (H2.out.blk 1 rfl)).2.2.2.2.2.2.2.1; dsimp only at d7; rw [HOK.out.wl] at d7)
    go_loopw [30, 3, 4] (fun i _ _ wr => ∃ j : Nat, j ≤ a.rooms.length ∧ i = .int .i64 (j : Int) ∧ Hid (Held F Z W (tSq eBool 4 (.slice (some ⟨qb, 0, none⟩) a.rooms.length a.rooms.length) (upTo a.rooms.length (askC a) (fun _ => false) j) :: (portThs p a ⟨rv, sp, ap, .slice (some ⟨b1, o1, none⟩) a.waiting.length k1, bv, snp, rcp, tkp, gvp, bsv, kv, acv, rev, tav⟩ ++ ts)) wr)) (fun i _ _ _ => a.rooms.length - (intOf i).toNat)
    case atStart => exact ⟨0, Nat.zero_le _, rfl, Lib.hid (by rw [upTo_zero, show (List.range a.rooms.length).map (fun _ => false) = List.replicate a.rooms.length false by rw [List.map_const', List.length_range]]; exact H2.out)⟩
    case round =>
      clear H2 H1 d7
      obtain ⟨j, hj, rfl, HJ⟩ := hrel
      by_cases hlt : j < a.rooms.length
      · have hrow := HJ.out.blk 1 rfl
        have d7 := (port_cells hrow).2.2.2.2.2.2.2.1
        have d12 := (port_cells hrow).2.2.2.2.2.2.2.2.2.2.2.2.1
        dsimp only at d7 d12
        rw [HOK.out.wl] at d7
        obtain ⟨_, _, hwt⟩ := HJ.out.get 5 rfl
        have hx := getD_of (d := []) (show j < a.waiting.length by rw [HOK.out.wl]; exact hlt)
        have hln := HOK.out.wln _ (List.mem_of_getElem? hx)
        obtain ⟨v, A, hv, hsq, _⟩ := sqsq_at (show Sq (eSq eBy 31) 48 wr _ _ (.slice (some ⟨b1, o1, none⟩) a.waiting.length k1) a.waiting from hwt) hx
        obtain ⟨va, vc, rfl⟩ := hsq.shape
        obtain ⟨_, _, hrq⟩ := HJ.out.get 0 rfl
        have hrf := (Sq.free (show Sq eBool 4 wr _ _ (.slice (some ⟨qb, 0, none⟩) a.rooms.length a.rooms.length) _ from hrq)).2.2.2
        have hrc := bool_cell hrq (upTo_get hlt)
        rw [Nat.zero_add] at hrc
        have hg := getD_of (d := (⟨0, 0⟩ : Tak)) (show j < a.tak.length by rw [HOK.out.tl]; exact hlt)
        have hgb := HOK.out.tak _ (List.mem_of_getElem? hg)
        obtain ⟨l, hl⟩ : ∃ l, l = (a.waiting.getD j []).length := ⟨_, rfl⟩
        have HL := Lib.hid hl
        rw [← hl] at hv hln
        have HPUT := Lib.hid (fun (w' : World) (h : Held F Z W (tSq eBool 4 (.slice (some ⟨qb, 0, none⟩) a.rooms.length a.rooms.length) (upTo a.rooms.length (askC a) (fun _ => false) j) :: (portThs p a ⟨rv, sp, ap, .slice (some ⟨b1, o1, none⟩) a.waiting.length k1, bv, snp, rcp, tkp, gvp, bsv, kv, acv, rev, tav⟩ ++ ts)) w') => show Held F Z W (tSq eBool 4 (.slice (some ⟨qb, 0, none⟩) a.rooms.length a.rooms.length) (upTo a.rooms.length (askC a) (fun _ => false) (j + 1)) :: (portThs p a ⟨rv, sp, ap, .slice (some ⟨b1, o1, none⟩) a.waiting.length k1, bv, snp, rcp, tkp, gvp, bsv, kv, acv, rev, tav⟩ ++ ts)) (w'.setCell ⟨qb, j, none⟩ (.bool (askC a j))) from by
          have := put_bool h 0 rfl (c := j) (y := askC a j) (by rw [upTo_length]; exact hlt)
          rw [upTo_set (f := askC a), Nat.zero_add] at this
          exact this)
        by_cases h0 : l = 0
        · have HAS := Lib.hid (show askC a j = false by unfold askC; rw [← HL.out, h0]; rfl)
          rw [h0] at hv
          clear hrow hwt hx hsq hrq hg hgb hl h0 hln
          go_wp2_with fail
          go_roundw
          case rel => exact ⟨j + 1, by omega, by go_num, Lib.hid (by have := HPUT.out _ HJ.out; rwa [HAS.out] at this)⟩
          case measure => simp [intOf]; omega
        · have hlp : 0 < l := by omega
          have HAS := Lib.hid (show askC a j = decide ((a.tak.getD j ⟨0, 0⟩).sent < (a.tak.getD j ⟨0, 0⟩).limit) by unfold askC; rw [← HL.out, decide_eq_true hlp, Bool.true_and])
          have HR := Lib.hid (left_h HJ.out 9 rfl (by rw [HOK.out.tl]; exact n4) hg (by omega) (by omega))
          obtain ⟨sn, hsn⟩ : ∃ sn, sn = (a.tak.getD j ⟨0, 0⟩).sent := ⟨_, rfl⟩
          obtain ⟨lm, hlm⟩ : ∃ lm, lm = (a.tak.getD j ⟨0, 0⟩).limit := ⟨_, rfl⟩
          rw [← hsn, ← hlm] at HAS HR hgb
          obtain ⟨g1, g2⟩ := hgb
          clear hrow hwt hx hsq hrq hg hl h0 hsn hlm
          go_wp2_with fail
          refine HR.out.mono ?_
          rintro e w4 ⟨rfl, hh⟩
          have H4 := Lib.hid hh
          obtain ⟨_, _, hrq⟩ := hh.get 0 rfl
          have hrf4 := (Sq.free (show Sq eBool 4 w4 _ _ (.slice (some ⟨qb, 0, none⟩) a.rooms.length a.rooms.length) _ from hrq)).2.2.2
          have hrc4 := bool_cell hrq (upTo_get hlt)
          rw [Nat.zero_add] at hrc4
          clear hh hrq hrf hrc HR hv d7 d12
          go_wp2_with fail
          go_roundw
          case rel => exact ⟨j + 1, by omega, by go_num, Lib.hid (by have := HPUT.out _ H4.out; rwa [HAS.out] at this)⟩
          case measure => simp [intOf]; omega
      · obtain rfl : a.rooms.length = j := by omega
        have h5 := HJ.out
        rw [requests_eq HOK.out.wl] at h5
        have H5 := Lib.hid h5
        have hrow := h5.blk 1 rfl
        have d6 := (port_cells hrow).2.2.2.2.2.2.1
        dsimp only at d6
        have hrl : a.requests.length = a.rooms.length := by unfold Prt.requests; simp [HOK.out.wl]
        have HRL := Lib.hid hrl
        have HP := Lib.hid (pick_h h5 4 0 rfl rfl (by decide) (by rw [hrl]; exact HOK.out.arb))
        clear h5 hrow hrl
        cases hpk : (a.arb.pick a.requests).1 with
        | none =>
          have HG := Lib.hid (show a.choose = { a with arb := (a.arb.pick a.requests).2 } by unfold Prt.choose; rw [if_neg HROOM.out, hpk])
          have HPK := Lib.hid hpk
          rw [hpk] at HP
          clear hpk
          go_wp2_with fail
          refine HP.out.mono ?_
          rintro e w6 ⟨rfl, hh⟩
          have HH := Lib.hid (show Held F Z W (tSq eBool 4 (.slice (some ⟨qb, 0, none⟩) a.rooms.length a.rooms.length) a.requests :: (portThs p { a with arb := (a.arb.pick a.requests).2 } ⟨rv, sp, ap, .slice (some ⟨b1, o1, none⟩) a.waiting.length k1, bv, snp, rcp, tkp, gvp, bsv, kv, acv, rev, tav⟩ ++ ts)) w6 from hh)
          clear hh HP d6
          go_wp2_with fail
          refine bodyPost_ret (v := .tuple #[]) (by simp [results, Try.results50, go_sem]) rfl ?_
          refine ⟨rfl, ?_⟩
          rw [HG.out]
          exact HH.out.tail.port_shut
        | some c =>
          have hfr := firstReq_lt (req := a.requests) (ptr := a.arb.ptr) (n := a.requests.length) (by rw [HRL.out]; exact n1) (k := a.requests.length) (i := 0) (c := c) hpk
          have hcl : c < a.rooms.length := by rw [← HRL.out]; exact hfr.1
          have hask : askC a c = true := by
            have := hfr.2
            unfold Prt.requests at this
            rw [List.getD, List.getElem?_map, List.getElem?_range (by rw [HOK.out.wl]; exact hcl)] at this
            exact this
          have hwn : 0 < (a.waiting.getD c []).length := by
            unfold askC at hask
            rw [Bool.and_eq_true] at hask
            exact of_decide_eq_true hask.1
          obtain ⟨d, l, hdl⟩ : ∃ d l, a.waiting.getD c [] = d :: l := by
            cases hw : a.waiting.getD c [] with
            | nil => rw [hw] at hwn; simp at hwn
            | cons d l => exact ⟨d, l, rfl⟩
          have HG := Lib.hid (show a.choose = { a with arb := (a.arb.pick a.requests).2, waiting := a.waiting.set c l, tak := a.tak.set c (a.tak.getD c ⟨0, 0⟩).take, snd := (a.snd.offer d).2, kept := a.kept ++ [(c, d)] } by
            unfold Prt.choose
            rw [if_neg HROOM.out, hpk]
            dsimp only
            rw [hdl]; rfl)
          have HDL := Lib.hid hdl
          rw [hpk] at HP
          clear hpk hfr hask hwn hdl
          go_wp2_with fail
          refine HP.out.mono ?_
          rintro e w6 ⟨rfl, hh⟩
          have hh' := show Held F Z W (tSq eBool 4 (.slice (some ⟨qb, 0, none⟩) a.rooms.length a.rooms.length) a.requests :: (portThs p { a with arb := (a.arb.pick a.requests).2 } ⟨rv, sp, ap, .slice (some ⟨b1, o1, none⟩) a.waiting.length k1, bv, snp, rcp, tkp, gvp, bsv, kv, acv, rev, tav⟩ ++ ts)) w6 from hh
          have H6 := Lib.hid hh'.tail
          rw [show chNum (some c) = (c : Int) from rfl]
          clear hh hh' HP d6
          have hx : a.waiting[c]? = some (d :: l) := by rw [← HDL.out]; exact getD_of (by rw [HOK.out.wl]; exact hcl)
          have hdl := HOK.out.wsz _ (List.mem_of_getElem? hx) d List.mem_cons_self
          have hln := HOK.out.wln _ (List.mem_of_getElem? hx)
          obtain ⟨b2, o2, k2, v, hv0, m2, m2', hv, h7⟩ := H6.out.byAt 4 rfl hx (k := 0) (d := d) rfl
          rw [Nat.add_zero] at hv
          have H7 := Lib.hid (show Held F Z W (portThs p { a with arb := (a.arb.pick a.requests).2 } ⟨rv, sp, ap, .slice (some ⟨b1, o1, none⟩) a.waiting.length k1, bv, snp, rcp, tkp, gvp, bsv, kv, acv, rev, tav⟩ ++ (ts ++ [tBy v d])) w6 by rw [← List.append_assoc]; exact h7)
          obtain ⟨va, vc, hve⟩ := By.slice H7.out.lastBy
          subst hve
          obtain ⟨vc', hvc', _, hinner⟩ := H7.out.inner 4 rfl hx
          obtain rfl : vc' = _ := Option.some.inj (hvc'.symm.trans hv0)
          rw [show (d :: l).length = l.length + 1 from rfl] at hv0 m2 hln hinner
          have HS := Lib.hid (hinner (.slice (if k2 = 1 then some ⟨b2, o2, none⟩ else some ⟨b2, o2 + 1, none⟩) l.length (k2 - 1)) l fun G Y h => by
            obtain ⟨g, off, e, _, _, h'⟩ := h.drop (k := 1) (by decide) (by simp)
            obtain ⟨rfl, rfl⟩ : b2 = g ∧ o2 = off := by simpa using e
            simpa [eBy] using h')
          obtain ⟨_, _, hwt⟩ := H7.out.get 4 rfl
          have hwf := (Sq.free (show Sq (eSq eBy 31) 48 w6 _ _ (.slice (some ⟨b1, o1, none⟩) a.waiting.length k1) a.waiting from hwt)).2.2.2
          have d7 := (port_cells (H7.out.blk 0 rfl)).2.2.2.2.2.2.2.1
          dsimp only at d7
          rw [HOK.out.wl] at d7
          have h1l : (1 : Int) ≤ (l.length : Int) + 1 := by omega
          have hm2 : ((l.length : Int) + 1) ≤ (k2 : Int) := by omega
          have h0l : 0 < l.length + 1 := by omega
          obtain ⟨na, hna⟩ : ∃ na, (if k2 = 1 then some (⟨b2, o2, none⟩ : Addr) else some ⟨b2, o2 + 1, none⟩) = na := ⟨_, rfl⟩
          rw [hna] at HS
          clear hx h7 hinner hwt hvc' H6
          go_wp2_with fail
          refine wp_region_still_tail 14 (by kernel_rfl) (by kernel_rfl) ?_
          simp only [List.take_succ_cons, List.take_zero, List.drop_succ_cons, List.drop_zero]
          change wpStill _ _ (World.drew _) (fun a' => wpList _ _ _ _ a' (World.drew _)) _ _
          repeat still_step
          refine wpStill_nil ?_
          clear hna
          go_upto_region 11 with fail
          have hs3 := HS.out.drew
          generalize hw2 : World.drew _ = w7 at hs3 ⊢
          clear hw2 HS d7 hwf hv0 hv h1l hm2 h0l m2 m2'
          have H8 := Lib.hid (show Held F Z W (portThs p { a with arb := (a.arb.pick a.requests).2, waiting := a.waiting.set c l } ⟨rv, sp, ap, .slice (some ⟨b1, o1, none⟩) a.waiting.length k1, bv, snp, rcp, tkp, gvp, bsv, kv, acv, rev, tav⟩ ++ (ts ++ [tBy (.slice va d.length vc) d])) w7 from hs3)
          have d12 := (port_cells (hs3.blk 0 rfl)).2.2.2.2.2.2.2.2.2.2.2.2.1
          dsimp only at d12
          have hg := getD_of (d := (⟨0, 0⟩ : Tak)) (show c < a.tak.length by rw [HOK.out.tl]; exact hcl)
          have HT := Lib.hid (takeT_h H8.out 8 rfl (by rw [HOK.out.tl]; exact n4) hg (by have := (HOK.out.tak _ (List.mem_of_getElem? hg)).2; omega))
          clear hg hs3
          go_wp2_with fail
          refine HT.out.mono ?_
          rintro e w8 ⟨⟨_, rfl⟩, hh⟩
          have H9 := Lib.hid (show Held F Z W (portThs p { a with arb := (a.arb.pick a.requests).2, waiting := a.waiting.set c l, tak := a.tak.set c (a.tak.getD c ⟨0, 0⟩).take } ⟨rv, sp, ap, .slice (some ⟨b1, o1, none⟩) a.waiting.length k1, bv, snp, rcp, tkp, gvp, bsv, kv, acv, rev, tav⟩ ++ (ts ++ [tBy (.slice va d.length vc) d])) w8 from hh)
          have d10 := (port_cells (hh.blk 0 rfl)).2.2.2.2.2.2.2.2.2.2.1
          dsimp only at d10
          have HF := Lib.hid (soffer_h H9.out 6 rfl HOK.out.snd (.slice va d.length vc) d H9.out.lastBy)
          clear hh HT H8 d12
          go_wp2_with fail
          refine HF.out.mono ?_
          rintro e w9 ⟨rfl, hh⟩
          have H10 := Lib.hid (show Held F Z W (portThs p { a with arb := (a.arb.pick a.requests).2, waiting := a.waiting.set c l, tak := a.tak.set c (a.tak.getD c ⟨0, 0⟩).take, snd := (a.snd.offer d).2 } ⟨rv, sp, ap, .slice (some ⟨b1, o1, none⟩) a.waiting.length k1, bv, snp, rcp, tkp, gvp, bsv, kv, acv, rev, tav⟩ ++ (ts ++ [tBy (.slice va d.length vc) d])) w9 from hh)
          clear hh HF H9 d10
          obtain ⟨_, _, hkp⟩ := H10.out.get 11 rfl
          obtain ⟨ka, kc, e5, q1, q2, q3⟩ := Sq.le (show Sq eKept 134 w9 _ _ kv a.kept from hkp)
          subst e5
          have hkl : a.kept.length ≤ 128 := HOK.out.beg.kl
          obtain ⟨Kx, us, Yx, hsl, hKn, hoth, hback⟩ := H10.out.appY 11 rfl
          have hKp : ¬ Kx p := hKn p 0 _ (by decide) rfl fun H Y h => .inl h.2
          have hby2 : ByZ w9 Yx (.slice va d.length vc) d := by
            obtain ⟨H, _, hh⟩ := hoth (15 + ts.length) (tBy (.slice va d.length vc) d) (by omega) (get_last' (us := portThs p { a with arb := (a.arb.pick a.requests).2, waiting := a.waiting.set c l, tak := a.tak.set c (a.tak.getD c ⟨0, 0⟩).take, snd := (a.snd.offer d).2 } ⟨rv, sp, ap, .slice (some ⟨b1, o1, none⟩) a.waiting.length k1, bv, snp, rcp, tkp, gvp, bsv, .slice ka a.kept.length kc, acv, rev, tav⟩))
            exact hh
          have hrow := H10.out.blk 0 rfl
          have hp1 := lt_of_block hrow
          have d15 := (port_cells hrow).2.2.2.2.2.2.2.2.2.2.2.2.2.2.2.1
          dsimp only at d15
          have hba := below_alloc w9 (.cells #[.int .i64 (c : Int), .slice va d.length vc] 134)
          have HARM := Lib.hid (fun (v2 : Value) (w2 : World) (hsl2 : Sl w2 (fun k => Kx k ∨ (w9.alloc (.cells #[.int .i64 (c : Int), .slice va d.length vc] 134)).heap.size ≤ k) 134 2 v2 (a.kept.length + 1) (us ++ [.int .i64 (c : Int), .slice va d.length vc])) (hfr2 : Fr Kx (w9.alloc (.cells #[.int .i64 (c : Int), .slice va d.length vc] 134)) w2) =>
            show ∃ a2 c2, v2 = .slice a2 (a.kept.length + 1) c2 ∧ w2.cell? ⟨p, 15, none⟩ = some (.slice ka a.kept.length kc) ∧ (∀ k, w2.frozen? ⟨p, k, none⟩ = false) ∧ Hid (Held F Z W (portThs p { a with arb := (a.arb.pick a.requests).2, waiting := a.waiting.set c l, tak := a.tak.set c (a.tak.getD c ⟨0, 0⟩).take, snd := (a.snd.offer d).2, kept := a.kept ++ [(c, d)] } ⟨rv, sp, ap, .slice (some ⟨b1, o1, none⟩) a.waiting.length k1, bv, snp, rcp, tkp, gvp, bsv, .slice a2 (a.kept.length + 1) c2, acv, rev, tav⟩ ++ (ts ++ [tBy (.slice va d.length vc) d])) (w2.setCell ⟨p, 15, none⟩ (.slice a2 (a.kept.length + 1) c2))) from by
            obtain ⟨a2, c2, rfl⟩ := hsl2.shape
            have h1 := hback (w9.alloc (.cells #[.int .i64 (c : Int), .slice va d.length vc] 134)) w2 [.int .i64 (c : Int), .slice va d.length vc] [(c, d)] _ hba hsl2 hfr2 ⟨fun _ => False, Yx, fun _ f => f.elim, fun _ y => .inl y, fun _ f => f.elim,
              Els.single (E := eKept) ⟨[.int .i64 (c : Int)], [.slice va d.length vc], fun _ => False, fun _ => False, rfl, fun _ f => f, fun _ f => f, fun _ f => f.elim, rfl, _, rfl, hby2.below hba⟩⟩
            have hr2 := (hfr2.block p (by rw [World.size_alloc]; exact Nat.lt_succ_of_lt hp1) hKp).trans ((hba.block p hp1).trans hrow)
            exact ⟨a2, c2, rfl, (port_cells hr2).2.2.2.2.2.2.2.2.2.2.2.2.2.2.2.1, fun k => blk_free hr2 k, Lib.hid (h1.set 0 rfl (portRow { a with arb := (a.arb.pick a.requests).2, waiting := a.waiting.set c l, tak := a.tak.set c (a.tak.getD c ⟨0, 0⟩).take, snd := (a.snd.offer d).2, kept := a.kept ++ [(c, d)] } ⟨rv, sp, ap, .slice (some ⟨b1, o1, none⟩) a.waiting.length k1, bv, snp, rcp, tkp, gvp, bsv, .slice a2 (a.kept.length + 1) c2, acv, rev, tav⟩) (w' := w2.setCell ⟨p, 15, none⟩ (.slice a2 (a.kept.length + 1) c2)) (by (repeat (first | (with_reducible exact Fr.refl _ _) | exact Or.inl rfl | (with_reducible refine Fr.setCell ?_ ?_ _) | (with_reducible refine Fr.drewN ?_ _) | (with_reducible refine Fr.drew ?_)))) (by (apply row_trans; focus (repeat (first | (with_reducible exact hr2) | (with_reducible apply row_set) | (with_reducible apply row_drewN) | (with_reducible apply row_drew)))); rfl))⟩)
          have HSL := Lib.hid hsl
          clear hkp hsl hKn hoth hback hKp hby2 hrow hba q1 q2 q3
          go_wp2_with (at_builtin; refine wpList_apps slKept rfl _ _ rfl Kx (.slice ka a.kept.length kc) a.kept.length us rfl (HSL.out.alloc _) _ 1 [.int .i64 (c : Int), .slice va d.length vc] rfl (rd_two _ _ _ _ _ rfl) (by intro u hu; simp at hu; rcases hu with rfl | rfl <;> rfl) (by unfold maxLen; omega) (by omega) ?_; intro v2 w2 hsl2 hfr2; obtain ⟨a2, c2, rfl, k0, kf, HS2⟩ := HARM.out v2 w2 hsl2 hfr2; clear hsl2 hfr2)
          go_end0
          refine ⟨rfl, ?_⟩
          rw [HG.out]
          exact HS2.out.dropLast.port_shut
end
end Go.Proofs.Ytcocnfbhileheaa
