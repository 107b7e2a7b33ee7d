/- Packets as elements of lists; the contract of the law's scan. Both tables must lie as laid. -/
import Derived.Test.YtdmfjmdnkfeljaaDoorFrnD
import Derived.Test.YtdmfjmdnkfeljaaDoorFrnA
import Derived.Test.YtdmfjmdnkfeljaaDoorMgB
namespace Go.Proofs.YtdmfjmdnkfeljaaDoor
open Go.RowKit

/-- a packet, its payload in the pool -/
def ePk : El Pk where
  size := 5
  rd w _ Z cs p := ∃ v, cs = [.int .u8 (U p.kind), .int .i64 p.cls, .int .i64 p.number, .int .i64 p.value, v] ∧ ByZ w Z v p.pay
  len h := by obtain ⟨v, h, _⟩ := h; rw [h]; rfl
  keep h _ hk := by obtain ⟨v, e, h⟩ := h; exact ⟨v, e, h.stay fun k hz => hk k (.inr hz)⟩
  mono h _ hZ := by obtain ⟨v, e, h⟩ := h; exact ⟨v, e, h.mono hZ⟩
  one h u hu := by
    obtain ⟨v, rfl, ⟨_, a, c, rfl, _⟩, _⟩ := h
    simp only [List.mem_cons, List.not_mem_nil, or_false] at hu
    rcases hu with rfl | rfl | rfl | rfl | rfl <;> rfl
theorem ePk_rd {w : World} {A B : BS} {cs : List Value} {p : Pk} (h : ePk.rd w A B cs p) : ePk.rd w (fun _ => False) (fun k => A k ∨ B k) cs p := by
  obtain ⟨v, e, h⟩ := h; exact ⟨v, e, h.mono fun _ h => .inr h⟩
theorem slPk : SlT Tryd.prog 57 24 (.agg #[.int .u8 0, .int .i64 0, .int .i64 0, .int .i64 0, .slice none 0 0]) 5 56 := ⟨Tryd.underlying57, info_parts (by kernel_rfl), rfl, by decide⟩
/-- a packet put behind a list that is held: its payload is held, too -/
theorem wpList_app_pk {F Z : BS} {W w1 w2 : World} {ts : List Th} {ops : Array Oper} {rest : List Oper} {o : Oper} {ac : Act} {Q : Exit → Act → World → Prop} {a : Option Addr} {c : Nat} {xs : List Pk} {p : Pk} {pa : Option Addr} {pc : Nat}
    (hg : o.guard = none) (s x : Operand) (hop : o.op = Op.call { callee := Callee.builtin Builtin.append, args := #[s, x], argTypes := #[57, 57] })
    (h : Held F Z W ts w1) (i : Nat) (hi : ts[i]? = some (tSq ePk 24 (.slice a xs.length c) xs)) (j : Nat) (hji : j ≠ i) (hj : ts[j]? = some (tBy (.slice pa p.pay.length pc) p.pay)) (hb : Below w1.heap.size w1 w2) (hl : xs.length ≤ 1000000) (hs : ac.eval s = .slice a xs.length c) (vb : Nat) (hx : ac.eval x = .slice (some ⟨vb, 0, none⟩) 1 1) (hrow : w2.heap[vb]? = some (.cells #[.int .u8 (U p.kind), .int .i64 p.cls, .int .i64 p.number, .int .i64 p.value, .slice pa p.pay.length pc] 24))
    (hK : ∀ a' c' w3, Held F Z W (ts.set i (tSq ePk 24 (.slice a' (xs ++ [p]).length c') (xs ++ [p]))) w3 → wpList Tryd.prog ops Q rest (ac.put o.dst (.slice a' (xs.length + 1) c')) w3) : wpList Tryd.prog ops Q (o :: rest) ac w2 := by
  obtain ⟨K, us, hsl, hKn, hback⟩ := h.app i hi
  have hrd : Rd w2 5 (.slice (some ⟨vb, 0, none⟩) 1 1) 1 [.int .u8 (U p.kind), .int .i64 p.cls, .int .i64 p.number, .int .i64 p.value, .slice pa p.pay.length pc] := by
    refine ⟨rfl, some ⟨vb, 0, none⟩, 1, rfl, Nat.le_refl _, by unfold maxLen; omega, (fun e => by cases e), fun b hb k u hk => ?_⟩
    obtain rfl := Option.some.inj hb
    refine ⟨rfl, ?_⟩
    simp only [World.cell?, hrow, Nat.zero_add]
    simpa using hk
  refine wpList_apps slPk hg s x hop K (.slice a xs.length c) xs.length us hs (Sl.keep hsl fun k _ hl => hb.block k hl) _ 1 _ hx hrd (by intro u hu; simp only [List.mem_cons, List.not_mem_nil, or_false] at hu; rcases hu with rfl | rfl | rfl | rfl | rfl <;> rfl) (by unfold maxLen; omega) (by omega) ?_
  intro v' w' hs2 hf2
  obtain ⟨g2, off2, cap2, rfl, _⟩ := Sl.head hs2 (by omega)
  refine hK _ _ _ ?_
  have := hback w2 w' _ [p] _ hb hs2 hf2 fun Y hoth => by
    obtain ⟨H, _, hby⟩ := hoth j _ hji hj
    exact ⟨fun _ => False, Y, fun _ f => f.elim, fun k hk => .inl hk, fun _ f => f.elim, Els.single (E := ePk) ⟨_, rfl, ByZ.below hby hb⟩⟩
  rw [List.length_append]
  exact this
/-- a packet put behind a list that is held: its payload is held, too -/
theorem step_app_pk {F Z : BS} {W w1 w2 : World} {ts : List Th} {ops : Array Oper} {o : Oper} {ac : Act} {K0 : Act → World → Prop} {Q : Exit → Act → World → Prop} {E0 : Prop} {a : Option Addr} {c : Nat} {xs : List Pk} {p : Pk} {pa : Option Addr} {pc : Nat}
    (hg : o.guard = none) (s x : Operand) (hop : o.op = Op.call { callee := Callee.builtin Builtin.append, args := #[s, x], argTypes := #[57, 57] })
    (h : Held F Z W ts w1) (i : Nat) (hi : ts[i]? = some (tSq ePk 24 (.slice a xs.length c) xs)) (j : Nat) (hji : j ≠ i) (hj : ts[j]? = some (tBy (.slice pa p.pay.length pc) p.pay)) (hb : Below w1.heap.size w1 w2) (hl : xs.length ≤ 1000000) (hs : ac.eval s = .slice a xs.length c) (vb : Nat) (hx : ac.eval x = .slice (some ⟨vb, 0, none⟩) 1 1) (hrow : w2.heap[vb]? = some (.cells #[.int .u8 (U p.kind), .int .i64 p.cls, .int .i64 p.number, .int .i64 p.value, .slice pa p.pay.length pc] 24))
    (hK : ∀ a' c' w3, Held F Z W (ts.set i (tSq ePk 24 (.slice a' (xs ++ [p]).length c') (xs ++ [p]))) w3 → K0 (ac.put o.dst (.slice a' (xs.length + 1) c')) w3) : if Region.wanted o (yielded ops ac.tmps) = true then Oper.wp Tryd.prog o ac w2 K0 Q else E0 := by
  obtain ⟨K, us, hsl, hKn, hback⟩ := h.app i hi
  have hrd : Rd w2 5 (.slice (some ⟨vb, 0, none⟩) 1 1) 1 [.int .u8 (U p.kind), .int .i64 p.cls, .int .i64 p.number, .int .i64 p.value, .slice pa p.pay.length pc] := by
    refine ⟨rfl, some ⟨vb, 0, none⟩, 1, rfl, Nat.le_refl _, by unfold maxLen; omega, (fun e => by cases e), fun b hb k u hk => ?_⟩
    obtain rfl := Option.some.inj hb
    refine ⟨rfl, ?_⟩
    simp only [World.cell?, hrow, Nat.zero_add]
    simpa using hk
  refine step_app_sl slPk hg s x hop K (.slice a xs.length c) xs.length us hs (Sl.keep hsl fun k _ hl => hb.block k hl) _ 1 _ hx hrd (by intro u hu; simp only [List.mem_cons, List.not_mem_nil, or_false] at hu; rcases hu with rfl | rfl | rfl | rfl | rfl <;> rfl) (by unfold maxLen; omega) (by omega) ?_
  intro v' w' hs2 hf2
  obtain ⟨g2, off2, cap2, rfl, _⟩ := Sl.head hs2 (by omega)
  refine hK _ _ _ ?_
  have := hback w2 w' _ [p] _ hb hs2 hf2 fun Y hoth => by
    obtain ⟨H, _, hby⟩ := hoth j _ hji hj
    exact ⟨fun _ => False, Y, fun _ f => f.elim, fun k hk => .inl hk, fun _ f => f.elim, Els.single (E := ePk) ⟨_, rfl, ByZ.below hby hb⟩⟩
  rw [List.length_append]
  exact this
theorem pk_at {w : World} {Z : BS} {a : Option Addr} {n c : Nat} {l : List Pk} (h : RdS ePk w Z (.slice a n c) l) {i : Nat} {p : Pk} (hi : l[i]? = some p) :
    ∃ b off pa pc, a = some ⟨b, off, none⟩ ∧ ByZ w Z (.slice pa p.pay.length pc) p.pay ∧ w.cell? ⟨b, off + i * 5, none⟩ = some (.int .u8 (U p.kind)) ∧ w.cell? ⟨b, off + i * 5 + 1, none⟩ = some (.int .i64 p.cls) ∧ w.cell? ⟨b, off + i * 5 + 2, none⟩ = some (.int .i64 p.number) ∧ w.cell? ⟨b, off + i * 5 + 3, none⟩ = some (.int .i64 p.value) ∧ w.cell? ⟨b, off + i * 5 + 4, none⟩ = some (.slice pa p.pay.length pc) := by
  obtain ⟨b, off, cs, e, _, ⟨v, rfl, hv⟩, hc⟩ := h.at (by decide) hi
  obtain ⟨pa, pc, rfl⟩ := hv.slice
  exact ⟨b, off, pa, pc, e, hv, hc 0 _ rfl, hc 1 _ rfl, hc 2 _ rfl, hc 3 _ rfl, hc 4 _ rfl⟩
theorem scan_take (s : Sc) (ss : List Byte) (k : Nat) (h : k < ss.length) : s.scan (ss.take (k + 1)) = (((s.scan (ss.take k)).1.push (ss.getD k 0)).1, (s.scan (ss.take k)).2 ++ ((s.scan (ss.take k)).1.push (ss.getD k 0)).2.toList) := by
  rw [take_getD ss k 0 h, Sc.scan_app]
  simp [Sc.scan]
theorem scan_bad (s : Sc) : ∀ l : List Byte, (s.scan l).1.bad ≤ s.bad + l.length
  | [] => Nat.le_refl _
  | x :: l => by
    have h1 := scan_bad (s.push x).1 l
    have h2 : (s.push x).1.bad ≤ s.bad + 1 := by
      unfold Sc.push
      split
      · show (if s.inside then s.bad + 1 else s.bad) ≤ _
        cases s.inside <;> simp
      · split
        · exact Nat.le_succ _
        · split
          · exact Nat.le_succ _
          · split
            · exact Nat.le_succ _
            · exact Nat.le_refl _
    show ((s.push x).1.scan l).1.bad ≤ _
    rw [List.length_cons]; omega
theorem scan_found_le (s : Sc) : ∀ l : List Byte, (s.scan l).2.length ≤ l.length
  | [] => Nat.le_refl _
  | x :: l => by
    have h1 := scan_found_le (s.push x).1 l
    show ((s.push x).2.toList ++ ((s.push x).1.scan l).2).length ≤ _
    rw [List.length_append, List.length_cons]
    have : (s.push x).2.toList.length ≤ 1 := by cases (s.push x).2 <;> simp
    omega
/-- what scan returns -/
def ScanP (w : World) (ss : List Byte) (e : Ending) (w' : World) : Prop := ∃ a c, e = .returned (.tuple #[.slice a (Sc.new.scan ss).2.length c, .int .i64 ((Sc.new.scan ss).1.bad : Int)]) ∧ RdS ePk w' (fun k => w.heap.size ≤ k) (.slice a (Sc.new.scan ss).2.length c) (Sc.new.scan ss).2 ∧ Below w.heap.size w w'
set_option maxRecDepth 100000 in
set_option maxHeartbeats 4000000 in
theorem scan_any (v : Value) (ss : List Byte) (w : World) (hv : By w v ss) (ht : Tabs w) (hm : ss.length ≤ 100000) :
    Calls Tryd.prog 33 #[v] w (ScanP w ss) := by
  have HV := Lib.hid hv; have HT := Lib.hid ht
  obtain ⟨va, vc, rfl⟩ := hv.slice
  clear hv ht
  go_enter Tryd.func33, Tryd.ntmps33
  go_wp2_with fail
  refine (newSc_h (Held.start0 (fun _ => False) (fun _ => False) (fun _ f => f.elim) w)).mono ?_
  rintro e w1 ⟨sb, rfl, h1⟩
  have H1 := Lib.hid (h1.add (T := tSq ePk 24 (.slice none 0 0) []) (Below.refl _ _) (Sq.nil _ _ _ _ _))
  clear h1
  go_wp2_with fail
  go_loopw [5, 13] (fun u i wr => ∃ k : Nat, k ≤ ss.length ∧ i = .int .i64 (k : Int) ∧ ∃ (a : Option Addr) (c : Nat), u = .slice a (Sc.new.scan (ss.take k)).2.length c ∧
    Hid (Held (fun _ => False) (fun _ => False) w [tSc sb (Sc.new.scan (ss.take k)).1, tSq ePk 24 (.slice a (Sc.new.scan (ss.take k)).2.length c) (Sc.new.scan (ss.take k)).2] wr)) (fun _ i _ => ss.length - (intOf i).toNat)
  case atStart => exact ⟨0, by omega, by go_num, none, 0, rfl, H1⟩
  case round =>
    clear H1
    obtain ⟨k, hk, rfl, a, c, rfl, HH⟩ := hrel
    have hbd := scan_bad Sc.new (ss.take k)
    have hfd := scan_found_le Sc.new (ss.take k)
    have htl : (ss.take k).length ≤ k := List.length_take_le _ _
    have hb0 : Sc.new.bad = 0 := rfl
    rw [hb0] at hbd
    clear hb0
    by_cases hlt : k < ss.length
    · obtain ⟨_, ⟨h0, _⟩ | ⟨bb, off, cp, e, _, _, _, hc⟩⟩ := (HV.out.below HH.out.below).cases
      · rw [h0] at hlt; simp at hlt
      · obtain ⟨rfl, rfl⟩ : va = some ⟨bb, off, none⟩ ∧ vc = cp := by simpa using e
        have hck := hc k hlt
        clear hc e
        have HST := Lib.hid (scan_take Sc.new ss k hlt)
        generalize ss.getD k 0 = x at *
        generalize hsc : Sc.new.scan (ss.take k) = sl at *
        have HSC := Lib.hid hsc
        clear hsc
        obtain ⟨s, l⟩ := sl
        dsimp only at hbd hfd HH HST
        dsimp only
        go_wp2_with fail
        refine (push_h HH.out 0 rfl x (HT.out.below HH.out.below) (by omega)).mono ?_
        rintro e w4 ⟨r, f, ra, rc, rfl, hf, hr, h4⟩
        have H4 := Lib.hid h4
        clear h4 hck
        go_upto_region 7 with (fail)
        obtain ⟨w5, hw5⟩ : ∃ w5, w5 = w4.alloc (.cells #[.int .u8 (U r.kind), .int .i64 r.cls, .int .i64 r.number, .int .i64 r.value, .slice ra r.pay.length rc] 24) := ⟨_, rfl⟩
        have HP5 := Lib.hid (show w5.heap[w4.heap.size]? = some (.cells #[.int .u8 (U r.kind), .int .i64 r.cls, .int .i64 r.number, .int .i64 r.value, .slice ra r.pay.length rc] 24) by rw [hw5]; exact heap_alloc_new w4 _)
        have H5 := Lib.hid (show Held (fun _ => False) (fun _ => False) w [tSc sb (s.push x).1, tSq ePk 24 (.slice a l.length c) l, tBy (.slice ra r.pay.length rc) r.pay] w5 by rw [hw5]; exact H4.out.own (below_alloc w4 _))
        rw [← hw5]
        clear hw5 H4
        cases f with
        | false =>
          have HL := Lib.hid (show Sc.new.scan (ss.take (k + 1)) = ((s.push x).1, l) by rw [HST.out, hf]; simp)
          clear hf hr
          go_wp2_with fail
          go_roundw
          case rel => exact ⟨k + 1, by omega, by go_num, a, c, by rw [HL.out], by rw [HL.out]; exact Lib.hid (H5.out.pick [0, 1] [_, _] (by simp) rfl)⟩
          case measure => simp [intOf]; omega
        | true =>
          have HL := Lib.hid (show Sc.new.scan (ss.take (k + 1)) = ((s.push x).1, l ++ [r]) by rw [HST.out, hf]; simp)
          clear hf hr
          obtain ⟨d0, d1, d2, d3, d4⟩ := pk_cells HP5.out
          go_wp2_with (at_builtin; refine wpList_app_pk rfl _ _ rfl H5.out 1 rfl 2 (by decide) rfl (below_alloc w5 _) (by omega) rfl w5.heap.size rfl (heap_alloc_new w5 _) ?_; intro a' c' w6 h6; have H6 := Lib.hid h6; clear h6)
          go_roundw
          case rel => exact ⟨k + 1, by omega, by go_num, a', c', by rw [HL.out, List.length_append]; rfl, by rw [HL.out]; exact Lib.hid (H6.out.pick [0, 1] [_, _] (by simp) rfl)⟩
          case measure => simp [intOf]; omega
    · have hkl : ss.take k = ss := List.take_of_length_le (by omega)
      rw [hkl] at HH ⊢
      clear hkl hbd hfd htl
      go_wp2_with fail
      refine (bad_h HH.out 0 rfl).mono ?_
      rintro e w' ⟨rfl, rfl⟩
      go_wp2_with fail
      go_ret2
      obtain ⟨hf, Y, hY, M, hM, hM2⟩ := (HH.out.pick [1] [_] (by simp) rfl).did
      refine ⟨a, c, rfl, ((hM 0 _ rfl : Sq _ _ _ _ _ _ _).rd ePk_rd).mono fun k hk => ?_, HH.out.below⟩
      rcases hk with hk | hk
      · exact (hM2 k (by rw [show M k = 1 from hk]; decide)).1.elim (fun f => f.elim) id
      · exact (hY k hk).elim (fun f => f.elim) fun h => h.elim (fun f => f.elim) id
end Go.Proofs.YtdmfjmdnkfeljaaDoor
