/- cable.Send: what goes out. -/
import Derived.Test.YtekojekgjfefkaaCabG
import Derived.Deep.CutRange
namespace Go.Proofs.Ytekojekgjfefkaa
open Go.RowKit

theorem shl_u8_1 (yk : IntKind) (m : Nat) (h : m < 6) : Op.shift .shl .u8 1 yk ((m : Nat) : Int) = pure (.int .u8 (U ((1#8) <<< m))) := by
  match m, h with
  | 0, _ => rfl
  | 1, _ => rfl
  | 2, _ => rfl
  | 3, _ => rfl
  | 4, _ => rfl
  | 5, _ => rfl
theorem flipU (x : BitVec 8) (m : Nat) (h : m < 6) : bits BinOp.xor IntKind.u8 (U x) (2 ^ m % 256) = U (x ^^^ (1#8 <<< m)) := by
  have e : ((2 : Int) ^ m % 256) = U ((1#8) <<< m) := by
    match m, h with
    | 0, _ => rfl
    | 1, _ => rfl
    | 2, _ => rfl
    | 3, _ => rfl
    | 4, _ => rfl
    | 5, _ => rfl
  rw [e]; exact xor_u8_bv _ _
theorem Ow.z {T : TypeId} {w : World} {base : Nat} {v : Value} {bs : List (BitVec 8)} (h : Ow T w base v bs) : ByZ w (fun k => base ≤ k) v bs :=
  ⟨h.by, fun _ b hb => (World.ownsRow.lt h b hb).1⟩
theorem ow_shape' {w : World} {e : TypeId} {base : Nat} {v : Value} {bs : List (BitVec 8)} (h : Ow e w base v bs) (h0 : 0 < bs.length) : ∃ g cap, v = .slice (some ⟨g, 0, none⟩) bs.length cap ∧ base ≤ g ∧ g < w.heap.size := by
  obtain ⟨_, ⟨rfl, h1⟩ | ⟨g, cap, cur, rfl, hb, hg, _⟩⟩ := h
  · omega
  · exact ⟨g, cap, rfl, hb, lt_of_block hg⟩
/-- one byte of an owned row, written -/
theorem Ow.put {T : TypeId} {w : World} {base g n cap : Nat} {bs : List (BitVec 8)} (h : Ow T w base (.slice (some ⟨g, 0, none⟩) n cap) bs) (j : Nat) (f : BitVec 8 → BitVec 8) (x : BitVec 8) (hx : bs[j]? = some x) :
    Ow T (w.setCell ⟨g, j, none⟩ (.int .u8 (U (f x)))) base (.slice (some ⟨g, 0, none⟩) n cap) (bs.modify j f) := by
  have hn : n = bs.length := by obtain ⟨_, a, c, e, _⟩ := h.by; simpa using (congrArg (fun v => match v with | Value.slice _ n _ => n | _ => 0) e)
  subst hn
  have := (World.ownsRow.stored h j (.int .u8 (U (f x)))).1
  have e : (cu bs).set j (.int .u8 (U (f x))) = cu (bs.modify j f) := by
    unfold cu
    apply List.ext_getElem?
    intro i
    rw [List.getElem?_set, List.getElem?_map, List.getElem?_map, List.getElem?_modify]
    by_cases hi : j = i
    · subst hi
      rw [if_pos rfl, hx, if_pos (by rw [List.length_map]; exact lt_of_get hx)]; simp
    · rw [if_neg hi]; simp [hi]
  rw [e] at this
  unfold Ow
  rw [List.length_modify]
  exact this
theorem slTrA {w : World} (x : Nat) (va : Option Addr) (n vc g : Nat) (hg : g = w.heap.size) : Rd (w.alloc (.cells #[.int .i64 (x : Int), .slice va n vc] 66)) 2 (.slice (some ⟨g, 0, none⟩) 1 1) 1 [.int .i64 (x : Int), .slice va n vc] := by
  subst hg
  refine ⟨rfl, _, 1, rfl, Nat.le_refl _, by decide, (fun e => by cases e), fun b hb j v hj => ?_⟩
  obtain rfl := Option.some.inj hb
  refine ⟨rfl, ?_⟩
  have h0 : (w.alloc (.cells #[.int .i64 (x : Int), .slice va n vc] 66)).heap[w.heap.size]? = some (.cells #[.int .i64 (x : Int), .slice va n vc] 66) := heap_alloc_new w _
  simp only [World.cell?, h0, Nat.zero_add]
  match j, hj with
  | 0, hj => simpa using hj
  | 1, hj => simpa using hj
theorem cell_ne {w : World} {p b i j : Nat} {u v : Value} (hne : p ≠ b) (h : w.cell? ⟨p, j, none⟩ = some v) : (w.setCell ⟨b, i, none⟩ u).cell? ⟨p, j, none⟩ = some v :=
  (World.cell?_of_block (heap_setCell_other w ⟨b, i, none⟩ p u hne)).trans h
/-- a transmission in a block of its own, its symbols in new memory -/
structure XBox (wr : World) (due : Nat) (ya : Option Addr) (yc : Nat) (d : Byt) (xb : Nat) (wc : World) : Prop where
  bel : Below wr.heap.size wr wc
  new : wr.heap.size ≤ xb
  row : wc.heap[xb]? = some (.cells #[.int .i64 (due : Int), .slice ya d.length yc] 66 (0, 0))
  ow : Ow 5 wc wr.heap.size (.slice ya d.length yc) d
  ne : ∀ b, (Value.slice ya d.length yc).ownBlock = some b → b ≠ xb
theorem Ow.lower {T : TypeId} {w : World} {base b : Nat} {v : Value} {bs : List (BitVec 8)} (h : Ow T w b v bs) (hb : base ≤ b) : Ow T w base v bs := by
  obtain ⟨hl, h | ⟨g, cap, cur, rfl, h1, h2⟩⟩ := h
  · exact ⟨hl, .inl h⟩
  · exact ⟨hl, .inr ⟨g, cap, cur, rfl, by omega, h2⟩⟩
theorem Ow.keep {T : TypeId} {w w' : World} {base : Nat} {v : Value} {bs : List (BitVec 8)} (h : Ow T w base v bs) (hk : ∀ k, v.ownBlock = some k → k < w.heap.size → w'.heap[k]? = w.heap[k]?) : Ow T w' base v bs := by
  obtain ⟨hl, h | ⟨g, cap, cur, rfl, h1, h2, h3⟩⟩ := h
  · exact ⟨hl, .inl h⟩
  · exact ⟨hl, .inr ⟨g, cap, cur, rfl, h1, (hk g rfl (lt_of_block h2)).trans h2, h3⟩⟩
theorem XBox.late {wr w2 : World} {due : Nat} {ya : Option Addr} {yc : Nat} {d : Byt} (hB : Below wr.drew.heap.size wr.drew w2) (hO : Ow 5 w2 wr.drew.heap.size (.slice ya d.length yc) d) :
    XBox wr due ya yc d w2.heap.size (w2.alloc (.cells #[.int .i64 (due : Int), .slice ya d.length yc] 66)) :=
  ⟨Bw.alloc (show Below wr.heap.size wr w2 from ⟨hB.os, hB.tape, hB.output, hB.size, hB.block⟩) _, hB.size, heap_alloc_new w2 _, hO.keep fun k _ hl => Below.heap_alloc w2 _ k hl, fun b hb e => by have := (World.ownsRow.lt hO b hb).2; omega⟩
theorem XBox.early {wr w2 : World} {due : Nat} {ya : Option Addr} {yc : Nat} {d : Byt} {o : Array Value} (hs : o.size = 2) (hB : Below (wr.alloc (.cells o 66)).drew.heap.size (wr.alloc (.cells o 66)).drew w2) (hO : Ow 5 w2 (wr.alloc (.cells o 66)).drew.heap.size (.slice ya d.length yc) d) :
    XBox wr due ya yc d wr.heap.size ((w2.setCell ⟨wr.heap.size, 0, none⟩ (.int .i64 (due : Int))).setCell ⟨wr.heap.size, 1, none⟩ (.slice ya d.length yc)) := by
  have hz : (wr.alloc (.cells o 66)).drew.heap.size = wr.heap.size + 1 := by simp [World.drew]
  have hr := (hB.block wr.heap.size (by rw [hz]; omega)).trans (heap_alloc_new wr _)
  have hb1 : Below wr.heap.size wr w2 := ⟨hB.os, hB.tape, hB.output, by have := hB.size; rw [hz] at this; omega, fun k hk => (hB.block k (by rw [hz]; omega)).trans (Below.heap_alloc wr _ k hk)⟩
  have hne : ∀ b, (Value.slice ya d.length yc).ownBlock = some b → b ≠ wr.heap.size := fun b hb e => by have := (World.ownsRow.lt hO b hb).1; rw [hz] at this; omega
  refine ⟨(hb1.setCell (Nat.le_refl _) _).setCell (Nat.le_refl _) _, Nat.le_refl _, ?_, (hO.lower (by rw [hz]; omega)).keep fun k hk _ => ?_, hne⟩
  · have h1 := row_set (u := .slice ya d.length yc) (i := 1) (row_set (u := .int .i64 (due : Int)) (i := 0) hr)
    refine row_trans h1 ?_
    match o, hs with
    | ⟨[a, b]⟩, _ => rfl
  · exact (heap_setCell_other _ ⟨wr.heap.size, 1, none⟩ k _ (hne k hk)).trans (heap_setCell_other _ ⟨wr.heap.size, 0, none⟩ k _ (hne k hk))
/-- .. with one byte written -/
theorem XBox.flip {wr wc : World} {due : Nat} {g yc : Nat} {d : Byt} {xb : Nat} (h : XBox wr due (some ⟨g, 0, none⟩) yc d xb wc) (i : Nat) (f : BitVec 8 → BitVec 8) (x : BitVec 8) (hx : d[i]? = some x) :
    XBox wr due (some ⟨g, 0, none⟩) yc (d.modify i f) xb (wc.setCell ⟨g, i, none⟩ (.int .u8 (U (f x)))) := by
  have hg := World.ownsRow.lt h.ow g rfl
  have hne := h.ne g rfl
  refine ⟨h.bel.setCell hg.1 _, h.new, ?_, ?_, fun b hb => ?_⟩
  · rw [List.length_modify]; exact (heap_setCell_other _ ⟨g, i, none⟩ xb _ (fun e => hne e.symm)).trans h.row
  · have := Ow.put h.ow i f x hx
    rw [List.length_modify]; exact this
  · exact h.ne b (by simpa [Value.ownBlock] using hb)
def sendCells (c : Cab) (fv : Value) (la : Option Addr) (n lc : Nat) : Array Value := cabCells { c with sent := c.sent + 1 } fv (.slice la n lc)
set_option maxHeartbeats 16000000 in
set_option maxRecDepth 100000 in
theorem send_go (p : Nat) (c : Cab) (hok : c.Ok) (hfl : c.faults.length ≤ 1000000) (htk : c.ticks < 1000000000) (hse : c.sent < 1000000000) (v : Value) (d : Byt) (w : World) (F Z N : BS) (hd : Dj F Z) (hz : ∀ k, N k → ¬ F k) (hv : ByZ w N v d) (hdl : d.length ≤ 1000000) (h : (tCab p c).on w F Z) (hu : c.up = true) (hx : c.fault.kind ≠ 1) (hfull : c.flying.length + c.copies ≤ 64) (CP : Nat) (hcp : c.copies = CP) (hkc : (c.fault.kind = 3 ∧ CP = 2) ∨ (c.fault.kind ≠ 3 ∧ CP = 1)) :
    Calls Try.prog 17 #[.pointer (some ⟨p, 0, none⟩), v] w (SendPost p c d w F Z) := by
  have HFA := Lib.hid (fault_any p c hok hfl w F Z h)
  have hs : c.send d = (0, { c with sent := c.sent + 1, flying := c.flying ++ List.replicate c.copies (c.ticks + c.delay, c.what d) }) := by
    unfold Cab.send; rw [if_neg (by rw [hu]; simp [hx]), if_neg (by omega)]
  unfold SendPost
  rw [hs]; clear hs
  obtain ⟨fv, lv, hst⟩ := cab_open h
  have hh := Held.start hst hd
  have hrow := hh.blk 0 rfl
  obtain ⟨G2, Y2, hs2⟩ := hh.get 2 rfl
  obtain ⟨la, lc, rfl⟩ := Sq.shape (show Sq eTr 66 w G2 Y2 lv c.flying from hs2)
  obtain ⟨va, vc, rfl⟩ := hv.slice
  obtain ⟨_, _, c2, _, c4, c5, _⟩ := cab_cells hrow
  have hlt := lt_of_block hrow
  have HROW := Lib.hid hrow
  have HH := Lib.hid hh
  have HV := Lib.hid hv
  have hkb : (c.fault.kind == 1) = false := by simpa using hx
  have hd1 := hok.d1; have hd2 := hok.d2
  rw [hcp] at hfull
  have HCP := Lib.hid hcp
  have HFLY := Lib.hid hok.fault
  have HU := Lib.hid hu
  clear hst hh hrow h hok hx hs2 hv hcp hu
  go_enter Try.func17, Try.ntmps17
  go_wp2_with fail
  refine HFA.out.mono ?_
  rintro e w1 ⟨rfl, hb⟩
  have hz1 := hb.size
  have hlt1 : p < w1.heap.size := by omega
  have HROW1 := Lib.hid ((hb.block p hlt).trans HROW.out)
  have HH1 := Lib.hid (HH.out.own hb)
  obtain ⟨_, _, d2, _, d4, d5, d6⟩ := cab_cells HROW1.out
  obtain ⟨_, _, f4, f5, _⟩ := cab_free HROW1.out
  have HB := Lib.hid hb
  clear hb c2 c4 c5 HFA HH HROW
  rw [HU.out] at d2
  have HH2 : Hid (Held F Z w [tBlk p (.cells (sendCells c fv la (c.flying.length + 0) lc) 62 (0, 0)), tRd eFlt fv c.faults, tSq eTr 66 (.slice la (c.flying.length + 0) lc) (c.flying ++ List.replicate 0 (c.ticks + c.delay, c.what d)), tBlk w1.heap.size (.cells #[.int .i64 c.fault.at', .int .i64 c.fault.kind, .int .i64 c.fault.arg] 39 (0, 0))]
      ((w1.setCell ⟨p, 4, none⟩ (.int .i64 ((c.sent : Int) + 1))).alloc (.cells #[.int .i64 c.fault.at', .int .i64 c.fault.kind, .int .i64 c.fault.arg] 39))) := Lib.hid (by
    have h1 := HH1.out.set 0 rfl (.cells (sendCells c fv la c.flying.length lc) 62 (0, 0)) (w' := w1.setCell ⟨p, 4, none⟩ (.int .i64 ((c.sent : Int) + 1))) (by (repeat (first | (with_reducible exact Fr.refl _ _) | exact Or.inl rfl | (exact Or.inr (by simp <;> omega)) | (with_reducible refine Fr.setCell ?_ ?_ _) | (with_reducible refine Fr.drewN ?_ _) | (with_reducible refine Fr.drew ?_) | (with_reducible refine Fr.alloc ?_ _)))) (by (apply row_trans; focus (repeat (first | (with_reducible exact HROW1.out) | (with_reducible apply row_set) | (with_reducible apply row_drewN) | (with_reducible apply row_drew) | (with_reducible apply row_alloc) | (apply row_set_other (by first | omega | (simp <;> omega)))))); simp [cabCells, sendCells])
    have h2 := h1.new (.cells #[.int .i64 c.fault.at', .int .i64 c.fault.kind, .int .i64 c.fault.arg] 39)
    have e : (w1.setCell ⟨p, 4, none⟩ (.int .i64 ((c.sent : Int) + 1))).heap.size = w1.heap.size := by simp
    rw [e] at h2
    simpa using h2)
  obtain ⟨hfk0, hfk3, hfa⟩ := HFLY.out
  have hcase : (CP = 2 ∧ (c.fault.kind == 3) = true ∧ (c.fault.kind == 2) = false ∧ Hid (c.what d = d)) ∨ (CP = 1 ∧ (c.fault.kind == 3) = false ∧ (c.fault.kind == 2) = false ∧ Hid (c.what d = d)) ∨ (CP = 1 ∧ (c.fault.kind == 3) = false ∧ (c.fault.kind == 2) = true ∧ d.length < 1 ∧ Hid (c.what d = d)) ∨ (CP = 1 ∧ (c.fault.kind == 3) = false ∧ (c.fault.kind == 2) = true ∧ 0 < d.length ∧ Hid (c.what d = flipB d c.fault.arg)) := by
    unfold Cab.what
    rcases hkc with ⟨h1, h2⟩ | ⟨h1, h2⟩
    · exact .inl ⟨h2, by simp [h1], by simp [h1], Lib.hid (by rw [if_neg (by omega)])⟩
    · by_cases h3 : c.fault.kind = 2
      · by_cases h4 : d.length = 0
        · exact .inr (.inr (.inl ⟨h2, by simpa using h1, by simp [h3], by omega, Lib.hid (by rw [if_pos h3]; unfold flipB; rw [if_pos (List.eq_nil_of_length_eq_zero h4)])⟩))
        · exact .inr (.inr (.inr ⟨h2, by simpa using h1, by simp [h3], by omega, Lib.hid (by rw [if_pos h3])⟩))
      · exact .inr (.inl ⟨h2, by simpa using h1, by simpa using h3, Lib.hid (by rw [if_neg h3])⟩)
  clear hkc
  rcases hcase with ⟨rfl, hk3, hk2, HW⟩ | ⟨rfl, hk3, hk2, HW⟩ | ⟨rfl, hk3, hk2, hd0, HW⟩ | ⟨rfl, hk3, hk2, hd0, HW⟩
  · skip
    go_wp2_with fail
    go_loopw [60] (fun i wr => ∃ (j : Nat) (la' : Option Addr) (lc' : Nat), j ≤ 2 ∧ i = .int .i64 (j : Int) ∧ Hid (Held F Z w [tBlk p (.cells (sendCells c fv la' (c.flying.length + j) lc') 62 (0, 0)), tRd eFlt fv c.faults, tSq eTr 66 (.slice la' (c.flying.length + j) lc') (c.flying ++ List.replicate j (c.ticks + c.delay, c.what d)), tBlk w1.heap.size (.cells #[.int .i64 c.fault.at', .int .i64 c.fault.kind, .int .i64 c.fault.arg] 39 (0, 0))] wr)) (fun i _ => 2 - (intOf i).toNat)
    case atStart => exact ⟨0, la, lc, by omega, rfl, HH2⟩
    case round =>
      clear HH2
      obtain ⟨j, la', lc', hj, rfl, HH⟩ := hrel
      have hrow := HH.out.blk 0 rfl
      obtain ⟨k0, _, _, k3, _, _, k6⟩ := cab_cells hrow
      obtain ⟨_, _, _, _, fz6⟩ := cab_free hrow
      have hltr := lt_of_block hrow
      have HROWR := Lib.hid hrow
      have hbox := HH.out.blk 3 rfl
      have g1 := blk_cell (i := 1) hbox rfl; have g2 := blk_cell (i := 2) hbox rfl
      have hltb := lt_of_block hbox
      have HBOX := Lib.hid hbox
      have HVR : Hid (By wr (.slice va d.length vc) d) := Lib.hid (Rd.stay HV.out.1 fun h0 k e hl => HH.out.fr.block k hl (hz k (HV.out.2 (by rwa [cu_length] at h0) k e)))
      clear hrow hbox
      by_cases hjl : j < 2
      · go_upto_region 16 with fail
        go_cut [7, 60] from 60 to 109 (fun u7 u60 wc => u60 = .int .i64 (j : Int) ∧ ∃ (xb : Nat) (ya : Option Addr) (yc : Nat), u7 = .pointer (some ⟨xb, 0, none⟩) ∧ Hid (XBox wr (c.ticks + c.delay) ya yc d xb wc))
        case first =>
          have hne : p ≠ wr.heap.size := by omega
          have hsum : IntKind.i64.wrap ((c.ticks : Int) + (c.delay : Int)) = ((c.ticks + c.delay : Nat) : Int) := by rw [IntWalk.i64_in _ (by omega)]; omega
          go_region_held3 (fun w' => w'.cell? ⟨p, 3, none⟩ = some (.int .i64 (c.ticks : Int)) ∧ w'.cell? ⟨p, 0, none⟩ = some (.int .i64 (c.delay : Int))) (first | exact ⟨k3, k0⟩ | exact ⟨alloc_cell _ _ k3, alloc_cell _ _ k0⟩ | exact HS2.out | exact ⟨alloc_cell _ _ HS2.out.1, alloc_cell _ _ HS2.out.2⟩ | (refine ⟨?_, ?_⟩ <;> (repeat (first | exact HS2.out.1 | exact HS2.out.2 | refine cell_ne hne ?_))))
            ((go_at_call 28; refine (clone_any _ d _ (by first | exact Rd.keep HVR.out (fun _ _ _ => rfl) | exact (By.alloc HVR.out _).keep (fun _ _ _ => rfl)) (by omega)).mono ?_; rintro e w2 ⟨v1, rfl, hO, hB⟩; obtain ⟨v1a, v1c, rfl⟩ := ow_shape hO; have hz2 := hB.size; have HS2 := Lib.hid (show w2.cell? ⟨p, 3, none⟩ = some (.int .i64 (c.ticks : Int)) ∧ w2.cell? ⟨p, 0, none⟩ = some (.int .i64 (c.delay : Int)) from ⟨cell_later hB (by first | exact k3 | exact alloc_cell _ _ k3), cell_later hB (by first | exact k0 | exact alloc_cell _ _ k0)⟩); (try (have hR2 := (hB.block wr.heap.size (by simp)).trans (heap_alloc_new wr _); have r0 := blk_cell (i := 0) hR2 rfl; have r1 := blk_cell (i := 1) hR2 rfl; have fr0 := blk_free hR2 0; have fr1 := blk_free hR2 1; have HR2 := Lib.hid hR2; clear hR2)); have HO := Lib.hid hO; have HBC := Lib.hid hB; clear hO hB))
          all_goals go_wp2_with fail
          all_goals go_meet
          all_goals (case rel => exact ⟨rfl, _, _, _, rfl, by first | exact Lib.hid (XBox.late HBC.out HO.out) | exact Lib.hid (XBox.early rfl HBC.out HO.out)⟩)
        case rest =>
          obtain ⟨rfl, xb, ya, yc, rfl, HX⟩ := hcut
          have x0 := blk_cell (i := 0) HX.out.row rfl; have x1 := blk_cell (i := 1) HX.out.row rfl
          have g1' := cell_later HX.out.bel g1; have g2' := cell_later HX.out.bel g2
          clear g1 g2 k0 k3
          go_wp2_with fail
          -- the append
          obtain ⟨K, us, hsl, hKn, hback⟩ := HH.out.app 2 rfl
          have hpK : ¬ K p := hKn p 0 _ (by decide) rfl fun H Y h => .inl h.2
          have hxl : (c.flying ++ List.replicate j (c.ticks + c.delay, c.what d)).length = c.flying.length + j := by simp
          rw [hxl] at hsl
          have HSL := Lib.hid (show Sl wc K 66 2 (.slice la' (c.flying.length + j) lc') (c.flying.length + j) us from hsl.keep fun k hk hl => HX.out.bel.block k hl)
          have HBK := Lib.hid hback
          have HXL := Lib.hid hxl
          have HROWC := Lib.hid ((HX.out.bel.block p hltr).trans HROWR.out)
          have k6' := (cab_cells HROWC.out).2.2.2.2.2.2
          have fz6' := (cab_free HROWC.out).2.2.2.2
          have hltc := lt_of_block HROWC.out
          have hltx := lt_of_block HX.out.row
          clear hsl hback hKn hxl k6 fz6 x0 x1 g1' g2'
          have x0 := blk_cell (i := 0) HX.out.row rfl; have x1 := blk_cell (i := 1) HX.out.row rfl
          go_region_law (refine step_app_sl slTr rfl _ _ (by rfl) K (.slice la' (c.flying.length + j) lc') (c.flying.length + j) us (by rfl) (by (repeat (first | (with_reducible exact HSL.out) | (with_reducible refine Sl.alloc ?_ _) | (with_reducible refine Sl.drewN ?_ _) | (with_reducible refine Sl.drew ?_)))) _ 1 [.int .i64 ((c.ticks + c.delay : Nat) : Int), .slice ya d.length yc] (by rfl) (slTrA _ _ _ _ _ (by first | rfl | simp)) (by intro u hu; simp at hu; rcases hu with rfl | rfl <;> rfl) (by unfold maxLen; omega) (by omega) ?_; intro v2 w3 hsl2 hf2; obtain ⟨g2, off2, cap2, rfl, _⟩ := Sl.head hsl2 (by omega); have H3 := Lib.hid (HBK.out _ w3 _ [(c.ticks + c.delay, d)] _ (HX.out.bel.trans ((show Below wc.heap.size wc _ by (repeat (first | (with_reducible exact Below.refl _ _) | (with_reducible refine Bw.alloc ?_ _) | (with_reducible refine Bw.drewN ?_ _) | (with_reducible refine Bw.drew ?_)))).mono HX.out.bel.size)) (by rw [HXL.out]; exact hsl2) hf2 (fun Y _ => ⟨fun _ => False, fun k => wr.heap.size ≤ k, fun _ f => f.elim, fun _ h => .inr h, fun _ f => f.elim, Els.single (E := eTr) ⟨_, rfl, HX.out.ow.z.below (by (repeat (first | (with_reducible exact Below.refl _ _) | (with_reducible refine Bw.alloc ?_ _) | (with_reducible refine Bw.drewN ?_ _) | (with_reducible refine Bw.drew ?_))))⟩⟩)); have HROW3 := Lib.hid (hf2.keep (show _ = some (.cells (sendCells c fv la' (c.flying.length + j) lc') 62 (0, 0)) by (repeat (first | (with_reducible exact HROWC.out) | (with_reducible apply row_drewN) | (with_reducible apply row_drew) | (with_reducible apply row_alloc)))) hpK); have k6'' := (cab_cells HROW3.out).2.2.2.2.2.2; have fz6'' := (cab_free HROW3.out).2.2.2.2; clear hsl2 hf2)
          all_goals go_wp2_with fail
          all_goals
            go_roundw
            case rel => exact ⟨j + 1, some ⟨g2, off2, none⟩, cap2, by omega, by go_num, Lib.hid (by
              have h := H3.out.set 0 rfl (.cells (sendCells c fv (some ⟨g2, off2, none⟩) (c.flying.length + (j + 1)) cap2) 62 (0, 0)) (w' := w3.setCell ⟨p, 6, none⟩ (.slice (some ⟨g2, off2, none⟩) (c.flying.length + j + 1) cap2)) (by (repeat (first | (with_reducible exact Fr.refl _ _) | exact Or.inl rfl | (exact Or.inr (by simp <;> omega)) | (with_reducible refine Fr.setCell ?_ ?_ _) | (with_reducible refine Fr.drewN ?_ _) | (with_reducible refine Fr.drew ?_) | (with_reducible refine Fr.alloc ?_ _)))) (by (apply row_trans; focus (repeat (first | (with_reducible exact HROW3.out) | (with_reducible apply row_set) | (with_reducible apply row_drewN) | (with_reducible apply row_drew) | (with_reducible apply row_alloc) | (apply row_set_other (by first | omega | (simp <;> omega)))))); simp [cabCells, sendCells]; omega)
              rw [List.replicate_succ', ← List.append_assoc, HW.out]
              rw [HW.out] at h
              exact h)⟩
            case measure => simp [intOf]; omega
      · obtain rfl : j = 2 := by omega
        go_wp2_with fail
        go_ret
        refine ⟨rfl, ?_⟩
        rw [HCP.out]
        have h := HH.out
        refine (Held.fold (T := tCab p { c with sent := c.sent + 1, flying := c.flying ++ List.replicate 2 (c.ticks + c.delay, c.what d) }) (show Held F Z w ([_, _, _] ++ [_]) wr from h) fun G Y _ hst => cab_close (c := { c with sent := c.sent + 1, flying := c.flying ++ List.replicate 2 (c.ticks + c.delay, c.what d) }) (fv := fv) (lv := .slice la' (c.flying.length + 2) lc') hst).did'
  · skip
    go_wp2_with fail
    go_loopw [60] (fun i wr => ∃ (j : Nat) (la' : Option Addr) (lc' : Nat), j ≤ 1 ∧ i = .int .i64 (j : Int) ∧ Hid (Held F Z w [tBlk p (.cells (sendCells c fv la' (c.flying.length + j) lc') 62 (0, 0)), tRd eFlt fv c.faults, tSq eTr 66 (.slice la' (c.flying.length + j) lc') (c.flying ++ List.replicate j (c.ticks + c.delay, c.what d)), tBlk w1.heap.size (.cells #[.int .i64 c.fault.at', .int .i64 c.fault.kind, .int .i64 c.fault.arg] 39 (0, 0))] wr)) (fun i _ => 1 - (intOf i).toNat)
    case atStart => exact ⟨0, la, lc, by omega, rfl, HH2⟩
    case round =>
      clear HH2
      obtain ⟨j, la', lc', hj, rfl, HH⟩ := hrel
      have hrow := HH.out.blk 0 rfl
      obtain ⟨k0, _, _, k3, _, _, k6⟩ := cab_cells hrow
      obtain ⟨_, _, _, _, fz6⟩ := cab_free hrow
      have hltr := lt_of_block hrow
      have HROWR := Lib.hid hrow
      have hbox := HH.out.blk 3 rfl
      have g1 := blk_cell (i := 1) hbox rfl; have g2 := blk_cell (i := 2) hbox rfl
      have hltb := lt_of_block hbox
      have HBOX := Lib.hid hbox
      have HVR : Hid (By wr (.slice va d.length vc) d) := Lib.hid (Rd.stay HV.out.1 fun h0 k e hl => HH.out.fr.block k hl (hz k (HV.out.2 (by rwa [cu_length] at h0) k e)))
      clear hrow hbox
      by_cases hjl : j < 1
      · go_upto_region 16 with fail
        go_cut [7, 60] from 60 to 109 (fun u7 u60 wc => u60 = .int .i64 (j : Int) ∧ ∃ (xb : Nat) (ya : Option Addr) (yc : Nat), u7 = .pointer (some ⟨xb, 0, none⟩) ∧ Hid (XBox wr (c.ticks + c.delay) ya yc d xb wc))
        case first =>
          have hne : p ≠ wr.heap.size := by omega
          have hsum : IntKind.i64.wrap ((c.ticks : Int) + (c.delay : Int)) = ((c.ticks + c.delay : Nat) : Int) := by rw [IntWalk.i64_in _ (by omega)]; omega
          go_region_held3 (fun w' => w'.cell? ⟨p, 3, none⟩ = some (.int .i64 (c.ticks : Int)) ∧ w'.cell? ⟨p, 0, none⟩ = some (.int .i64 (c.delay : Int))) (first | exact ⟨k3, k0⟩ | exact ⟨alloc_cell _ _ k3, alloc_cell _ _ k0⟩ | exact HS2.out | exact ⟨alloc_cell _ _ HS2.out.1, alloc_cell _ _ HS2.out.2⟩ | (refine ⟨?_, ?_⟩ <;> (repeat (first | exact HS2.out.1 | exact HS2.out.2 | refine cell_ne hne ?_))))
            ((go_at_call 28; refine (clone_any _ d _ (by first | exact Rd.keep HVR.out (fun _ _ _ => rfl) | exact (By.alloc HVR.out _).keep (fun _ _ _ => rfl)) (by omega)).mono ?_; rintro e w2 ⟨v1, rfl, hO, hB⟩; obtain ⟨v1a, v1c, rfl⟩ := ow_shape hO; have hz2 := hB.size; have HS2 := Lib.hid (show w2.cell? ⟨p, 3, none⟩ = some (.int .i64 (c.ticks : Int)) ∧ w2.cell? ⟨p, 0, none⟩ = some (.int .i64 (c.delay : Int)) from ⟨cell_later hB (by first | exact k3 | exact alloc_cell _ _ k3), cell_later hB (by first | exact k0 | exact alloc_cell _ _ k0)⟩); (try (have hR2 := (hB.block wr.heap.size (by simp)).trans (heap_alloc_new wr _); have r0 := blk_cell (i := 0) hR2 rfl; have r1 := blk_cell (i := 1) hR2 rfl; have fr0 := blk_free hR2 0; have fr1 := blk_free hR2 1; have HR2 := Lib.hid hR2; clear hR2)); have HO := Lib.hid hO; have HBC := Lib.hid hB; clear hO hB))
          all_goals go_wp2_with fail
          all_goals go_meet
          all_goals (case rel => exact ⟨rfl, _, _, _, rfl, by first | exact Lib.hid (XBox.late HBC.out HO.out) | exact Lib.hid (XBox.early rfl HBC.out HO.out)⟩)
        case rest =>
          obtain ⟨rfl, xb, ya, yc, rfl, HX⟩ := hcut
          have x0 := blk_cell (i := 0) HX.out.row rfl; have x1 := blk_cell (i := 1) HX.out.row rfl
          have g1' := cell_later HX.out.bel g1; have g2' := cell_later HX.out.bel g2
          clear g1 g2 k0 k3
          go_wp2_with fail
          -- the append
          obtain ⟨K, us, hsl, hKn, hback⟩ := HH.out.app 2 rfl
          have hpK : ¬ K p := hKn p 0 _ (by decide) rfl fun H Y h => .inl h.2
          have hxl : (c.flying ++ List.replicate j (c.ticks + c.delay, c.what d)).length = c.flying.length + j := by simp
          rw [hxl] at hsl
          have HSL := Lib.hid (show Sl wc K 66 2 (.slice la' (c.flying.length + j) lc') (c.flying.length + j) us from hsl.keep fun k hk hl => HX.out.bel.block k hl)
          have HBK := Lib.hid hback
          have HXL := Lib.hid hxl
          have HROWC := Lib.hid ((HX.out.bel.block p hltr).trans HROWR.out)
          have k6' := (cab_cells HROWC.out).2.2.2.2.2.2
          have fz6' := (cab_free HROWC.out).2.2.2.2
          have hltc := lt_of_block HROWC.out
          have hltx := lt_of_block HX.out.row
          clear hsl hback hKn hxl k6 fz6 x0 x1 g1' g2'
          have x0 := blk_cell (i := 0) HX.out.row rfl; have x1 := blk_cell (i := 1) HX.out.row rfl
          go_region_law (refine step_app_sl slTr rfl _ _ (by rfl) K (.slice la' (c.flying.length + j) lc') (c.flying.length + j) us (by rfl) (by (repeat (first | (with_reducible exact HSL.out) | (with_reducible refine Sl.alloc ?_ _) | (with_reducible refine Sl.drewN ?_ _) | (with_reducible refine Sl.drew ?_)))) _ 1 [.int .i64 ((c.ticks + c.delay : Nat) : Int), .slice ya d.length yc] (by rfl) (slTrA _ _ _ _ _ (by first | rfl | simp)) (by intro u hu; simp at hu; rcases hu with rfl | rfl <;> rfl) (by unfold maxLen; omega) (by omega) ?_; intro v2 w3 hsl2 hf2; obtain ⟨g2, off2, cap2, rfl, _⟩ := Sl.head hsl2 (by omega); have H3 := Lib.hid (HBK.out _ w3 _ [(c.ticks + c.delay, d)] _ (HX.out.bel.trans ((show Below wc.heap.size wc _ by (repeat (first | (with_reducible exact Below.refl _ _) | (with_reducible refine Bw.alloc ?_ _) | (with_reducible refine Bw.drewN ?_ _) | (with_reducible refine Bw.drew ?_)))).mono HX.out.bel.size)) (by rw [HXL.out]; exact hsl2) hf2 (fun Y _ => ⟨fun _ => False, fun k => wr.heap.size ≤ k, fun _ f => f.elim, fun _ h => .inr h, fun _ f => f.elim, Els.single (E := eTr) ⟨_, rfl, HX.out.ow.z.below (by (repeat (first | (with_reducible exact Below.refl _ _) | (with_reducible refine Bw.alloc ?_ _) | (with_reducible refine Bw.drewN ?_ _) | (with_reducible refine Bw.drew ?_))))⟩⟩)); have HROW3 := Lib.hid (hf2.keep (show _ = some (.cells (sendCells c fv la' (c.flying.length + j) lc') 62 (0, 0)) by (repeat (first | (with_reducible exact HROWC.out) | (with_reducible apply row_drewN) | (with_reducible apply row_drew) | (with_reducible apply row_alloc)))) hpK); have k6'' := (cab_cells HROW3.out).2.2.2.2.2.2; have fz6'' := (cab_free HROW3.out).2.2.2.2; clear hsl2 hf2)
          all_goals go_wp2_with fail
          all_goals
            go_roundw
            case rel => exact ⟨j + 1, some ⟨g2, off2, none⟩, cap2, by omega, by go_num, Lib.hid (by
              have h := H3.out.set 0 rfl (.cells (sendCells c fv (some ⟨g2, off2, none⟩) (c.flying.length + (j + 1)) cap2) 62 (0, 0)) (w' := w3.setCell ⟨p, 6, none⟩ (.slice (some ⟨g2, off2, none⟩) (c.flying.length + j + 1) cap2)) (by (repeat (first | (with_reducible exact Fr.refl _ _) | exact Or.inl rfl | (exact Or.inr (by simp <;> omega)) | (with_reducible refine Fr.setCell ?_ ?_ _) | (with_reducible refine Fr.drewN ?_ _) | (with_reducible refine Fr.drew ?_) | (with_reducible refine Fr.alloc ?_ _)))) (by (apply row_trans; focus (repeat (first | (with_reducible exact HROW3.out) | (with_reducible apply row_set) | (with_reducible apply row_drewN) | (with_reducible apply row_drew) | (with_reducible apply row_alloc) | (apply row_set_other (by first | omega | (simp <;> omega)))))); simp [cabCells, sendCells]; omega)
              rw [List.replicate_succ', ← List.append_assoc, HW.out]
              rw [HW.out] at h
              exact h)⟩
            case measure => simp [intOf]; omega
      · obtain rfl : j = 1 := by omega
        go_wp2_with fail
        go_ret
        refine ⟨rfl, ?_⟩
        rw [HCP.out]
        have h := HH.out
        refine (Held.fold (T := tCab p { c with sent := c.sent + 1, flying := c.flying ++ List.replicate 1 (c.ticks + c.delay, c.what d) }) (show Held F Z w ([_, _, _] ++ [_]) wr from h) fun G Y _ hst => cab_close (c := { c with sent := c.sent + 1, flying := c.flying ++ List.replicate 1 (c.ticks + c.delay, c.what d) }) (fv := fv) (lv := .slice la' (c.flying.length + 1) lc') hst).did'
  · skip
    go_wp2_with fail
    go_loopw [60] (fun i wr => ∃ (j : Nat) (la' : Option Addr) (lc' : Nat), j ≤ 1 ∧ i = .int .i64 (j : Int) ∧ Hid (Held F Z w [tBlk p (.cells (sendCells c fv la' (c.flying.length + j) lc') 62 (0, 0)), tRd eFlt fv c.faults, tSq eTr 66 (.slice la' (c.flying.length + j) lc') (c.flying ++ List.replicate j (c.ticks + c.delay, c.what d)), tBlk w1.heap.size (.cells #[.int .i64 c.fault.at', .int .i64 c.fault.kind, .int .i64 c.fault.arg] 39 (0, 0))] wr)) (fun i _ => 1 - (intOf i).toNat)
    case atStart => exact ⟨0, la, lc, by omega, rfl, HH2⟩
    case round =>
      clear HH2
      obtain ⟨j, la', lc', hj, rfl, HH⟩ := hrel
      have hrow := HH.out.blk 0 rfl
      obtain ⟨k0, _, _, k3, _, _, k6⟩ := cab_cells hrow
      obtain ⟨_, _, _, _, fz6⟩ := cab_free hrow
      have hltr := lt_of_block hrow
      have HROWR := Lib.hid hrow
      have hbox := HH.out.blk 3 rfl
      have g1 := blk_cell (i := 1) hbox rfl; have g2 := blk_cell (i := 2) hbox rfl
      have hltb := lt_of_block hbox
      have HBOX := Lib.hid hbox
      have HVR : Hid (By wr (.slice va d.length vc) d) := Lib.hid (Rd.stay HV.out.1 fun h0 k e hl => HH.out.fr.block k hl (hz k (HV.out.2 (by rwa [cu_length] at h0) k e)))
      clear hrow hbox
      by_cases hjl : j < 1
      · go_upto_region 16 with fail
        go_cut [7, 60] from 60 to 109 (fun u7 u60 wc => u60 = .int .i64 (j : Int) ∧ ∃ (xb : Nat) (ya : Option Addr) (yc : Nat), u7 = .pointer (some ⟨xb, 0, none⟩) ∧ Hid (XBox wr (c.ticks + c.delay) ya yc d xb wc))
        case first =>
          have hne : p ≠ wr.heap.size := by omega
          have hsum : IntKind.i64.wrap ((c.ticks : Int) + (c.delay : Int)) = ((c.ticks + c.delay : Nat) : Int) := by rw [IntWalk.i64_in _ (by omega)]; omega
          go_region_held3 (fun w' => w'.cell? ⟨p, 3, none⟩ = some (.int .i64 (c.ticks : Int)) ∧ w'.cell? ⟨p, 0, none⟩ = some (.int .i64 (c.delay : Int))) (first | exact ⟨k3, k0⟩ | exact ⟨alloc_cell _ _ k3, alloc_cell _ _ k0⟩ | exact HS2.out | exact ⟨alloc_cell _ _ HS2.out.1, alloc_cell _ _ HS2.out.2⟩ | (refine ⟨?_, ?_⟩ <;> (repeat (first | exact HS2.out.1 | exact HS2.out.2 | refine cell_ne hne ?_))))
            ((go_at_call 28; refine (clone_any _ d _ (by first | exact Rd.keep HVR.out (fun _ _ _ => rfl) | exact (By.alloc HVR.out _).keep (fun _ _ _ => rfl)) (by omega)).mono ?_; rintro e w2 ⟨v1, rfl, hO, hB⟩; obtain ⟨v1a, v1c, rfl⟩ := ow_shape hO; have hz2 := hB.size; have HS2 := Lib.hid (show w2.cell? ⟨p, 3, none⟩ = some (.int .i64 (c.ticks : Int)) ∧ w2.cell? ⟨p, 0, none⟩ = some (.int .i64 (c.delay : Int)) from ⟨cell_later hB (by first | exact k3 | exact alloc_cell _ _ k3), cell_later hB (by first | exact k0 | exact alloc_cell _ _ k0)⟩); (try (have hR2 := (hB.block wr.heap.size (by simp)).trans (heap_alloc_new wr _); have r0 := blk_cell (i := 0) hR2 rfl; have r1 := blk_cell (i := 1) hR2 rfl; have fr0 := blk_free hR2 0; have fr1 := blk_free hR2 1; have HR2 := Lib.hid hR2; clear hR2)); have HO := Lib.hid hO; have HBC := Lib.hid hB; clear hO hB))
          all_goals go_wp2_with fail
          all_goals go_meet
          all_goals (case rel => exact ⟨rfl, _, _, _, rfl, by first | exact Lib.hid (XBox.late HBC.out HO.out) | exact Lib.hid (XBox.early rfl HBC.out HO.out)⟩)
        case rest =>
          obtain ⟨rfl, xb, ya, yc, rfl, HX⟩ := hcut
          have x0 := blk_cell (i := 0) HX.out.row rfl; have x1 := blk_cell (i := 1) HX.out.row rfl
          have g1' := cell_later HX.out.bel g1; have g2' := cell_later HX.out.bel g2
          clear g1 g2 k0 k3
          go_wp2_with fail
          -- the append
          obtain ⟨K, us, hsl, hKn, hback⟩ := HH.out.app 2 rfl
          have hpK : ¬ K p := hKn p 0 _ (by decide) rfl fun H Y h => .inl h.2
          have hxl : (c.flying ++ List.replicate j (c.ticks + c.delay, c.what d)).length = c.flying.length + j := by simp
          rw [hxl] at hsl
          have HSL := Lib.hid (show Sl wc K 66 2 (.slice la' (c.flying.length + j) lc') (c.flying.length + j) us from hsl.keep fun k hk hl => HX.out.bel.block k hl)
          have HBK := Lib.hid hback
          have HXL := Lib.hid hxl
          have HROWC := Lib.hid ((HX.out.bel.block p hltr).trans HROWR.out)
          have k6' := (cab_cells HROWC.out).2.2.2.2.2.2
          have fz6' := (cab_free HROWC.out).2.2.2.2
          have hltc := lt_of_block HROWC.out
          have hltx := lt_of_block HX.out.row
          clear hsl hback hKn hxl k6 fz6 x0 x1 g1' g2'
          have x0 := blk_cell (i := 0) HX.out.row rfl; have x1 := blk_cell (i := 1) HX.out.row rfl
          go_region_law (refine step_app_sl slTr rfl _ _ (by rfl) K (.slice la' (c.flying.length + j) lc') (c.flying.length + j) us (by rfl) (by (repeat (first | (with_reducible exact HSL.out) | (with_reducible refine Sl.alloc ?_ _) | (with_reducible refine Sl.drewN ?_ _) | (with_reducible refine Sl.drew ?_)))) _ 1 [.int .i64 ((c.ticks + c.delay : Nat) : Int), .slice ya d.length yc] (by rfl) (slTrA _ _ _ _ _ (by first | rfl | simp)) (by intro u hu; simp at hu; rcases hu with rfl | rfl <;> rfl) (by unfold maxLen; omega) (by omega) ?_; intro v2 w3 hsl2 hf2; obtain ⟨g2, off2, cap2, rfl, _⟩ := Sl.head hsl2 (by omega); have H3 := Lib.hid (HBK.out _ w3 _ [(c.ticks + c.delay, d)] _ (HX.out.bel.trans ((show Below wc.heap.size wc _ by (repeat (first | (with_reducible exact Below.refl _ _) | (with_reducible refine Bw.alloc ?_ _) | (with_reducible refine Bw.drewN ?_ _) | (with_reducible refine Bw.drew ?_)))).mono HX.out.bel.size)) (by rw [HXL.out]; exact hsl2) hf2 (fun Y _ => ⟨fun _ => False, fun k => wr.heap.size ≤ k, fun _ f => f.elim, fun _ h => .inr h, fun _ f => f.elim, Els.single (E := eTr) ⟨_, rfl, HX.out.ow.z.below (by (repeat (first | (with_reducible exact Below.refl _ _) | (with_reducible refine Bw.alloc ?_ _) | (with_reducible refine Bw.drewN ?_ _) | (with_reducible refine Bw.drew ?_))))⟩⟩)); have HROW3 := Lib.hid (hf2.keep (show _ = some (.cells (sendCells c fv la' (c.flying.length + j) lc') 62 (0, 0)) by (repeat (first | (with_reducible exact HROWC.out) | (with_reducible apply row_drewN) | (with_reducible apply row_drew) | (with_reducible apply row_alloc)))) hpK); have k6'' := (cab_cells HROW3.out).2.2.2.2.2.2; have fz6'' := (cab_free HROW3.out).2.2.2.2; clear hsl2 hf2)
          all_goals go_wp2_with fail
          all_goals
            go_roundw
            case rel => exact ⟨j + 1, some ⟨g2, off2, none⟩, cap2, by omega, by go_num, Lib.hid (by
              have h := H3.out.set 0 rfl (.cells (sendCells c fv (some ⟨g2, off2, none⟩) (c.flying.length + (j + 1)) cap2) 62 (0, 0)) (w' := w3.setCell ⟨p, 6, none⟩ (.slice (some ⟨g2, off2, none⟩) (c.flying.length + j + 1) cap2)) (by (repeat (first | (with_reducible exact Fr.refl _ _) | exact Or.inl rfl | (exact Or.inr (by simp <;> omega)) | (with_reducible refine Fr.setCell ?_ ?_ _) | (with_reducible refine Fr.drewN ?_ _) | (with_reducible refine Fr.drew ?_) | (with_reducible refine Fr.alloc ?_ _)))) (by (apply row_trans; focus (repeat (first | (with_reducible exact HROW3.out) | (with_reducible apply row_set) | (with_reducible apply row_drewN) | (with_reducible apply row_drew) | (with_reducible apply row_alloc) | (apply row_set_other (by first | omega | (simp <;> omega)))))); simp [cabCells, sendCells]; omega)
              rw [List.replicate_succ', ← List.append_assoc, HW.out]
              rw [HW.out] at h
              exact h)⟩
            case measure => simp [intOf]; omega
      · obtain rfl : j = 1 := by omega
        go_wp2_with fail
        go_ret
        refine ⟨rfl, ?_⟩
        rw [HCP.out]
        have h := HH.out
        refine (Held.fold (T := tCab p { c with sent := c.sent + 1, flying := c.flying ++ List.replicate 1 (c.ticks + c.delay, c.what d) }) (show Held F Z w ([_, _, _] ++ [_]) wr from h) fun G Y _ hst => cab_close (c := { c with sent := c.sent + 1, flying := c.flying ++ List.replicate 1 (c.ticks + c.delay, c.what d) }) (fv := fv) (lv := .slice la' (c.flying.length + 1) lc') hst).did'
  · skip
    go_wp2_with fail
    go_loopw [60] (fun i wr => ∃ (j : Nat) (la' : Option Addr) (lc' : Nat), j ≤ 1 ∧ i = .int .i64 (j : Int) ∧ Hid (Held F Z w [tBlk p (.cells (sendCells c fv la' (c.flying.length + j) lc') 62 (0, 0)), tRd eFlt fv c.faults, tSq eTr 66 (.slice la' (c.flying.length + j) lc') (c.flying ++ List.replicate j (c.ticks + c.delay, c.what d)), tBlk w1.heap.size (.cells #[.int .i64 c.fault.at', .int .i64 c.fault.kind, .int .i64 c.fault.arg] 39 (0, 0))] wr)) (fun i _ => 1 - (intOf i).toNat)
    case atStart => exact ⟨0, la, lc, by omega, rfl, HH2⟩
    case round =>
      clear HH2
      obtain ⟨j, la', lc', hj, rfl, HH⟩ := hrel
      have hrow := HH.out.blk 0 rfl
      obtain ⟨k0, _, _, k3, _, _, k6⟩ := cab_cells hrow
      obtain ⟨_, _, _, _, fz6⟩ := cab_free hrow
      have hltr := lt_of_block hrow
      have HROWR := Lib.hid hrow
      have hbox := HH.out.blk 3 rfl
      have g1 := blk_cell (i := 1) hbox rfl; have g2 := blk_cell (i := 2) hbox rfl
      have hltb := lt_of_block hbox
      have HBOX := Lib.hid hbox
      have HVR : Hid (By wr (.slice va d.length vc) d) := Lib.hid (Rd.stay HV.out.1 fun h0 k e hl => HH.out.fr.block k hl (hz k (HV.out.2 (by rwa [cu_length] at h0) k e)))
      clear hrow hbox
      by_cases hjl : j < 1
      · go_upto_region 16 with fail
        go_cut [7, 60] from 60 to 109 (fun u7 u60 wc => u60 = .int .i64 (j : Int) ∧ ∃ (xb : Nat) (ya : Option Addr) (yc : Nat), u7 = .pointer (some ⟨xb, 0, none⟩) ∧ Hid (XBox wr (c.ticks + c.delay) ya yc d xb wc))
        case first =>
          have hne : p ≠ wr.heap.size := by omega
          have hsum : IntKind.i64.wrap ((c.ticks : Int) + (c.delay : Int)) = ((c.ticks + c.delay : Nat) : Int) := by rw [IntWalk.i64_in _ (by omega)]; omega
          go_region_held3 (fun w' => w'.cell? ⟨p, 3, none⟩ = some (.int .i64 (c.ticks : Int)) ∧ w'.cell? ⟨p, 0, none⟩ = some (.int .i64 (c.delay : Int))) (first | exact ⟨k3, k0⟩ | exact ⟨alloc_cell _ _ k3, alloc_cell _ _ k0⟩ | exact HS2.out | exact ⟨alloc_cell _ _ HS2.out.1, alloc_cell _ _ HS2.out.2⟩ | (refine ⟨?_, ?_⟩ <;> (repeat (first | exact HS2.out.1 | exact HS2.out.2 | refine cell_ne hne ?_))))
            ((go_at_call 28; refine (clone_any _ d _ (by first | exact Rd.keep HVR.out (fun _ _ _ => rfl) | exact (By.alloc HVR.out _).keep (fun _ _ _ => rfl)) (by omega)).mono ?_; rintro e w2 ⟨v1, rfl, hO, hB⟩; obtain ⟨v1a, v1c, rfl⟩ := ow_shape hO; have hz2 := hB.size; have HS2 := Lib.hid (show w2.cell? ⟨p, 3, none⟩ = some (.int .i64 (c.ticks : Int)) ∧ w2.cell? ⟨p, 0, none⟩ = some (.int .i64 (c.delay : Int)) from ⟨cell_later hB (by first | exact k3 | exact alloc_cell _ _ k3), cell_later hB (by first | exact k0 | exact alloc_cell _ _ k0)⟩); (try (have hR2 := (hB.block wr.heap.size (by simp)).trans (heap_alloc_new wr _); have r0 := blk_cell (i := 0) hR2 rfl; have r1 := blk_cell (i := 1) hR2 rfl; have fr0 := blk_free hR2 0; have fr1 := blk_free hR2 1; have HR2 := Lib.hid hR2; clear hR2)); have HO := Lib.hid hO; have HBC := Lib.hid hB; clear hO hB))
          all_goals go_wp2_with fail
          all_goals go_meet
          all_goals (case rel => exact ⟨rfl, _, _, _, rfl, by first | exact Lib.hid (XBox.late HBC.out HO.out) | exact Lib.hid (XBox.early rfl HBC.out HO.out)⟩)
        case rest =>
          obtain ⟨rfl, xb, ya, yc, rfl, HX⟩ := hcut
          have x0 := blk_cell (i := 0) HX.out.row rfl; have x1 := blk_cell (i := 1) HX.out.row rfl
          have g1' := cell_later HX.out.bel g1; have g2' := cell_later HX.out.bel g2
          clear g1 g2 k0 k3
          obtain ⟨g, cap, e, hg1, hg2⟩ := ow_shape' HX.out.ow hd0
          obtain ⟨rfl, rfl⟩ : ya = some ⟨g, 0, none⟩ ∧ yc = cap := by simpa using e
          have hdp : (0 : Int) < 6 * (d.length : Int) := by omega
          obtain ⟨B, hB, hBlt⟩ : ∃ B : Nat, c.fault.arg % (6 * (d.length : Int)) = (B : Int) ∧ B < 6 * d.length := ⟨(c.fault.arg % (6 * (d.length : Int))).toNat, by have := Int.emod_nonneg c.fault.arg (b := 6 * (d.length : Int)) (by omega); omega, by have := Int.emod_lt_of_pos c.fault.arg hdp; have := Int.emod_nonneg c.fault.arg (b := 6 * (d.length : Int)) (by omega); omega⟩
          obtain ⟨x, hx⟩ : ∃ x, d[B / 6]? = some x := ⟨d[B / 6], List.getElem?_eq_getElem (by omega)⟩
          have cx : wc.cell? ⟨g, B / 6, none⟩ = some (.int .u8 (U x)) := by
            have := World.ownsRow.cellAt HX.out.ow (B / 6) (by omega)
            rw [this]; unfold cu; rw [List.getElem?_map, hx]; rfl
          have fx := World.ownsRow.frozenAt HX.out.ow (B / 6)
          have hsh := shl_u8_1 .i64 (B % 6) (by omega)
          have HWD : Hid (c.what d = d.modify (B / 6) (fun x => x ^^^ (1#8 <<< (B % 6)))) := Lib.hid (by
            rw [HW.out]; unfold flipB
            rw [if_neg (by intro h; rw [h] at hd0; simp at hd0), hB]
            rfl)
          have HXX := Lib.hid hx
          have HXF := Lib.hid (HX.out.flip (B / 6) (fun x => x ^^^ (1#8 <<< (B % 6))) x hx)
          clear hx e
          obtain ⟨dd, hdd⟩ : ∃ dd, dd = c.what d := ⟨_, rfl⟩
          have HW2 : Hid (c.what d = dd) := Lib.hid hdd.symm
          rw [← HWD.out, ← hdd] at HXF
          clear hdd
          go_upto_if 81 with fail
          go_cut [7, 8, 60] from 61 to 109 (fun u7 u8 u60 wc' => u60 = .int .i64 (j : Int) ∧ u7 = .pointer (some ⟨xb, 0, none⟩) ∧ Hid (XBox wr (c.ticks + c.delay) (some ⟨g, 0, none⟩) yc dd xb wc'))
          case first =>
            go_wp2_with fail
            go_region
            all_goals go_wp2_with fail
            all_goals go_meet
            all_goals (case rel => exact ⟨rfl, rfl, by rw [flipU x _ (by omega)]; exact Lib.hid ⟨⟨HXF.out.bel.os, HXF.out.bel.tape, HXF.out.bel.output, HXF.out.bel.size, HXF.out.bel.block⟩, HXF.out.new, HXF.out.row, HXF.out.ow.keep fun _ _ _ => rfl, HXF.out.ne⟩⟩)
          case rest =>
            clear HX HXF cx fx hsh HXX HWD HW
            obtain ⟨rfl, rfl, HX⟩ := hcut
            have HW := HW2
            clear HW2
            go_wp2_with fail
            -- the append
            obtain ⟨K, us, hsl, hKn, hback⟩ := HH.out.app 2 rfl
            have hpK : ¬ K p := hKn p 0 _ (by decide) rfl fun H Y h => .inl h.2
            have hxl : (c.flying ++ List.replicate j (c.ticks + c.delay, c.what d)).length = c.flying.length + j := by simp
            rw [hxl] at hsl
            have HSL := Lib.hid (show Sl wc K 66 2 (.slice la' (c.flying.length + j) lc') (c.flying.length + j) us from hsl.keep fun k hk hl => HX.out.bel.block k hl)
            have HBK := Lib.hid hback
            have HXL := Lib.hid hxl
            have HROWC := Lib.hid ((HX.out.bel.block p hltr).trans HROWR.out)
            have k6' := (cab_cells HROWC.out).2.2.2.2.2.2
            have fz6' := (cab_free HROWC.out).2.2.2.2
            have hltc := lt_of_block HROWC.out
            have hltx := lt_of_block HX.out.row
            clear hsl hback hKn hxl k6 fz6 x0 x1 g1' g2'
            have x0 := blk_cell (i := 0) HX.out.row rfl; have x1 := blk_cell (i := 1) HX.out.row rfl
            go_region_law (refine step_app_sl slTr rfl _ _ (by rfl) K (.slice la' (c.flying.length + j) lc') (c.flying.length + j) us (by rfl) (by (repeat (first | (with_reducible exact HSL.out) | (with_reducible refine Sl.alloc ?_ _) | (with_reducible refine Sl.drewN ?_ _) | (with_reducible refine Sl.drew ?_)))) _ 1 [.int .i64 ((c.ticks + c.delay : Nat) : Int), .slice (some ⟨g, 0, none⟩) dd.length yc] (by rfl) (slTrA _ _ _ _ _ (by first | rfl | simp)) (by intro u hu; simp at hu; rcases hu with rfl | rfl <;> rfl) (by unfold maxLen; omega) (by omega) ?_; intro v2 w3 hsl2 hf2; obtain ⟨g2, off2, cap2, rfl, _⟩ := Sl.head hsl2 (by omega); have H3 := Lib.hid (HBK.out _ w3 _ [(c.ticks + c.delay, dd)] _ (HX.out.bel.trans ((show Below wc.heap.size wc _ by (repeat (first | (with_reducible exact Below.refl _ _) | (with_reducible refine Bw.alloc ?_ _) | (with_reducible refine Bw.drewN ?_ _) | (with_reducible refine Bw.drew ?_)))).mono HX.out.bel.size)) (by rw [HXL.out]; exact hsl2) hf2 (fun Y _ => ⟨fun _ => False, fun k => wr.heap.size ≤ k, fun _ f => f.elim, fun _ h => .inr h, fun _ f => f.elim, Els.single (E := eTr) ⟨_, rfl, HX.out.ow.z.below (by (repeat (first | (with_reducible exact Below.refl _ _) | (with_reducible refine Bw.alloc ?_ _) | (with_reducible refine Bw.drewN ?_ _) | (with_reducible refine Bw.drew ?_))))⟩⟩)); have HROW3 := Lib.hid (hf2.keep (show _ = some (.cells (sendCells c fv la' (c.flying.length + j) lc') 62 (0, 0)) by (repeat (first | (with_reducible exact HROWC.out) | (with_reducible apply row_drewN) | (with_reducible apply row_drew) | (with_reducible apply row_alloc)))) hpK); have k6'' := (cab_cells HROW3.out).2.2.2.2.2.2; have fz6'' := (cab_free HROW3.out).2.2.2.2; clear hsl2 hf2)
            all_goals go_wp2_with fail
            all_goals
              go_roundw
              case rel => exact ⟨j + 1, some ⟨g2, off2, none⟩, cap2, by omega, by go_num, Lib.hid (by
                have h := H3.out.set 0 rfl (.cells (sendCells c fv (some ⟨g2, off2, none⟩) (c.flying.length + (j + 1)) cap2) 62 (0, 0)) (w' := w3.setCell ⟨p, 6, none⟩ (.slice (some ⟨g2, off2, none⟩) (c.flying.length + j + 1) cap2)) (by (repeat (first | (with_reducible exact Fr.refl _ _) | exact Or.inl rfl | (exact Or.inr (by simp <;> omega)) | (with_reducible refine Fr.setCell ?_ ?_ _) | (with_reducible refine Fr.drewN ?_ _) | (with_reducible refine Fr.drew ?_) | (with_reducible refine Fr.alloc ?_ _)))) (by (apply row_trans; focus (repeat (first | (with_reducible exact HROW3.out) | (with_reducible apply row_set) | (with_reducible apply row_drewN) | (with_reducible apply row_drew) | (with_reducible apply row_alloc) | (apply row_set_other (by first | omega | (simp <;> omega)))))); simp [cabCells, sendCells]; omega)
                rw [List.replicate_succ', ← List.append_assoc, HW.out]
                rw [HW.out] at h
                exact h)⟩
              case measure => simp [intOf]; omega
      · obtain rfl : j = 1 := by omega
        go_wp2_with fail
        go_ret
        refine ⟨rfl, ?_⟩
        rw [HCP.out]
        have h := HH.out
        refine (Held.fold (T := tCab p { c with sent := c.sent + 1, flying := c.flying ++ List.replicate 1 (c.ticks + c.delay, c.what d) }) (show Held F Z w ([_, _, _] ++ [_]) wr from h) fun G Y _ hst => cab_close (c := { c with sent := c.sent + 1, flying := c.flying ++ List.replicate 1 (c.ticks + c.delay, c.what d) }) (fv := fv) (lv := .slice la' (c.flying.length + 1) lc') hst).did'
end Go.Proofs.Ytekojekgjfefkaa
