/- A store takes a segment. -/
import Derived.Test.YtbibippdafnenaaWaS
namespace Go.Proofs.Ytbibippdafnenaa
open Go.RowKit Go.Maps
set_option maxRecDepth 100000

/-- how far a store's numbers go -/
structure St.Low (S : St) : Prop where
  win : S.win ≤ 100000
  off : S.off ≤ 100000
  next : S.next ≤ 100000
  fin : S.fin ≤ 100000
  n : S.n ≤ 100000
  key : ∀ j b, S.m j = some b → j < 100000
/-- the map when the bytes up to j are set -/
def St.upto (S : St) (s : Seg) (j : Nat) (k : Int) : Option Byte := if (S.lo s : Int) ≤ k ∧ k < (j : Int) then s.data[(k - s.off).toNat]? else S.m k
theorem St.upto_lo (S : St) (s : Seg) {j : Nat} (h : j ≤ S.lo s) : S.upto s j = S.m := by
  funext k
  unfold St.upto
  rw [if_neg (by omega)]
theorem St.upto_next (S : St) (s : Seg) {d : Nat} {c : Byte} (h : S.lo s ≤ s.off + d) (hc : s.data[d]? = some c) : (fun k : Int => if k = (s.off : Int) + (d : Int) then some c else S.upto s (s.off + d) k) = S.upto s (s.off + (d + 1)) := by
  funext k
  by_cases hk : k = (s.off : Int) + (d : Int)
  · rw [if_pos hk]
    unfold St.upto
    rw [if_pos (by omega), show (k - (s.off : Int)).toNat = d by omega, hc]
  · rw [if_neg hk]
    unfold St.upto
    by_cases hq : (S.lo s : Int) ≤ k ∧ k < ((s.off + d : Nat) : Int)
    · rw [if_pos hq, if_pos (by omega)]
    · rw [if_neg hq, if_neg (by omega)]
theorem St.upto_hi (S : St) (s : Seg) {j : Nat} (h : S.hi s ≤ j) (h2 : j ≤ S.hi s ∨ j ≤ S.lo s) : S.upto s j = S.map s := by
  funext k
  unfold St.upto St.map
  by_cases hq : (S.lo s : Int) ≤ k ∧ k < (S.hi s : Int)
  · rw [if_pos hq, if_pos (by omega)]
  · rw [if_neg hq, if_neg (by omega)]
section
variable {F Z : BS} {W w : World} {ts : List Th} {p : Nat} {S : St}
set_option maxHeartbeats 16000000 in
theorem putS_c {s : Seg} {va : Option Addr} {vc : Nat} (h : Held F Z W (tSt p S :: ts) w) (i : Nat) (hi : ts[i]? = some (tBy (.slice va s.data.length vc) s.data)) (hf : S.Fits s) (hl : S.Low) (hs : s.off + s.data.length ≤ 100000) :
    Calls Try.prog 28 #[.pointer (some ⟨p, 0, none⟩), .agg #[.int .i64 (s.off : Int), .slice va s.data.length vc, .bool s.last]] w fun e w' => ∃ (k : Int) (n : Nat), e = .returned (.tuple #[.int .i64 k, .int .i64 0]) ∧ S.Upto (S.map s) n ∧ Held F Z W (tSt p (S.put s n) :: ts) w' := by
  obtain ⟨b, h1⟩ := Held.opens h
  obtain ⟨ob, oc, ol⟩ := s
  have H1 := Lib.hid (h1.new (.cells #[.int .i64 (ob : Int), .slice va oc.length vc, .bool ol] 50)).front
  have HF := Lib.hid hf
  have HL := Lib.hid hl
  have HI := Lib.hid hi
  obtain ⟨l1, l2, l3, l4, l5, l6⟩ := hl
  dsimp only at hs H1 HF HI ⊢
  have hrow0 := h1.blk 0 rfl
  have hpl := lt_of_block hrow0
  clear h h1 hf hi hrow0 l6
  go_enter Try.func28, Try.ntmps28
  obtain ⟨wb, hwb⟩ : ∃ wb, wb = w.alloc (.cells #[.int .i64 (ob : Int), .slice va oc.length vc, .bool ol] 50) := ⟨_, rfl⟩
  have hb1 : w.cell? ⟨p, 0, none⟩ = w.cell? ⟨p, 0, none⟩ := rfl
  clear hb1
  go_upto_region 6 with fail
  rw [← hwb] at H1 ⊢
  have hrow := H1.out.blk 1 rfl
  have hbox := H1.out.blk 0 rfl
  have hbl := lt_of_block hbox
  have k2 := blk_cell (i := 2) hbox rfl
  have HRW := Lib.hid hrow
  have HBX := Lib.hid hbox
  clear hwb hrow hbox
  go_wp2_with (go_at_call 46; refine (misfitsS_c H1.out 2 rfl HRW.out _ (ob + oc.length) (by simp) hs ⟨l2, l4⟩ ol (fun hk => HF.out.know hk) (fun hk hl => HF.out.last hk hl)).mono ?_; rintro e w2 ⟨rfl, hb2⟩; have H2 := Lib.hid (H1.out.own hb2); clear H1 hb2 HRW HBX k2)
  obtain ⟨lo, hlo⟩ : ∃ lo, lo = S.lo ⟨ob, oc, ol⟩ := ⟨_, rfl⟩
  obtain ⟨hi, hhi⟩ : ∃ hi, hi = S.hi ⟨ob, oc, ol⟩ := ⟨_, rfl⟩
  have hmx : max (ob : Int) (S.off : Int) = (lo : Int) := by rw [hlo]; unfold St.lo; dsimp only; omega
  have hmn : min ((ob : Int) + (oc.length : Int)) ((S.off : Int) + (S.win : Int)) = (hi : Int) := by rw [hhi]; unfold St.hi; dsimp only; omega
  have hlo1 : ob ≤ lo ∧ lo ≤ 100000 := by rw [hlo]; unfold St.lo; dsimp only; omega
  have hhi1 : hi ≤ ob + oc.length := by rw [hhi]; unfold St.hi; dsimp only; omega
  have HLO := Lib.hid hlo; have HHI := Lib.hid hhi
  have hrow := H2.out.blk 1 rfl
  have hbox := H2.out.blk 0 rfl
  obtain ⟨c0, c1, c2, c3, c4, c5⟩ := st_cells hrow
  have k0 := blk_cell (i := 0) hbox rfl; have k1 := blk_cell (i := 1) hbox rfl; have k2 := blk_cell (i := 2) hbox rfl
  clear hlo hhi hrow hbox
  have hwr : IntKind.i64.wrap ((S.off : Int) + (S.win : Int)) = (S.off : Int) + (S.win : Int) := by rw [IntKind.wrap_i64]; omega
  go_quiet (fail)
  generalize hw3 : World.drewN _ _ = w3
  have H3 := Lib.hid (show Held F Z W (tBlk w.heap.size (.cells #[.int .i64 (ob : Int), .slice va oc.length vc, .bool ol] 50) :: stThs p S b ++ ts) w3 by rw [← hw3]; exact H2.out.drewN _)
  clear hw3 H2 c0 c1 c2 c3 c4 c5 k0 k1 k2 hwr
  go_wp2_with fail
  -- nothing contradicts
  go_loopw [9] (fun x wr => ∃ d : Nat, lo ≤ ob + d ∧ x = .int .i64 ((ob : Int) + (d : Int)) ∧ Hid (Held F Z W (tBlk w.heap.size (.cells #[.int .i64 (ob : Int), .slice va oc.length vc, .bool ol] 50) :: stThs p S b ++ ts) wr)) (fun x _ => hi - (intOf x).toNat)
  case atStart => exact ⟨lo - ob, by omega, by congr 1; omega, H3⟩
  case round =>
    obtain ⟨d, hd, rfl, HH⟩ := hrel
    have hrow := HH.out.blk 1 rfl
    have hbox := HH.out.blk 0 rfl
    obtain ⟨c0, c1, c2, c3, c4, c5⟩ := st_cells hrow
    have k0 := blk_cell (i := 0) hbox rfl; have k1 := blk_cell (i := 1) hbox rfl; have k2 := blk_cell (i := 2) hbox rfl
    by_cases hlt : ob + d < hi
    · obtain ⟨x, hx⟩ : ∃ x, oc[d]? = some x := ⟨oc[d]'(by omega), List.getElem?_eq_getElem (by omega)⟩
      have hlt' : (ob : Int) + (d : Int) < (hi : Int) := by omega
      have q := HH.out.mapLook 2 rfl Try.underlying105 (zv := .int .u8 0) (z0 := 0) (zU8 wr) rfl trivial (k := (ob : Int) + (d : Int)) (by simp [Lit.wf, IntKind.min, IntKind.max, IntKind.signed, IntKind.bits]; omega)
      have hsm := HF.out.same ((ob : Int) + (d : Int))
      cases hm : S.m ((ob : Int) + (d : Int)) with
      | none =>
        rw [hm] at q
        have q' : (Instr.lookup 105 (.map (some b)) (.int .i64 ((ob : Int) + (d : Int))) true).run Try.prog wr = .ok (.tuple #[.int .u8 0, .bool false]) wr := q
        clear q hm hsm hrow hbox hx
        go_wp2_with fail
        go_roundw
        case rel => exact ⟨d + 1, by omega, by go_num, HH⟩
        case measure => simp only [intOf]; omega
      | some y =>
        have hy := hsm y hm (by show (ob : Int) ≤ (ob : Int) + (d : Int); omega) (by show (ob : Int) + (d : Int) < ((ob + oc.length : Nat) : Int); omega)
        rw [show ((ob : Int) + (d : Int) - (Seg.mk ob oc ol).off).toNat = d by show ((ob : Int) + (d : Int) - (ob : Int)).toNat = d; omega] at hy
        obtain rfl : x = y := by rw [show (Seg.mk ob oc ol).data = oc from rfl, hx] at hy; cases hy; rfl
        rw [hm] at q
        have q' : (Instr.lookup 105 (.map (some b)) (.int .i64 ((ob : Int) + (d : Int))) true).run Try.prog wr = .ok (.tuple #[.int .u8 (U x), .bool true]) wr := q
        obtain ⟨_, _, hby⟩ := HH.out.get (i + 3) (by exact HI.out)
        obtain ⟨vb, vo, e, kb⟩ := by_at8 (show ByZ wr _ (.slice va oc.length vc) oc from hby).1 hx
        subst e
        have hdl : (d : Int) < (oc.length : Int) := by omega
        clear q hm hsm hrow hbox hx hy hby
        go_wp2_with fail
        go_roundw
        case rel => exact ⟨d + 1, by omega, by go_num, HH⟩
        case measure => simp only [intOf]; omega
    · clear hrow hbox
      have hge : ¬ (ob : Int) + (d : Int) < (hi : Int) := by omega
      obtain ⟨n0, hn0, hlen⟩ := HH.out.mapLen (ty := 3) 2 rfl Try.underlying105
      go_wp2_with fail
      clear hlen c0 c1 c2 c3 c4 c5 k0 k1 k2 hge H3
      -- the bytes are set
      go_loopw [13] (fun x wr => ∃ d : Nat, lo ≤ ob + d ∧ (ob + d ≤ hi ∨ ob + d = lo) ∧ x = .int .i64 ((ob : Int) + (d : Int)) ∧ Hid (Held F Z W (tBlk w.heap.size (.cells #[.int .i64 (ob : Int), .slice va oc.length vc, .bool ol] 50) :: tBlk p (stRow S b) :: tMap mU8 b (S.n + (ob + d - lo)) (S.upto ⟨ob, oc, ol⟩ (ob + d)) :: ts) wr)) (fun x _ => hi - (intOf x).toNat)
      case atStart => exact ⟨lo - ob, by omega, .inr (by omega), by congr 1; omega, Lib.hid (by rw [show ob + (lo - ob) = lo by omega, St.upto_lo S ⟨ob, oc, ol⟩ (by rw [← HLO.out]; exact Nat.le_refl _), Nat.sub_self]; exact HH.out)⟩
      case round =>
        clear HH
        obtain ⟨d, hd, hd2, rfl, HH⟩ := hrel
        have hrow := HH.out.blk 1 rfl
        have hbox := HH.out.blk 0 rfl
        obtain ⟨c0, c1, c2, c3, c4, c5⟩ := st_cells hrow
        have k0 := blk_cell (i := 0) hbox rfl; have k1 := blk_cell (i := 1) hbox rfl; have k2 := blk_cell (i := 2) hbox rfl
        by_cases hlt : ob + d < hi
        · obtain ⟨x, hx⟩ : ∃ x, oc[d]? = some x := ⟨oc[d]'(by omega), List.getElem?_eq_getElem (by omega)⟩
          have hlt' : (ob : Int) + (d : Int) < (hi : Int) := by omega
          obtain ⟨_, _, hby⟩ := HH.out.get (i + 3) (by exact HI.out)
          obtain ⟨vb, vo, e, kb⟩ := by_at8 (show ByZ wr _ (.slice va oc.length vc) oc from hby).1 hx
          subst e
          have hdl : (d : Int) < (oc.length : Int) := by omega
          have hd0 : 0 ≤ (d : Int) := by omega
          have hwr : IntKind.i64.wrap ((ob : Int) + (d : Int) - (ob : Int)) = (d : Int) := by rw [IntKind.wrap_i64]; omega
          have HX := Lib.hid hx
          clear hrow hbox hx hby
          go_upto_region 19 with fail
          refine wp_region_still_tail 13 (by kernel_rfl) (by kernel_rfl) ?_
          simp only [List.take_succ_cons, List.take_zero, List.drop_succ_cons, List.drop_zero]
          change wpStill _ _ (World.drew _) (fun a' => wpList _ _ _ _ a' (World.drew _)) _ _
          repeat still_step
          refine wpStill_nil ?_
          refine wpList_mset rfl _ _ _ 105 rfl 5 Try.underlying105 HH.out.drew 2 rfl (by omega) ((ob : Int) + (d : Int)) x trivial rfl rfl rfl (by simp [Lit.wf, IntKind.min, IntKind.max, IntKind.signed, IntKind.bits]; omega) ?_
          intro w4 h4 _
          have H4 := Lib.hid (show Held F Z W (tBlk w.heap.size (.cells #[.int .i64 (ob : Int), .slice (some ⟨vb, vo, none⟩) oc.length vc, .bool ol] 50) :: tBlk p (stRow S b) :: tMap mU8 b (S.n + (ob + (d + 1) - lo)) (S.upto ⟨ob, oc, ol⟩ (ob + (d + 1))) :: ts) w4 by
            rw [← St.upto_next S ⟨ob, oc, ol⟩ (d := d) (c := x) (by rw [← HLO.out]; exact hd) HX.out, show S.n + (ob + (d + 1) - lo) = S.n + (ob + d - lo) + 1 by omega]
            exact h4)
          clear h4 HH c0 c1 c2 c3 c4 c5 k0 k1 k2 hwr kb
          go_wp2_with fail
          go_roundw
          case rel => exact ⟨d + 1, by omega, .inl (by omega), by go_num, H4⟩
          case measure => simp only [intOf]; omega
        · have hge : ¬ (ob : Int) + (d : Int) < (hi : Int) := by omega
          have HM := Lib.hid (show Held F Z W (tBlk w.heap.size (.cells #[.int .i64 (ob : Int), .slice va oc.length vc, .bool ol] 50) :: tBlk p (stRow S b) :: tMap mU8 b (S.n + (hi - lo)) (S.map ⟨ob, oc, ol⟩) :: ts) wr by
            rw [← St.upto_hi S ⟨ob, oc, ol⟩ (j := ob + d) (by rw [← HHI.out]; omega) (by rw [← HHI.out, ← HLO.out]; omega), show hi - lo = ob + d - lo by omega]
            exact HH.out)
          have hup := blk_free hrow
          clear HH hbox
          obtain ⟨w5, hw5⟩ : ∃ w5, w5 = if ol then (wr.setCell ⟨p, 4, none⟩ (.int .i64 ((ob : Int) + (oc.length : Int)))).setCell ⟨p, 5, none⟩ (.bool true) else wr := ⟨_, rfl⟩
          have HK5 := Lib.hid (show Held F Z W (tBlk w.heap.size (.cells #[.int .i64 (ob : Int), .slice va oc.length vc, .bool ol] 50) :: tBlk p (stRow (S.put ⟨ob, oc, ol⟩ S.next) b) :: tMap mU8 b (S.n + (hi - lo)) (S.map ⟨ob, oc, ol⟩) :: ts) w5 by
            cases ol
            · have hw5' : w5 = wr := hw5
              subst hw5'
              have e : S.put ⟨ob, oc, false⟩ S.next = { S with m := S.map ⟨ob, oc, false⟩, n := S.n + (S.hi ⟨ob, oc, false⟩ - S.lo ⟨ob, oc, false⟩) } := by unfold St.put; simp
              rw [e]; exact HM.out
            · have hw5' : w5 = (wr.setCell ⟨p, 4, none⟩ (.int .i64 ((ob : Int) + (oc.length : Int)))).setCell ⟨p, 5, none⟩ (.bool true) := hw5
              subst hw5'
              have hr := HM.out.blk 1 rfl
              have e : stRow (S.put ⟨ob, oc, true⟩ S.next) b = .cells #[.int .i64 (S.win : Int), .int .i64 (S.off : Int), .int .i64 (S.next : Int), .map (some b), .int .i64 ((ob : Int) + (oc.length : Int)), .bool true] 107 := by simp [St.put]
              refine HM.out.set 1 rfl (stRow (S.put ⟨ob, oc, true⟩ S.next) b) ?_ ?_
              · exact ((Fr.refl (fun k => k = p) _).setCell (.inl rfl) _).setCell (.inl rfl) _
              · rw [e]; (apply row_trans; focus (repeat (first | (with_reducible exact hr) | (with_reducible apply row_set) | (with_reducible apply row_drewN) | (with_reducible apply row_drew) | (with_reducible apply row_alloc) | (apply row_set_other (by first | omega | (simp <;> omega)))))); rfl)
          have HW5 := Lib.hid hw5
          obtain ⟨s, hs⟩ : ∃ s : Seg, s = ⟨ob, oc, ol⟩ := ⟨_, rfl⟩
          rw [← hs] at HK5
          obtain ⟨bx, HK⟩ : ∃ bx : Obj, Hid (Held F Z W (tBlk w.heap.size bx :: tBlk p (stRow (S.put s S.next) b) :: tMap mU8 b (S.n + (hi - lo)) (S.map s) :: ts) w5) := ⟨_, HK5⟩
          clear HK5
          have HKEY := Lib.hid (show ∀ k : Nat, (S.map s (k : Int)).isSome = true → k < 100000 from fun k hk => by
            obtain ⟨y, hy⟩ := Option.isSome_iff_exists.1 hk
            unfold St.map at hy
            by_cases hc : (S.lo s : Int) ≤ (k : Int) ∧ (k : Int) < (S.hi s : Int)
            · rw [hs, ← HHI.out] at hc; omega
            · rw [if_neg hc] at hy
              have := HL.out.key _ y hy; omega)
          have HS := Lib.hid hs
          clear hw5 k0 k1 hrow hs
          cases ol
          case' false =>
            obtain rfl : w5 = wr := HW5.out
            go_wp2_with fail
          case' true =>
            go_wp2_with fail
            rw [← show w5 = (wr.setCell ⟨p, 4, none⟩ (.int .i64 ((ob : Int) + (oc.length : Int)))).setCell ⟨p, 5, none⟩ (.bool true) from HW5.out]
          all_goals
            clear c0 c1 c2 c3 c4 c5 k2 hup HM
            go_loopw [119] (fun _ wr => ∃ k : Nat, S.next ≤ k ∧ k ≤ 100000 ∧ Hid (∀ j : Nat, S.next ≤ j → j < k → (S.map s j).isSome = true) ∧ Hid (Held F Z W (tBlk w.heap.size bx :: tBlk p (stRow (S.put s k) b) :: tMap mU8 b (S.n + (hi - lo)) (S.map s) :: ts) wr)) (fun _ wr => 100000 - (match wr.cell? ⟨p, 2, none⟩ with | some v => (intOf v).toNat | none => 0))
            case atStart => exact ⟨S.next, Nat.le_refl _, l3, Lib.hid fun j h1 h2 => by omega, HK⟩
            case round =>
              obtain ⟨k, hk1, hk2, HA, HK⟩ := hrel
              have hrow := HK.out.blk 1 rfl
              obtain ⟨c0, c1, c2, c3, c4, c5⟩ := st_cells hrow
              have hnn : S.n + (hi - lo) ≤ 200000 := by omega
              have hmeas : (match wr.cell? ⟨p, 2, none⟩ with | some v => (intOf v).toNat | none => 0) = k := by rw [c2]; simp [intOf, St.put]
              have hup := blk_free hrow
              clear hrow
              have hhas := hasS_c HK.out 2 rfl c3 (k : Int) (by simp [Lit.wf, IntKind.min, IntKind.max, IntKind.signed, IntKind.bits]; omega)
              have HHAS := Lib.hid hhas
              clear hhas
              have hkk : 0 ≤ (k : Int) ∧ (k : Int) ≤ 100000 := by omega
              have c2' : wr.cell? ⟨p, 2, none⟩ = some (.int .i64 (k : Int)) := c2
              clear c2
              cases hk : (S.map s (k : Int)).isSome
              case true =>
                have hlt := HKEY.out k hk
                rw [hk] at HHAS
                have HA2 := Lib.hid (show ∀ j : Nat, S.next ≤ j → j < k + 1 → (S.map s j).isSome = true from fun j h1 h2 => by
                  by_cases e : j = k
                  · rw [e]; exact hk
                  · exact HA.out j h1 (by omega))
                clear hk
                go_wp2_with (go_at_call 47; refine HHAS.out.mono ?_; rintro e w6 ⟨rfl, rfl⟩)
                have HK6 := Lib.hid (HK.out.set 1 rfl (stRow (S.put s (k + 1)) b) ((Fr.refl (fun k => k = p) wr).setCell (p := ⟨p, 2, none⟩) (.inl rfl) (.int .i64 ((k : Int) + 1))) (by have hr := HK.out.blk 1 rfl; rw [show stRow (S.put s (k + 1)) b = .cells #[.int .i64 (S.win : Int), .int .i64 (S.off : Int), .int .i64 ((k : Int) + 1), .map (some b), .int .i64 ((S.put s k).fin : Int), .bool (S.put s k).known] 107 by simp [St.put]]; (apply row_trans; focus (repeat (first | (with_reducible exact hr) | (with_reducible apply row_set) | (with_reducible apply row_drewN) | (with_reducible apply row_drew) | (with_reducible apply row_alloc) | (apply row_set_other (by first | omega | (simp <;> omega)))))); rfl))
                go_roundw
                case rel => exact ⟨k + 1, by omega, by omega, HA2, HK6⟩
                case measure => rw [hmeas, (st_cells (HK6.out.blk 1 rfl)).2.2.1]; simp only [intOf, St.put]; omega
              case false =>
                rw [hk] at HHAS
                have HN := Lib.hid (show S.map s (k : Int) = none by simpa using hk)
                obtain ⟨n1, hn1, hlen⟩ := HK.out.mapLen (ty := 3) 2 rfl Try.underlying105
                clear hk
                go_wp2_with (go_at_call 47; refine HHAS.out.mono ?_; rintro e w6 ⟨rfl, rfl⟩)
                go_ret2
                refine ⟨_, k, rfl, ?_, ?_⟩
                · rw [← HS.out]; exact ⟨hk1, HA.out, HN.out⟩
                · rw [← HS.out]
                  refine Held.shut (f := stThs p (S.put s k)) (i := b) ?_
                  have e : S.n + (hi - lo) = (S.put s k).n := by rw [HHI.out, HLO.out, ← HS.out]; rfl
                  have ht := HK.out.tail
                  rw [e] at ht
                  exact ht
end
end Go.Proofs.Ytbibippdafnenaa
