/- cable.Send: what is lost. -/
import Derived.Test.YtekojekgjfefkaaCabF
namespace Go.Proofs.Ytekojekgjfefkaa
open Go.RowKit

def SendPost (p : Nat) (c : Cab) (d : Byt) (w : World) (F Z : BS) (e : Ending) (w' : World) : Prop :=
  e = .returned (.int .i64 ((c.send d).1 : Int)) ∧ Did w F Z [tCab p (c.send d).2] w'
/-- stores into the cable's own block, behind a call that takes new blocks alone -/
theorem cab_lost {p : Nat} {c : Cab} {w w1 w' : World} {F Z : BS} {fv lv : Value} {o : Array Value} (hh : Held F Z w [tBlk p (.cells o 62 (0, 0)), tRd eFlt fv c.faults, tSq eTr 66 lv c.flying] w1) (c' : Cab) (hf : c'.faults = c.faults) (hl : c'.flying = c.flying)
    (hF : Fr (fun k => k = p) w1 w') (hrow : w'.heap[p]? = some (.cells (cabCells c' fv lv) 62 (0, 0))) : Did w F Z [tCab p c'] w' := by
  have h := hh.set 0 rfl (.cells (cabCells c' fv lv) 62 (0, 0)) hF hrow
  rw [← hf, ← hl] at h
  exact (Held.fold (T := tCab p c') (show Held F Z w ([tBlk p (.cells (cabCells c' fv lv) 62 (0, 0)), tRd eFlt fv c'.faults, tSq eTr 66 lv c'.flying] ++ []) w' from h) fun G Y _ hst => cab_close hst).did
set_option maxHeartbeats 8000000 in
set_option maxRecDepth 100000 in
theorem send_drop (p : Nat) (c : Cab) (hok : c.Ok) (hfl : c.faults.length ≤ 1000000) (hls : c.lost < 1000000000) (hse : c.sent < 1000000000) (a : Option Addr) (n cap : Nat) (d : Byt) (w : World) (F Z : BS) (hd : Dj F Z) (h : (tCab p c).on w F Z) (hx : c.up = false ∨ c.fault.kind = 1) :
    Calls Try.prog 17 #[.pointer (some ⟨p, 0, none⟩), .slice a n cap] w (SendPost p c d w F Z) := by
  have HFA := Lib.hid (fault_any p c hok hfl w F Z h)
  have hs : c.send d = (0, { c with sent := c.sent + 1, lost := c.lost + 1 }) := if_pos hx
  unfold SendPost
  rw [hs]; clear hs
  obtain ⟨fv, lv, hst⟩ := cab_open h
  have hh := Held.start hst hd
  have hrow := hh.blk 0 rfl
  obtain ⟨_, _, c2, _, c4, c5, _⟩ := cab_cells hrow
  have hlt := lt_of_block hrow
  have HROW := Lib.hid hrow
  have HH := Lib.hid hh
  have hx' : c.up = false ∨ (c.up = true ∧ c.fault.kind = 1) := by
    rcases hx with hx | hx
    · exact .inl hx
    · cases hu : c.up
      · exact .inl rfl
      · exact .inr ⟨rfl, hx⟩
  clear hst hh hrow h hok hx
  have HX := Lib.hid hx'
  clear hx'
  go_enter Try.func17, Try.ntmps17
  go_wp2_with fail
  refine HFA.out.mono ?_
  rintro e w1 ⟨rfl, hb⟩
  have HB := Lib.hid hb
  have hz := hb.size
  have hlt1 : p < w1.heap.size := by omega
  have HROW1 := Lib.hid ((hb.block p hlt).trans HROW.out)
  obtain ⟨_, _, d2, _, d4, d5, _⟩ := cab_cells HROW1.out
  obtain ⟨_, _, f4, f5, _⟩ := cab_free HROW1.out
  clear hb c2 c4 c5 HFA
  rcases HX.out with hu | ⟨hu, hk⟩
  all_goals
    rw [hu] at d2
    first | (have hkb : (c.fault.kind == 1) = true := by simp [hk]) | skip
    go_wp2_with fail
    go_ret
    refine ⟨rfl, cab_lost (w1 := w1) (HH.out.own HB.out) _ rfl rfl ?_ ?_⟩
    · (repeat (first | (with_reducible exact Fr.refl _ _) | exact Or.inl rfl | (exact Or.inr (by simp <;> omega)) | (with_reducible refine Fr.setCell ?_ ?_ _) | (with_reducible refine Fr.drewN ?_ _) | (with_reducible refine Fr.drew ?_) | (with_reducible refine Fr.alloc ?_ _)))
    · (apply row_trans; focus (repeat (first | (with_reducible exact HROW1.out) | (with_reducible apply row_set) | (with_reducible apply row_drewN) | (with_reducible apply row_drew) | (with_reducible apply row_alloc) | (apply row_set_other (by first | omega | (simp <;> omega)))))); simp [cabCells]
set_option maxHeartbeats 8000000 in
set_option maxRecDepth 100000 in
theorem send_full (p : Nat) (c : Cab) (hok : c.Ok) (hfl : c.faults.length ≤ 1000000) (hls : c.lost < 1000000000) (hse : c.sent < 1000000000) (a : Option Addr) (n cap : Nat) (d : Byt) (w : World) (F Z : BS) (hd : Dj F Z) (h : (tCab p c).on w F Z) (hu : c.up = true) (hx : c.fault.kind ≠ 1) (hfull : 64 < c.flying.length + c.copies) :
    Calls Try.prog 17 #[.pointer (some ⟨p, 0, none⟩), .slice a n cap] w (SendPost p c d w F Z) := by
  have HFA := Lib.hid (fault_any p c hok hfl w F Z h)
  have hs : c.send d = (5, { c with sent := c.sent + 1, lost := c.lost + 1 }) := by
    unfold Cab.send; rw [if_neg (by rw [hu]; simp [hx]), if_pos hfull]
  unfold SendPost
  rw [hs]; clear hs
  obtain ⟨fv, lv, hst⟩ := cab_open h
  have hh := Held.start hst hd
  have hrow := hh.blk 0 rfl
  obtain ⟨_, _, c2, _, c4, c5, _⟩ := cab_cells hrow
  have hlt := lt_of_block hrow
  have HROW := Lib.hid hrow
  have HH := Lib.hid hh
  have hfly := hok.fly
  have hcop : (c.fault.kind = 3 ∧ 62 < c.flying.length) ∨ (c.fault.kind ≠ 3 ∧ 63 < c.flying.length) := by
    unfold Cab.copies at hfull
    split at hfull
    · exact .inl ⟨‹_›, by omega⟩
    · exact .inr ⟨‹_›, by omega⟩
  have HC := Lib.hid hcop
  obtain ⟨G2, Y2, hs2⟩ := hh.get 2 rfl
  obtain ⟨la, lc, rfl⟩ := Sq.shape (show Sq eTr 66 w G2 Y2 lv c.flying from hs2)
  have hkb : (c.fault.kind == 1) = false := by simpa using hx
  clear hst hh hrow h hok hx hcop hfull hs2
  go_enter Try.func17, Try.ntmps17
  go_wp2_with fail
  refine HFA.out.mono ?_
  rintro e w1 ⟨rfl, hb⟩
  have HB := Lib.hid hb
  have hz := hb.size
  have hlt1 : p < w1.heap.size := by omega
  have HROW1 := Lib.hid ((hb.block p hlt).trans HROW.out)
  obtain ⟨_, _, d2, _, d4, d5, d6⟩ := cab_cells HROW1.out
  obtain ⟨_, _, f4, f5, _⟩ := cab_free HROW1.out
  clear hb c2 c4 c5 HFA
  rw [hu] at d2
  rcases HC.out with ⟨hk, hfl2⟩ | ⟨hk, hfl2⟩
  all_goals
    first | (have hk3 : (c.fault.kind == 3) = true := by simp [hk]) | (have hk3 : (c.fault.kind == 3) = false := by simpa using hk)
    clear hk
    go_wp2_with fail
    go_ret
    refine ⟨rfl, cab_lost (w1 := w1) (HH.out.own HB.out) _ rfl rfl ?_ ?_⟩
    · (repeat (first | (with_reducible exact Fr.refl _ _) | exact Or.inl rfl | (exact Or.inr (by simp <;> omega)) | (with_reducible refine Fr.setCell ?_ ?_ _) | (with_reducible refine Fr.drewN ?_ _) | (with_reducible refine Fr.drew ?_) | (with_reducible refine Fr.alloc ?_ _)))
    · (apply row_trans; focus (repeat (first | (with_reducible exact HROW1.out) | (with_reducible apply row_set) | (with_reducible apply row_drewN) | (with_reducible apply row_drew) | (with_reducible apply row_alloc) | (apply row_set_other (by first | omega | (simp <;> omega)))))); simp [cabCells]
end Go.Proofs.Ytekojekgjfefkaa
