/- The closure that books. -/
import Derived.Test.YtbibippdafnenaaWaW
namespace Go.Proofs.Ytbibippdafnenaa
open Go.RowKit Go.Maps
set_option maxRecDepth 100000

def Led.acc (L : Led) (e : Ent) : Led := if e.bytes = 0 then L else L.book e
abbrev bxL (p : Nat) : Obj := .cells #[.pointer (some ⟨p, 0, none⟩)] 24
abbrev bxI (n : Nat) : Obj := .cells #[.int .i64 (n : Int)] 3
section
variable {F Z : BS} {W w : World} {ts : List Th} {p b8 bt bc : Nat} {L : Led}
set_option maxHeartbeats 4000000 in
theorem acc_c (e : Ent) (he : e.bytes ≤ 1048576) (hc : e.bytes = 0 ∨ L.Can e) (h : Held F Z W (tLed p L :: tBlk b8 (bxL p) :: tBlk bt (bxI e.tick) :: tBlk bc (bxI e.conn) :: ts) w) :
    Calls Try.prog 8 #[.int .i64 (e.frm : Int), .int .i64 ((e.frm + 1 : Nat) : Int), .int .i64 (e.bytes : Int), .pointer (some ⟨b8, 0, none⟩), .pointer (some ⟨bt, 0, none⟩), .pointer (some ⟨bc, 0, none⟩)] w fun x w' => x = .returned (.bool true) ∧ Held F Z W (tLed p (L.acc e) :: tBlk b8 (bxL p) :: tBlk bt (bxI e.tick) :: tBlk bc (bxI e.conn) :: ts) w' := by
  have c8 := blk_cell (i := 0) (h.blk 1 rfl) rfl
  have ct := blk_cell (i := 0) (h.blk 2 rfl) rfl
  have cc := blk_cell (i := 0) (h.blk 3 rfl) rfl
  by_cases h0 : e.bytes = 0
  · have ea : L.acc e = L := if_pos h0
    rw [ea, h0]
    have H := Lib.hid h
    clear h hc he
    go_enter Try.func8, Try.ntmps8
    go_wp2_with fail
    go_ret
    exact ⟨by simp, H.out⟩
  · have ea : L.acc e = L.book e := if_neg h0
    have hc := hc.resolve_left h0
    rw [ea]
    have HB := Lib.hid (book_c h e hc)
    have hne : ((e.bytes : Int) == 0) = false := by simp; omega
    clear h hc
    obtain ⟨ti, co, k, n⟩ := e
    dsimp only at *
    go_enter Try.func8, Try.ntmps8
    go_wp2_with (go_at_call 9; refine HB.out.mono ?_; rintro e w' ⟨rfl, h'⟩; have H' := Lib.hid h'; clear h')
    go_ret
    exact ⟨by simp, H'.out⟩
end
end Go.Proofs.Ytbibippdafnenaa
