/- A port in memory: handle. -/
import Derived.Test.YtcocnfbhileheaaPorY
namespace Go.Proofs.Ytcocnfbhileheaa
open Go.RowKit

section
variable {F Z : BS} {W w : World} {ts : List Th} {p N : Nat} {a : Prt}
set_option maxRecDepth 100000 in
set_option maxHeartbeats 16000000 in
theorem handle_c (x : Pt) (pv : Value) (hok : a.Ok N) (hN : N ≤ 1000000000) (h : Held F Z W (tPort p a :: ts) w) (j : Nat) (hj : ts[j]? = some (tBy pv x.pay)) (hpl : x.pay.length ≤ 1000) :
    Calls Try.prog 45 #[.pointer (some ⟨p, 0, none⟩), ptV x pv] w fun e w' => e = .returned (.tuple #[]) ∧ Held F Z W (tPort p (a.handle x) :: ts) w' := by
  have hmf : ∀ (fn : Fn) (first cap : Array Value) (w : World), (Instr.makeFunc fn first cap).run Try.prog w = .ok (.func fn first cap) w := fun _ _ _ _ => rfl
  have h1 := (h.new (ptCells x pv))
  obtain ⟨_, _, hby⟩ := h.get (j + 1) (T := tBy pv x.pay) (by simpa using hj)
  obtain ⟨pa, pc, rfl⟩ := ByZ.slice hby
  have H1 := Lib.hid (show Held F Z W (tPort p a :: (ts ++ [tBlk w.heap.size (ptCells x (.slice pa x.pay.length pc))])) (w.alloc (ptCells x (.slice pa x.pay.length pc))) from h1)
  obtain ⟨_, _, y, hst⟩ := h1.get 0 rfl
  have hrow := (hst.get (i := 0) rfl).1
  have c5 := (port_cells hrow).2.2.2.2.2.1
  have HSD := Lib.hid (hst.get (i := 2) rfl).2
  obtain ⟨k0, k1, k2, k3, k4⟩ := pt_cells (heap_alloc_new w (ptCells x (.slice pa x.pay.length pc)))
  have hj' : (ts ++ [tBlk w.heap.size (ptCells x (.slice pa x.pay.length pc))])[j]? = some (tBy (.slice pa x.pay.length pc) x.pay) := by rw [List.getElem?_append_left (lt_of_get hj), hj]
  have HJ := Lib.hid hj'
  have HOK := Lib.hid hok
  obtain ⟨rv, sp, ap, wv, bv, snp, rcp, tkp, gvp, bsv, kv, acv, rev, tav⟩ := y
  dsimp only at c5 HSD
  clear hst h1 hrow h hok hby hj hj'
  have HDROP := Lib.hid (fun (a' : Prt) (w' : World) (h : Held F Z W (tPort p a' :: (ts ++ [tBlk w.heap.size (ptCells x (.slice pa x.pay.length pc))])) w') => show Held F Z W (tPort p a' :: ts) w' from Held.dropLast (us := [tPort p a']) h)
  go_enter Try.func45, Try.ntmps45
  go_wp2_with fail
  generalize w.alloc (ptCells x (.slice pa x.pay.length pc)) = w1 at *
  by_cases hk1 : x.kind = 1#8
  · have b1 : ((U x.kind : Int) != 1) = false := by rw [hk1]; rfl
    have b2 : ((U x.kind : Int) == 1) = true := by rw [hk1]; rfl
    have HG := Lib.hid (show a.handle x = a.greet x by unfold Prt.handle; rw [if_pos hk1])
    clear hk1
    go_quiet (fail)
    go_wp2_with fail
    refine (greet_c x pa x.pay.length pc HOK.out hN (H1.out.drewN nq)).mono ?_
    rintro e w' ⟨rfl, hh⟩
    have HH := Lib.hid hh
    clear hh
    go_wp2_with fail
    go_end0
    refine ⟨rfl, ?_⟩
    rw [HG.out]
    exact HDROP.out _ _ HH.out
  · have b1 : ((U x.kind : Int) != 1) = true := by
      rw [bne_iff_ne]; intro e; exact hk1 (U_inj.1 (e.trans (by rfl : (1 : Int) = U (1#8))))
    have b2 : ((U x.kind : Int) == 1) = false := by rw [beq_eq_false_iff_ne]; rw [bne_iff_ne] at b1; exact b1
    by_cases hup : a.side.state = 2
    · have b3 : ((a.side.state : Int) == 2) = true := by rw [hup]; rfl
      by_cases hac : a.side.peer ≠ 0 ∧ (a.side.peer : Int) = x.value
      · have HAC := Lib.hid (show decide (a.side.peer ≠ 0 ∧ (a.side.peer : Int) = x.value) = true from decide_eq_true hac)
        have HC := Lib.hid (show a.side.state = 2 ∧ a.side.peer ≠ 0 ∧ (a.side.peer : Int) = x.value from ⟨hup, hac⟩)
        have HK1 := Lib.hid hk1
        clear hup hac hk1
        go_quiet (first | ((go_at_call 47; exact Calls.quiet_of_same ((state_any sp a.side _ (by exact HSD.out)).mono fun e w' h => ⟨show e = .returned (.int .i64 (a.side.state : Int)) from h.1, h.2.symm⟩))) | ((go_at_call 72; exact Calls.quiet_of_same ((accepts_any sp a.side _ x.value (by exact HSD.out)).mono fun e w' h => ⟨show e = .returned (.bool true) from by rw [h.1, HAC.out], h.2.symm⟩))))
        go_upto_region 6 with fail
        by_cases hk2 : x.kind = 2#8
        · have b4 : ((U x.kind : Int) == 2) = true := by rw [hk2]; rfl
          have HG := Lib.hid (show a.handle x = a.receive x by unfold Prt.handle; rw [if_neg HK1.out, if_neg (fun h => h HC.out), if_pos hk2])
          clear hk2
          go_wp2_with fail
          refine (receive_c x (.slice pa x.pay.length pc) HOK.out hN (H1.out.drewN nq) j HJ.out hpl).mono ?_
          rintro e w' ⟨rfl, hh⟩
          have HH := Lib.hid hh
          clear hh
          go_wp2_with fail
          go_end0
          refine ⟨rfl, ?_⟩
          rw [HG.out]
          exact HDROP.out _ _ HH.out
        · have b4 : ((U x.kind : Int) == 2) = false := by rw [beq_eq_false_iff_ne]; intro e; exact hk2 (U_inj.1 (e.trans (by rfl : (2 : Int) = U (2#8))))
          by_cases hk3 : x.kind = 3#8
          · have b5 : ((U x.kind : Int) == 3) = true := by rw [hk3]; rfl
            have HG := Lib.hid (show a.handle x = a.acknowledge x by unfold Prt.handle; rw [if_neg HK1.out, if_neg (fun h => h HC.out), if_neg hk2, if_pos hk3])
            clear hk2 hk3
            go_wp2_with fail
            refine (acknowledge_c x pa x.pay.length pc HOK.out hN (H1.out.drewN nq)).mono ?_
            rintro e w' ⟨rfl, hh⟩
            have HH := Lib.hid hh
            clear hh
            go_wp2_with fail
            go_end0
            refine ⟨rfl, ?_⟩
            rw [HG.out]
            exact HDROP.out _ _ HH.out
          · have b5 : ((U x.kind : Int) == 3) = false := by rw [beq_eq_false_iff_ne]; intro e; exact hk3 (U_inj.1 (e.trans (by rfl : (3 : Int) = U (3#8))))
            by_cases hk4 : x.kind = 4#8
            · have b6 : ((U x.kind : Int) == 4) = true := by rw [hk4]; rfl
              have HG := Lib.hid (show a.handle x = a.raise x by unfold Prt.handle; rw [if_neg HK1.out, if_neg (fun h => h HC.out), if_neg hk2, if_neg hk3, if_pos hk4])
              clear hk2 hk3 hk4
              go_wp2_with fail
              refine (raise_c x pa x.pay.length pc HOK.out (H1.out.drewN nq)).mono ?_
              rintro e w' ⟨rfl, hh⟩
              have HH := Lib.hid hh
              clear hh
              go_wp2_with fail
              go_end0
              refine ⟨rfl, ?_⟩
              rw [HG.out]
              exact HDROP.out _ _ HH.out
            · have b6 : ((U x.kind : Int) == 4) = false := by rw [beq_eq_false_iff_ne]; intro e; exact hk4 (U_inj.1 (e.trans (by rfl : (4 : Int) = U (4#8))))
              have HG := Lib.hid (show a.handle x = a by unfold Prt.handle; rw [if_neg HK1.out, if_neg (fun h => h HC.out), if_neg hk2, if_neg hk3, if_neg hk4])
              clear hk2 hk3 hk4
              go_wp2_with fail
              refine bodyPost_ret (v := .tuple #[]) (by simp [results, Try.results45, go_sem]) rfl ?_
              refine ⟨rfl, ?_⟩
              rw [HG.out]
              exact HDROP.out _ _ (H1.out.drewN _)
      · have HAC := Lib.hid (show decide (a.side.peer ≠ 0 ∧ (a.side.peer : Int) = x.value) = false from decide_eq_false hac)
        have HG := Lib.hid (show a.handle x = a by unfold Prt.handle; rw [if_neg hk1, if_pos (fun h => hac h.2)])
        clear hup hac hk1
        go_quiet (first | ((go_at_call 47; exact Calls.quiet_of_same ((state_any sp a.side _ (by exact HSD.out)).mono fun e w' h => ⟨show e = .returned (.int .i64 (a.side.state : Int)) from h.1, h.2.symm⟩))) | ((go_at_call 72; exact Calls.quiet_of_same ((accepts_any sp a.side _ x.value (by exact HSD.out)).mono fun e w' h => ⟨show e = .returned (.bool false) from by rw [h.1, HAC.out], h.2.symm⟩))))
        go_wp2_with fail
        refine bodyPost_ret (v := .tuple #[]) (by simp [results, Try.results45, go_sem]) rfl ?_
        refine ⟨rfl, ?_⟩
        rw [HG.out]
        exact HDROP.out _ _ (H1.out.drewN _)
    · have b3 : ((a.side.state : Int) == 2) = false := by rw [beq_eq_false_iff_ne]; omega
      have HG := Lib.hid (show a.handle x = a by unfold Prt.handle; rw [if_neg hk1, if_pos (fun h => hup h.1)])
      clear hup hk1
      go_quiet ((go_at_call 47; exact Calls.quiet_of_same ((state_any sp a.side _ (by exact HSD.out)).mono fun e w' h => ⟨show e = .returned (.int .i64 (a.side.state : Int)) from h.1, h.2.symm⟩)))
      go_wp2_with fail
      refine bodyPost_ret (v := .tuple #[]) (by simp [results, Try.results45, go_sem]) rfl ?_
      refine ⟨rfl, ?_⟩
      rw [HG.out]
      exact HDROP.out _ _ (H1.out.drewN _)
end
end Go.Proofs.Ytcocnfbhileheaa
