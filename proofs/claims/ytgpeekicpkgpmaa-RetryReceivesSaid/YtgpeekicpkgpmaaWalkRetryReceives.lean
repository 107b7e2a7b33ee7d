/- The walk of RetryReceives. -/
import Derived.Test.YtgpeekicpkgpmaaRetP
import Derived.Test.YtgpeekicpkgpmaaLab
namespace Go.Proofs.Ytgpeekicpkgpmaa
open Go.RowKit

/-- the receiver of the reference -/
def RefR (n : Nat) : Obj := .cells #[.int .i64 (n : Int)] 55 (0, 0)
set_option maxHeartbeats 1000000 in
theorem refreceive_any (p k : Nat) (n : Int) (w : World) (h : w.heap[p]? = some (RefR k)) (hk : k < 1000000000000) : Calls Try.prog 29 #[.pointer (some ⟨p, 0, none⟩), .int .i64 n] w fun e w' =>
    e = .returned (.bool (n == (k : Int) % 256)) ∧ w'.heap[p]? = some (RefR (if n == (k : Int) % 256 then k + 1 else k)) ∧ Fr (fun x => x = p) w w' := by
  have h' : w.heap[p]? = some (.cells #[.int .i64 (k : Int)] 55 (0, 0)) := h
  have c0 := blk_cell (i := 0) h' rfl
  have f0 := blk_free h' 0
  have H := Lib.hid h'
  clear h h'
  by_cases hn : n = (k : Int) % 256
  · subst hn
    simp only [beq_self_eq_true, if_true]
    go_enter Try.func29, Try.ntmps29
    go_wp2_with fail
    go_ret
    refine ⟨rfl, ?_, by (repeat (first | (with_reducible exact Fr.refl _ _) | exact Or.inl rfl | (with_reducible refine Fr.setCell ?_ ?_ _) | (with_reducible refine Fr.drewN ?_ _) | (with_reducible refine Fr.drew ?_)))⟩
    have := H.out
    show _ = some (Obj.cells #[.int .i64 ((k + 1 : Nat) : Int)] 55 (0, 0))
    (apply row_trans; focus (repeat (first | (with_reducible exact this) | (with_reducible apply row_set) | (with_reducible apply row_drewN) | (with_reducible apply row_drew)))); rfl
  · have hb : (n == (k : Int) % 256) = false := by simpa using hn
    rw [hb]
    simp only [Bool.false_eq_true, if_false]
    have HN := Lib.hid hn
    go_enter Try.func29, Try.ntmps29
    go_wp2_with fail
    go_ret
    exact ⟨rfl, H.out, Fr.refl _ _⟩

set_option maxHeartbeats 4000000 in
set_option maxRecDepth 100000 in
theorem receives_walk (W : World) (v : Value) (ops : List OpD) (h : Ops W v ops) :
    Calls Try.prog 7 #[v] W fun e w' => e = .returned (.bool true) ∧ Below W.heap.size W w' := by
  obtain ⟨a, cap, rfl, hm, hx⟩ := h.cases
  have HX := Lib.hid hx
  have HO := Lib.hid h
  clear h hx
  unfold maxLen at hm
  go_enter Try.func7, Try.ntmps7
  go_wp2_with fail
  refine (awake_any W).mono ?_
  rintro e y1 ⟨rfl, hb⟩
  have HB1 := Lib.hid hb; have HO1 := Lib.hid (HO.out.below hb); have hz1 := hb.size; clear hb
  go_wp2_with fail
  refine (great_any _ ops y1 HO1.out).mono ?_
  rintro e y2 ⟨rfl, hb⟩
  have HB2 := Lib.hid (HB1.out.trans (hb.mono hz1)); have hz2 := hb.size; clear hb HO1 HB1
  by_cases hg : greatB ops = true
  · go_wp2_with fail
    go_ret
    exact ⟨rfl, HB2.out⟩
  · have hg' : greatB ops = false := by simpa using hg
    have hlen : ops.length ≤ 400 := by
      simp only [greatB, Bool.or_eq_false_iff, decide_eq_false_iff_not] at hg'
      omega
    have HS := Lib.hid (show ∀ o ∈ ops, o.data.length ≤ 100 by
      simp only [greatB, Bool.or_eq_false_iff, List.any_eq_false, decide_eq_true_eq] at hg'
      exact fun o ho => by have := hg'.1 o ho; omega)
    clear hg
    go_wp2_with fail
    refine (newReceiver_ok y2).mono ?_
    rintro e y3 ⟨rfl, hr, hb⟩
    have HR3 := Lib.hid hr; have HB3 := Lib.hid (HB2.out.trans (hb.mono (Nat.le_trans hz1 hz2))); have hz3 := lt_of_block hr; clear hr hb HB2
    go_wp2_with fail
    go_loopw [18] (fun i wr => ∃ j n : Nat, j ≤ ops.length ∧ n ≤ j ∧ i = .int .i64 j ∧ Hid (RcvAt wr y2.heap.size n) ∧ Hid (wr.heap[y3.heap.size]? = some (RefR n)) ∧ Hid (Below W.heap.size W wr)) (fun i _ => ops.length - (intOf i).toNat)
    case atStart =>
      exact ⟨0, 0, by omega, by omega, rfl, Lib.hid ((below_alloc y3 _).block _ hz3 |>.trans HR3.out), Lib.hid (heap_alloc_new _ _), Lib.hid (HB3.out.trans ((below_alloc y3 _).mono (HB3.out.size)))⟩
    case round =>
      clear HR3 HB3
      obtain ⟨j, n, hj, hn, rfl, HR, HQ, HB⟩ := hrel
      have hz := HB.out.size
      have hzr := lt_of_block HR.out
      have hzq := lt_of_block HQ.out
      by_cases hlt : j < ops.length
      · obtain ⟨o, ho⟩ : ∃ o, ops[j]? = some o := ⟨ops[j], List.getElem?_eq_getElem hlt⟩
        obtain ⟨b, off, u, rfl, c0, c1, c2, hu, hwk, hwn⟩ := HX.out j o ho
        have k0 := cell_later HB.out c0; have k1 := cell_later HB.out c1; have k2 := cell_later HB.out c2
        have HU := Lib.hid hu
        obtain ⟨ua, ucap, rfl⟩ := hu.slice
        have hsm := HS.out o (List.mem_of_getElem? ho)
        clear c0 c1 c2 hu ho
        have hrb : (if greatB ops = true then 0 else 1) = 1 := by simp [hg']
        clear hrb
        by_cases hyes : o.kind = 0 ∨ o.n = (n : Int) % 256
        · rcases (show o.kind = 0 ∨ (¬ o.kind = 0 ∧ o.n = (n : Int) % 256) by omega) with hk | ⟨hk, hN⟩
          case' inl =>
            go_wp2_with fail
            refine (expected_any y2.heap.size n _ (show RcvAt (wr.alloc _) _ _ from ((below_alloc wr _).block _ hzr).trans HR.out)).mono ?_
            rintro e y4 ⟨rfl, rfl⟩
          all_goals
            go_wp2_with fail
            refine (receive_yes' y2.heap.size n _ o.data _ (show RcvAt (wr.alloc _) _ _ from ((below_alloc wr _).block _ hzr).trans HR.out) (by omega) (Rd.keep HU.out fun x _ hl => (heap_setCell_other _ _ x _ (show x ≠ y2.heap.size by omega)).trans ((Below.heap_alloc wr _ x (by omega)).trans (HB.out.block x hl))) (by omega)).mono ?_
            rintro e y5 ⟨v5, rfl, ho, hr, hf⟩
            have HB5 := Lib.hid (HB.out.trans (((below_alloc wr _).mono hz).trans (hf.below (B := W.heap.size) (by simp; omega) fun k hk => by omega)))
            have HR5 := Lib.hid hr; have HV5 := Lib.hid (show By y5 v5 o.data from ho.by)
            have HQ5 := Lib.hid (((hf.block y3.heap.size (by simp; omega) (by omega)).trans (Below.heap_alloc wr _ _ hzq)).trans HQ.out)
            have HO5 := Lib.hid ((hf.block wr.heap.size (by simp) (by omega)).trans (heap_alloc_new wr _))
            have HN5 := Lib.hid (show ∀ x, v5.ownBlock = some x → wr.heap.size < x from fun x hx => by have := (ho.byD.2 x hx).1; simp at this; omega)
            obtain ⟨w5a, w5c, rfl⟩ := HV5.out.slice
            clear ho hr hf
            go_wp2_with fail
            refine (refreceive_any y3.heap.size n _ y5 HQ5.out (by omega)).mono ?_
            rw [beq_self_eq_true, if_pos rfl]
            rintro e y6 ⟨rfl, hq, hf⟩
            have HB6 := Lib.hid (HB5.out.trans (hf.below (B := W.heap.size) (by have := HB5.out.size; omega) fun k hk => by omega))
            have HR6 := Lib.hid (show RcvAt y6 _ _ from (hf.block y2.heap.size (lt_of_block HR5.out) (by omega)).trans HR5.out)
            have HQ6 := Lib.hid hq
            have HO6 := (hf.block wr.heap.size (lt_of_block HO5.out) (by omega)).trans HO5.out
            have HV6 := Lib.hid (Rd.keep HV5.out fun x hx hl => hf.block x hl (by have := HN5.out x hx; omega))
            have d2 := blk_cell (i := 2) HO6 rfl
            have q0 := blk_cell (i := 0) HQ6.out rfl
            have l6 := lt_of_block HO6
            have hst := fun m => run_str8 Try.underlying28 Try.underlying5 Try.underlying9 (By.drewN HV6.out m)
            have hst2 := fun m => run_str8 Try.underlying28 Try.underlying5 Try.underlying9 (By.drewN (By.below HU.out HB6.out) m)
            clear hq hf HO6
            go_wp2_with fail
            go_quiet ((first | (go_at_call 27; exact Calls.qs (expected_any y2.heap.size (n + 1) _ HR6.out)) | (go_at_call 30; exact Calls.qs (rtotal_any y2.heap.size (n + 1) _ HR6.out))))
            go_wp2_with fail
            go_roundw
            case rel => exact ⟨j + 1, n + 1, by omega, by omega, by go_num, HR6, HQ6, Lib.hid (HB6.out.trans ((below_drew y6 _).mono HB6.out.size))⟩
            case measure => simp [intOf]; omega
        · have hk : ¬ o.kind = 0 := fun e => hyes (.inl e)
          have hN : ¬ o.n = (n : Int) % 256 := fun e => hyes (.inr e)
          have hN' : (o.n == (n : Int) % 256) = false := by simpa using hN
          have HN := Lib.hid hN
          clear hyes hN
          go_wp2_with fail
          refine (receive_no y2.heap.size n _ _ o.data _ (show RcvAt (wr.alloc _) _ _ from ((below_alloc wr _).block _ hzr).trans HR.out) ((HU.out.below HB.out).alloc _) HN.out).mono ?_
          rintro e y5 ⟨rfl, rfl⟩
          go_wp2_with fail
          refine (refreceive_any y3.heap.size n o.n _ ((Below.heap_alloc wr _ _ hzq).trans HQ.out) (by omega)).mono ?_
          rw [hN', if_neg (by simp)]
          rintro e y6 ⟨rfl, hq, hf⟩
          have HB6 := Lib.hid ((HB.out.trans ((below_alloc wr _).mono hz)).trans (hf.below (B := W.heap.size) (by simp; omega) fun k hk => by omega))
          have HR6 := Lib.hid (show RcvAt y6 _ _ from (hf.block y2.heap.size (by simp; omega) (by omega)).trans ((Below.heap_alloc wr _ _ hzr).trans HR.out))
          have HQ6 := Lib.hid hq
          have q0 := blk_cell (i := 0) HQ6.out rfl
          clear hq hf
          go_wp2_with fail
          go_quiet ((first | (go_at_call 27; exact Calls.qs (expected_any y2.heap.size n _ HR6.out)) | (go_at_call 30; exact Calls.qs (rtotal_any y2.heap.size n _ HR6.out))))
          go_wp2_with fail
          go_roundw
          case rel => exact ⟨j + 1, n, by omega, by omega, by go_num, HR6, HQ6, Lib.hid (HB6.out.trans ((below_drew y6 _).mono HB6.out.size))⟩
          case measure => simp [intOf]; omega
      · obtain rfl : j = ops.length := by omega
        go_wp2_with fail
        go_ret
        exact ⟨rfl, HB.out⟩
theorem walkRetryReceives (W : World) (v : Value) (o : IsSl rOp W v) :
    Calls Try.prog 7 #[v] W fun e w' => e = .returned (.bool true) ∧ Below W.heap.size W w' := by
  obtain ⟨ops, h⟩ := o
  exact receives_walk W _ ops h
end Go.Proofs.Ytgpeekicpkgpmaa
