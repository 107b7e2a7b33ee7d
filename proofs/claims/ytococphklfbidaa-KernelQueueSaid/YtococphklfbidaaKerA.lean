/- Events in memory; the comparison of two events. -/
import Derived.Test.YtococphklfbidaaKerP
import Derived.Test.YtococphklfbidaaRdE
import Derived.Test.YtococphklfbidaaBlk
import Derived.Test.YtococphklfbidaaRw
import Derived.Test.YtococphklfbidaaRows
import Derived.Deep.QuietTactic
import Derived.BigQuiet
import Derived.StillTailTactics
namespace Go.Proofs.Ytococphklfbidaa
open Go.RowKit

/-- an event in five cells -/
def eEv : El Ev where
  size := 5
  rd _ _ _ cs e := cs = [.int .i64 e.at', .int .i64 e.kind, .int .i64 e.node, .int .i64 e.number, .int .i64 e.arg]
  len h := by rw [h]; rfl
  keep h _ _ := h
  mono h _ _ := h
  one h u hu := by
    rw [h] at hu
    simp at hu
    rcases hu with rfl | rfl | rfl | rfl | rfl <;> rfl
theorem isNaN_any (a : Int) (w : World) : Calls Try.prog 36 #[.int .i64 a] w fun e w' => e = .returned (.bool false) ∧ w = w' := by
  go_enter Try.func36, Try.ntmps36
  go_wp2
  go_ret
  exact ⟨rfl, rfl⟩
def cmpI (a b : Int) : Int := if a < b then -1 else if b < a then 1 else 0
theorem cmpI_any (a b : Int) (w : World) : Calls Try.prog 33 #[.int .i64 a, .int .i64 b] w fun e w' => e = .returned (.int .i64 (cmpI a b)) ∧ w' = w := by
  have hc : (a < b ∧ cmpI a b = -1) ∨ (b < a ∧ cmpI a b = 1) ∨ (a = b ∧ cmpI a b = 0) := by unfold cmpI; split <;> (try split) <;> simp <;> omega
  generalize cmpI a b = z at *
  rcases hc with ⟨h, rfl⟩ | ⟨h, rfl⟩ | ⟨rfl, rfl⟩
  all_goals
    go_enter Try.func33, Try.ntmps33
    go_wp2_with (go_at_call 36; refine (isNaN_any _ _).mono ?_; rintro e w' ⟨rfl, rfl⟩)
    go_ret
    exact ⟨rfl, rfl⟩
/-- the first of some numbers that is not 0 -/
def orL : List Int → Int
  | [] => 0
  | c :: l => if c = 0 then orL l else c
theorem orL_drop {l : List Int} {k : Nat} {c : Int} (hk : l[k]? = some c) : orL (l.drop k) = if c = 0 then orL (l.drop (k + 1)) else c := by
  have hl := lt_of_get hk
  rw [List.drop_eq_getElem_cons hl]
  rw [List.getElem?_eq_getElem hl] at hk
  rw [Option.some.inj hk]; rfl
theorem or_any (a : Addr) (cs : List Int) (c : Nat) (w : World) (hl : cs.length ≤ 1000) (h : Rd w 1 (.slice (some a) cs.length c) cs.length (cs.map (Value.int .i64))) :
    Calls Try.prog 32 #[.slice (some a) cs.length c] w fun e w' => e = .returned (.int .i64 (orL cs)) ∧ w' = w := by
  have H := Lib.hid h; clear h
  go_enter Try.func32, Try.ntmps32
  go_wp2
  go_loop [8] (fun i => ∃ k : Nat, k ≤ cs.length ∧ i = .int .i64 k ∧ Hid (orL (cs.drop k) = orL cs)) (fun i => cs.length - (intOf i).toNat)
  case atStart => exact ⟨0, by omega, rfl, Lib.hid rfl⟩
  case round =>
    obtain ⟨k, hk, rfl, HO⟩ := hrel
    by_cases hlt : k < cs.length
    · obtain ⟨x, hx⟩ : ∃ x, cs[k]? = some x := ⟨cs[k], List.getElem?_eq_getElem hlt⟩
      obtain ⟨_, a', c', e, _, _, _, h4⟩ := H.out
      obtain ⟨rfl, rfl⟩ : some a = a' ∧ c = c' := by simpa using e
      obtain ⟨b, off, spot⟩ := a
      obtain ⟨hs, hc⟩ := h4 ⟨b, off, spot⟩ rfl k (.int .i64 x) (by rw [List.getElem?_map, hx]; rfl)
      obtain rfl : spot = none := hs
      have hd := orL_drop hx
      have HD := Lib.hid hd
      clear hd e h4 hx
      by_cases h0 : x = 0
      · have HN := HD.out
        rw [if_pos h0, HO.out] at HN
        have HN' := Lib.hid HN.symm
        clear HN HD
        subst h0
        go_wp2
        go_round
        case rel => exact ⟨k + 1, by omega, by go_num, HN'⟩
        case measure => simp [intOf]; omega
      · have HN := HD.out
        rw [if_neg h0, HO.out] at HN
        have HN' := Lib.hid HN.symm
        clear HN HD
        have hne : (x != 0) = true := by simpa using h0
        go_wp2
        go_ret
        exact ⟨by rw [← HN'.out]; rfl, rfl⟩
    · obtain rfl : k = cs.length := by omega
      go_wp2
      go_ret
      exact ⟨by rw [← HO.out, List.drop_length]; rfl, rfl⟩
theorem cmpI_cases (a b : Int) : (a < b ∧ cmpI a b = -1) ∨ (b < a ∧ cmpI a b = 1) ∨ (a = b ∧ cmpI a b = 0) := by unfold cmpI; split <;> (try split) <;> simp <;> omega
theorem cmpE_cases (a b : Ev) : (Lt a b ∧ cmpE a b = -1) ∨ (¬ Lt a b ∧ Lt b a ∧ cmpE a b = 1) ∨ (¬ Lt a b ∧ ¬ Lt b a ∧ cmpE a b = 0) := by
  unfold cmpE
  by_cases h : Lt a b
  · rw [if_pos h]; exact .inl ⟨h, rfl⟩
  · rw [if_neg h]
    by_cases k : Lt b a
    · rw [if_pos k]; exact .inr (.inl ⟨h, k, rfl⟩)
    · rw [if_neg k]; exact .inr (.inr ⟨h, k, rfl⟩)
theorem cmpE_or (a b : Ev) : orL [cmpI a.at' b.at', cmpI a.kind b.kind, cmpI a.node b.node, cmpI a.number b.number] = cmpE a b := by
  have h1 := cmpI_cases a.at' b.at'
  have h2 := cmpI_cases a.kind b.kind
  have h3 := cmpI_cases a.node b.node
  have h4 := cmpI_cases a.number b.number
  have h5 := cmpE_cases a b
  unfold Lt at h5
  generalize cmpI a.at' b.at' = z1 at *
  generalize cmpI a.kind b.kind = z2 at *
  generalize cmpI a.node b.node = z3 at *
  generalize cmpI a.number b.number = z4 at *
  generalize cmpE a b = z at *
  rcases h1 with ⟨h1, rfl⟩ | ⟨h1, rfl⟩ | ⟨h1, rfl⟩
  · show -1 = z; omega
  · show 1 = z; omega
  · rcases h2 with ⟨h2, rfl⟩ | ⟨h2, rfl⟩ | ⟨h2, rfl⟩
    · show -1 = z; omega
    · show 1 = z; omega
    · rcases h3 with ⟨h3, rfl⟩ | ⟨h3, rfl⟩ | ⟨h3, rfl⟩
      · show -1 = z; omega
      · show 1 = z; omega
      · rcases h4 with ⟨h4, rfl⟩ | ⟨h4, rfl⟩ | ⟨h4, rfl⟩
        · show -1 = z; omega
        · show 1 = z; omega
        · show 0 = z; omega
theorem rd_new (w : World) (us : List Value) (T : TypeId) (hm : us.length ≤ maxLen) : Rd (w.alloc (.cells us.toArray T)) 1 (.slice (some ⟨w.heap.size, 0, none⟩) us.length us.length) us.length us := by
  refine ⟨by simp, _, _, rfl, Nat.le_refl _, hm, (fun e => by cases e), fun b hb j u hj => ?_⟩
  obtain rfl := Option.some.inj hb
  refine ⟨rfl, ?_⟩
  have h0 : (w.alloc (.cells us.toArray T)).heap[w.heap.size]? = some (.cells us.toArray T) := heap_alloc_new w _
  simp only [World.cell?, h0, Nat.zero_add]
  simpa using hj
set_option maxHeartbeats 4000000 in
theorem compareE_any (a b : Ev) (w : World) : Calls Try.prog 28 #[.agg #[.int .i64 a.at', .int .i64 a.kind, .int .i64 a.node, .int .i64 a.number, .int .i64 a.arg], .agg #[.int .i64 b.at', .int .i64 b.kind, .int .i64 b.node, .int .i64 b.number, .int .i64 b.arg]] w fun e w' => e = .returned (.int .i64 (cmpE a b)) ∧ Below w.heap.size w w' := by
  go_enter Try.func28, Try.ntmps28
  go_wp2_with fail
  refine wp_region_still_tail 20 (by kernel_rfl) (by kernel_rfl) ?_
  simp only [List.take_succ_cons, List.take_zero, List.drop_succ_cons, List.drop_zero]
  change wpStill _ _ (World.drew _) (fun a' => wpList _ _ _ _ a' (World.drew _)) _ _
  have ra : ((w.alloc (.cells #[.int .i64 a.at', .int .i64 a.kind, .int .i64 a.node, .int .i64 a.number, .int .i64 a.arg] 32)).alloc (.cells #[.int .i64 b.at', .int .i64 b.kind, .int .i64 b.node, .int .i64 b.number, .int .i64 b.arg] 32)).drew.heap[w.heap.size]? = some (.cells #[.int .i64 a.at', .int .i64 a.kind, .int .i64 a.node, .int .i64 a.number, .int .i64 a.arg] 32) := (Below.heap_alloc _ _ _ (by simp)).trans (heap_alloc_new w _)
  have rb : ((w.alloc (.cells #[.int .i64 a.at', .int .i64 a.kind, .int .i64 a.node, .int .i64 a.number, .int .i64 a.arg] 32)).alloc (.cells #[.int .i64 b.at', .int .i64 b.kind, .int .i64 b.node, .int .i64 b.number, .int .i64 b.arg] 32)).drew.heap[w.heap.size + 1]? = some (.cells #[.int .i64 b.at', .int .i64 b.kind, .int .i64 b.node, .int .i64 b.number, .int .i64 b.arg] 32) := by
    have := heap_alloc_new (w.alloc (.cells #[.int .i64 a.at', .int .i64 a.kind, .int .i64 a.node, .int .i64 a.number, .int .i64 a.arg] 32)) (.cells #[.int .i64 b.at', .int .i64 b.kind, .int .i64 b.node, .int .i64 b.number, .int .i64 b.arg] 32)
    rw [World.size_alloc] at this
    exact this
  have hb : Below w.heap.size w ((w.alloc (.cells #[.int .i64 a.at', .int .i64 a.kind, .int .i64 a.node, .int .i64 a.number, .int .i64 a.arg] 32)).alloc (.cells #[.int .i64 b.at', .int .i64 b.kind, .int .i64 b.node, .int .i64 b.number, .int .i64 b.arg] 32)).drew := by (repeat (first | (with_reducible exact Below.refl _ _) | (with_reducible refine Bw.alloc ?_ _) | (with_reducible refine Bw.drewN ?_ _) | (with_reducible refine Bw.drew ?_)))
  have hz : w.heap.size ≤ ((w.alloc (.cells #[.int .i64 a.at', .int .i64 a.kind, .int .i64 a.node, .int .i64 a.number, .int .i64 a.arg] 32)).alloc (.cells #[.int .i64 b.at', .int .i64 b.kind, .int .i64 b.node, .int .i64 b.number, .int .i64 b.arg] 32)).drew.heap.size := by simp <;> omega
  generalize ((w.alloc (.cells #[.int .i64 a.at', .int .i64 a.kind, .int .i64 a.node, .int .i64 a.number, .int .i64 a.arg] 32)).alloc (.cells #[.int .i64 b.at', .int .i64 b.kind, .int .i64 b.node, .int .i64 b.number, .int .i64 b.arg] 32)).drew = w2 at *
  have a0 := blk_cell (i := 0) ra rfl; have a1 := blk_cell (i := 1) ra rfl; have a2 := blk_cell (i := 2) ra rfl; have a3 := blk_cell (i := 3) ra rfl
  have b0 := blk_cell (i := 0) rb rfl; have b1 := blk_cell (i := 1) rb rfl; have b2 := blk_cell (i := 2) rb rfl; have b3 := blk_cell (i := 3) rb rfl
  have HB := Lib.hid hb
  clear ra rb hb
  repeat (first | still_step | still_call (cmpI_any _ _ _))
  refine wpStill_nil ?_
  have hrd := rd_new w2 [.int .i64 (cmpI a.at' b.at'), .int .i64 (cmpI a.kind b.kind), .int .i64 (cmpI a.node b.node), .int .i64 (cmpI a.number b.number)] 3 (by unfold maxLen; simp)
  have HRD := Lib.hid hrd
  clear hrd a0 a1 a2 a3 b0 b1 b2 b3
  go_wp2_with (go_at_call 32; refine (or_any _ [cmpI a.at' b.at', cmpI a.kind b.kind, cmpI a.node b.node, cmpI a.number b.number] _ _ (by simp) HRD.out).mono ?_; rintro e w' ⟨rfl, rfl⟩)
  go_ret
  exact ⟨by rw [cmpE_or]; rfl, HB.out.trans ((below_alloc w2 _).mono hz)⟩
end Go.Proofs.Ytococphklfbidaa
