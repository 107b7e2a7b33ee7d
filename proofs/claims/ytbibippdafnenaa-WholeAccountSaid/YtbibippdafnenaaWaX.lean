/- A ledger's Balance, Entries; Audit. -/
import Derived.Test.YtbibippdafnenaaWaW
namespace Go.Proofs.Ytbibippdafnenaa
open Go.RowKit Go.Maps
set_option maxRecDepth 100000

section
variable {F Z : BS} {W w : World} {ts : List Th} {p : Nat} {L : Led}
theorem balance_c (h : Held F Z W (tLed p L :: ts) w) (c k : Nat) (hc : c < 1000) (hk : k < 5) (kk : Int) (hkk : kk = (k : Int)) :
    Calls Try.prog 18 #[.pointer (some ⟨p, 0, none⟩), .int .i64 (c : Int), .int .i64 kk] w fun e w' => e = .returned (.int .i64 ((L.bal c).get k)) ∧ w = w' := by
  obtain ⟨⟨ev, mb⟩, h1⟩ := Held.opens h
  obtain ⟨c0, c1⟩ := led_cells (h1.blk 0 rfl)
  have q := h1.mapLook1 2 rfl Try.underlying72 (zv := .agg #[.int .i64 0, .int .i64 0, .int .i64 0, .int .i64 0, .int .i64 0]) (z0 := Bal.zero) (zBal w) rfl trivial (k := (c : Int)) (by simp [Lit.wf, IntKind.min, IntKind.max, IntKind.signed, IntKind.bits]; omega)
  obtain ⟨B, hB⟩ : ∃ B, B = L.bal c := ⟨_, rfl⟩
  have q' : (Instr.lookup 72 (.map (some mb)) (.int .i64 (c : Int)) false).run Try.prog w = .ok (.agg #[.int .i64 B.s, .int .i64 B.t, .int .i64 B.f, .int .i64 B.d, .int .i64 B.g]) w := by rw [hB]; exact q
  rw [← hB]
  clear h h1 q hB
  subst hkk
  have : k = 0 ∨ k = 1 ∨ k = 2 ∨ k = 3 ∨ k = 4 := by omega
  rcases this with rfl | rfl | rfl | rfl | rfl
  · show Calls Try.prog 18 #[.pointer (some ⟨p, 0, none⟩), .int .i64 (c : Int), .int .i64 0] w _
    have hix : ∀ w : World, (Instr.index 84 (.agg #[.int .i64 B.s, .int .i64 B.t, .int .i64 B.f, .int .i64 B.d, .int .i64 B.g]) (.int .i64 0)).run Try.prog w = .ok (.int .i64 B.s) w := fun w => by kernel_rfl
    go_enter Try.func18, Try.ntmps18
    go_wp2_with fail
    go_ret
    exact ⟨rfl, rfl⟩
  · show Calls Try.prog 18 #[.pointer (some ⟨p, 0, none⟩), .int .i64 (c : Int), .int .i64 1] w _
    have hix : ∀ w : World, (Instr.index 84 (.agg #[.int .i64 B.s, .int .i64 B.t, .int .i64 B.f, .int .i64 B.d, .int .i64 B.g]) (.int .i64 1)).run Try.prog w = .ok (.int .i64 B.t) w := fun w => by kernel_rfl
    go_enter Try.func18, Try.ntmps18
    go_wp2_with fail
    go_ret
    exact ⟨rfl, rfl⟩
  · show Calls Try.prog 18 #[.pointer (some ⟨p, 0, none⟩), .int .i64 (c : Int), .int .i64 2] w _
    have hix : ∀ w : World, (Instr.index 84 (.agg #[.int .i64 B.s, .int .i64 B.t, .int .i64 B.f, .int .i64 B.d, .int .i64 B.g]) (.int .i64 2)).run Try.prog w = .ok (.int .i64 B.f) w := fun w => by kernel_rfl
    go_enter Try.func18, Try.ntmps18
    go_wp2_with fail
    go_ret
    exact ⟨rfl, rfl⟩
  · show Calls Try.prog 18 #[.pointer (some ⟨p, 0, none⟩), .int .i64 (c : Int), .int .i64 3] w _
    have hix : ∀ w : World, (Instr.index 84 (.agg #[.int .i64 B.s, .int .i64 B.t, .int .i64 B.f, .int .i64 B.d, .int .i64 B.g]) (.int .i64 3)).run Try.prog w = .ok (.int .i64 B.d) w := fun w => by kernel_rfl
    go_enter Try.func18, Try.ntmps18
    go_wp2_with fail
    go_ret
    exact ⟨rfl, rfl⟩
  · show Calls Try.prog 18 #[.pointer (some ⟨p, 0, none⟩), .int .i64 (c : Int), .int .i64 4] w _
    have hix : ∀ w : World, (Instr.index 84 (.agg #[.int .i64 B.s, .int .i64 B.t, .int .i64 B.f, .int .i64 B.d, .int .i64 B.g]) (.int .i64 4)).run Try.prog w = .ok (.int .i64 B.g) w := fun w => by kernel_rfl
    go_enter Try.func18, Try.ntmps18
    go_wp2_with fail
    go_ret
    exact ⟨rfl, rfl⟩
theorem els_ent {w w' : World} {Z Y : BS} : ∀ {D : BS} {us : List Value} {xs : List Ent}, Els eEnt w D Z us xs → Els eEnt w' (fun _ => False) Y us xs
  | _, _, [], h => h
  | _, _, _ :: _, ⟨cs, rest, _, _, e, _, _, _, h1, h2⟩ => ⟨cs, rest, fun _ => False, fun _ => False, e, fun _ f => f, fun _ f => f, fun _ f => f.elim, h1, els_ent h2⟩
theorem sl_made0 {T : TypeId} {s : Nat} (w : World) (K : BS) (hK : K w.heap.size) : Sl (w.alloc (.cells #[] T)) K T s (.slice (some ⟨w.heap.size, 0, none⟩) 0 0) 0 [] :=
  ⟨by simp, .inr ⟨w.heap.size, 0, 0, #[], rfl, hK, heap_alloc_new _ _, Nat.le_refl _, Nat.zero_le _, by simp, by simp⟩⟩
theorem cloneE_c {a : Option Addr} {n c : Nat} {xs : List Ent} (h : Held F Z W ts w) (i : Nat) (hi : ts[i]? = some (tSq eEnt 45 (.slice a n c) xs)) (hl : xs.length ≤ 100000) :
    Calls Try.prog 34 #[.slice a n c] w fun e w' => ∃ a' c', e = .returned (.slice a' n c') ∧ Held F Z W (ts ++ [tSq eEnt 45 (.slice a' n c') xs]) w' := by
  have hsn := fun a n c n' c' => Lib.run_eql_slice_nil (P := Try.prog) w 65 45 a n c n' c' Try.underlying65
  obtain ⟨_, Y0, hsq⟩ := h.get i hi
  obtain ⟨a0, c0, e, h1, h2, h3⟩ := Sq.le (show Sq eEnt 45 w _ Y0 (.slice a n c) xs from hsq)
  obtain ⟨rfl, rfl, rfl⟩ : a = a0 ∧ n = xs.length ∧ c = c0 := by simpa using e
  obtain ⟨K, D, us, hKD, _, _, hsl, hels⟩ := show Sq eEnt 45 w _ Y0 (.slice a xs.length c) xs from hsq
  cases a with
  | none =>
    obtain ⟨h4, h5⟩ := h3 rfl
    have hx : xs = [] := List.eq_nil_of_length_eq_zero h4
    subst hx
    subst h5
    have H1 := Lib.hid (h.add (Below.refl _ _) (T := tSq eEnt 45 (.slice none 0 0) []) (Sq.nil _ _ _ _ _))
    clear h hi hsq hsl hels h1 h2 h3 h4 e hl
    show Calls Try.prog 34 #[.slice none 0 0] w _
    go_enter Try.func34, Try.ntmps34
    go_wp2_with fail
    go_ret
    exact ⟨none, 0, rfl, H1.out⟩
  | some a =>
    have HS := Lib.hid hsl
    have HE := Lib.hid hels
    have H1 := Lib.hid (h.add (below_alloc w (.cells #[] 45)) (T := tSq eEnt 45 (.slice (some ⟨w.heap.size, 0, none⟩) 0 0) []) ⟨fun k => k = w.heap.size, fun _ => False, [], fun k hk => hk.elim (fun e => by rw [e]; exact Nat.le_refl _) False.elim, fun _ _ f => f, fun k hk => by subst hk; simp, sl_made0 w _ rfl, rfl⟩).front
    obtain ⟨N, hN⟩ : ∃ N, N = xs.length := ⟨_, rfl⟩
    rw [← hN] at hl h1 ⊢
    have HN := Lib.hid hN
    clear h hi hsq hsl hels h3 e hN
    go_enter Try.func34, Try.ntmps34
    go_wp2_with (at_builtin; refine wpList_appE (E := eEnt) slEnt (by decide) rfl _ _ rfl H1.out 0 rfl (by simp) rfl _ xs (by rw [← HN.out]; exact hl) us rfl (by rw [HN.out]; exact (HS.out.rd).below (below_alloc _ _)) (fun u hu => Els.one HE.out u hu) (fun Y _ => ⟨fun _ => False, fun _ f => f.elim, els_ent HE.out⟩) ?_; intro a' c' w3 h3 _; have H3 := Lib.hid h3; clear h3)
    go_ret
    refine ⟨a', c', by rw [HN.out]; rfl, ?_⟩
    have h4 := Held.rear (show Held F Z W (tSq eEnt 45 (.slice a' xs.length c') xs :: ts) w3 from H3.out)
    rw [← HN.out] at h4
    exact h4
end
end Go.Proofs.Ytbibippdafnenaa
