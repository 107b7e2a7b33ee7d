/- The contract of slices.Clone on packets. -/
import Derived.Test.YtdmfjmdnkfeljaaDoorFrnI
namespace Go.Proofs.YtdmfjmdnkfeljaaDoor
open Go.RowKit

theorem Rd.uniq {w : World} {s : Nat} {v : Value} {n : Nat} {us vs : List Value} (h : Rd w s v n us) (k : Rd w s v n vs) : us = vs := by
  obtain ⟨hl, a, c, e, _, _, h3, h4⟩ := h
  obtain ⟨kl, a', c', e', _, _, _, k4⟩ := k
  rw [e] at e'
  obtain ⟨rfl, rfl⟩ : a = a' ∧ c = c' := by simpa using e'
  apply List.ext_getElem (hl.trans kl.symm)
  intro j h1 h2
  cases a with
  | none => have := (h3 rfl).1; subst this; rw [Nat.zero_mul] at hl; omega
  | some b =>
    have q1 := (h4 b rfl j _ (List.getElem?_eq_getElem h1)).2
    have q2 := (k4 b rfl j _ (List.getElem?_eq_getElem h2)).2
    exact Option.some.inj (q1.symm.trans q2)
theorem Els.below {α : Type} {E : El α} {w w' : World} {F Z : BS} {us : List Value} {xs : List α} (h : Els E w F Z us xs) (hb : Below w.heap.size w w') : Els E w' F Z us xs := (h.keep hb.size fun k _ hl => hb.block k hl).mono (fun _ h => h.1) fun _ h => h.1
set_option maxRecDepth 100000 in
set_option maxHeartbeats 4000000 in
theorem clonePk_h {F Z : BS} {W w : World} {ts : List Th} {va : Option Addr} {vc : Nat} {l : List Pk} (h : Held F Z W ts w) (i : Nat) (hi : ts[i]? = some (tRd ePk (.slice va l.length vc) l)) (hm : l.length ≤ 100000) :
    Calls Tryd.prog 36 #[.slice va l.length vc] w fun e w' => ∃ a c, e = .returned (.slice a l.length c) ∧ Held F Z W (ts ++ [tSq ePk 24 (.slice a l.length c) l]) w' := by
  have hsn := fun a n c n' c' => Lib.run_eql_slice_nil (P := Tryd.prog) w 57 24 a n c n' c' Tryd.underlying57
  obtain ⟨G, Y, us, hrd, hel, hown⟩ := h.get i hi
  have hil := lt_of_get hi
  have HR := Lib.hid hrd
  have HONE := Lib.hid hel.one
  have hnil : va = none → l.length = 0 ∧ vc = 0 := by
    obtain ⟨_, a, c, e, _, _, h3, _⟩ := hrd
    obtain ⟨rfl, rfl⟩ : va = a ∧ vc = c := by simpa using e
    exact h3
  clear hrd hel hown
  cases va with
  | none =>
    obtain ⟨h0, hc0⟩ := hnil rfl
    have hb0 : l = [] := List.eq_nil_of_length_eq_zero h0
    subst hb0
    subst hc0
    clear hnil h0
    go_enter Tryd.func36, Tryd.ntmps36
    go_wp2_with fail
    go_ret
    exact ⟨none, 0, rfl, h.add (Below.refl _ _) (Sq.nil _ _ _ _ _)⟩
  | some ad =>
    clear hnil
    have h1 : Held F Z W (ts ++ [tSq ePk 24 (.slice (some ⟨w.heap.size, 0, none⟩) ([] : List Pk).length 0) []]) (w.alloc (.cells #[] 24)) :=
      h.add (below_alloc w _) ⟨fun k => k = w.heap.size, fun _ => False, [], fun k hk => hk.elim (fun e => by show w.heap.size ≤ k; omega) fun f => f.elim, fun _ _ f => f, fun k hk => by have hk' : k = w.heap.size := hk; simp; omega, ⟨rfl, .inr ⟨w.heap.size, 0, 0, #[], rfl, rfl, heap_alloc_new w _, Nat.le_refl _, Nat.zero_le _, Nat.le_refl _, rfl⟩⟩, rfl⟩
    obtain ⟨K, us2, hsl, hKn, hback⟩ := h1.app (E := ePk) (T := 24) (av := .slice (some ⟨w.heap.size, 0, none⟩) ([] : List Pk).length 0) (xs := []) ts.length (by simp)
    have hu2 : us2 = [] := List.eq_nil_of_length_eq_zero (by have := hsl.1; simpa using this)
    subst hu2
    have HB := Lib.hid hback; have HS := Lib.hid hsl
    have HI := Lib.hid (show (ts ++ [tSq ePk 24 (.slice (some ⟨w.heap.size, 0, none⟩) ([] : List Pk).length 0) []])[i]? = some (tRd ePk (.slice (some ad) l.length vc) l) by rw [List.getElem?_append_left hil]; exact hi)
    clear hback hsl hKn
    have HIL := Lib.hid hil
    clear hil hi
    go_enter Tryd.func36, Tryd.ntmps36
    go_wp2_with (at_builtin; refine wpList_apps slPk rfl _ _ rfl K (.slice (some ⟨w.heap.size, 0, none⟩) 0 0) 0 [] rfl HS.out (.slice (some ad) l.length vc) l.length us rfl (HR.out.below (below_alloc w _)) HONE.out (by unfold maxLen; omega) (by omega) ?_; intro v' w' hs2 hf2; rw [Nat.zero_add, List.nil_append] at hs2; obtain ⟨xa, xc, rfl⟩ := hs2.shape; have HS2 := Lib.hid hs2; have HF2 := Lib.hid hf2; clear hs2 hf2)
    go_ret
    refine ⟨xa, xc, rfl, ?_⟩
    have := HB.out (w.alloc (.cells #[] 24)) _ us l _ (Below.refl _ _) (by rw [List.length_nil, Nat.zero_add, List.nil_append]; exact HS2.out) HF2.out fun Y hoth => by
      obtain ⟨H, _, us1, hr1, he1, _⟩ := hoth i _ (by have := HIL.out; omega) HI.out
      obtain rfl := hr1.uniq (HR.out.below (below_alloc w _))
      exact ⟨fun _ => False, Y, fun _ f => f.elim, fun k hk => .inl hk, fun _ f => f.elim, he1⟩
    rw [List.set_append_right _ _ (Nat.le_refl _), Nat.sub_self] at this
    simpa using this
end Go.Proofs.YtdmfjmdnkfeljaaDoor
