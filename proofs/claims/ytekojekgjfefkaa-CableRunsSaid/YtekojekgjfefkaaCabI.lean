/- The methods of a cable that is held; awake. -/
import Derived.Test.YtekojekgjfefkaaCabH
import Derived.Test.YtekojekgjfefkaaStr
namespace Go.Proofs.Ytekojekgjfefkaa
open Go.RowKit

theorem Cab.rest_arrived {c : Cab} (h : c.flying = []) : c.tick.1 = [] := by unfold Cab.tick Cab.arrived; rw [h]; rfl
theorem send_any (p : Nat) (c : Cab) (hok : c.Ok) (hfl : c.faults.length ≤ 1000000) (htk : c.ticks < 1000000000) (hse : c.sent < 1000000000) (hls : c.lost < 1000000000) (v : Value) (d : Byt) (w : World) (F Z N : BS) (hd : Dj F Z) (hz : ∀ k, N k → ¬ F k) (hv : ByZ w N v d) (hdl : d.length ≤ 1000000) (h : (tCab p c).on w F Z) :
    Calls Try.prog 17 #[.pointer (some ⟨p, 0, none⟩), v] w (SendPost p c d w F Z) := by
  obtain ⟨a, n, rfl⟩ := hv.slice
  by_cases hx : c.up = false ∨ c.fault.kind = 1
  · exact send_drop p c hok hfl hls hse a d.length n d w F Z hd h hx
  · have hu : c.up = true := by
      cases hu : c.up
      · exact absurd (.inl hu) hx
      · rfl
    have hk : c.fault.kind ≠ 1 := fun e => hx (.inr e)
    by_cases hf : 64 < c.flying.length + c.copies
    · exact send_full p c hok hfl hls hse a d.length n d w F Z hd h hu hk hf
    · refine send_go p c hok hfl htk hse _ d w F Z N hd hz hv hdl h hu hk (by omega) c.copies rfl ?_
      unfold Cab.copies
      by_cases hk3 : c.fault.kind = 3
      · exact .inl ⟨hk3, if_pos hk3⟩
      · exact .inr ⟨hk3, if_neg hk3⟩
section
variable {F Z : BS} {W w : World} {ts : List Th} {p : Nat} {c : Cab}
theorem send_h (h : Held F Z W ts w) (i : Nat) (hi : ts[i]? = some (tCab p c)) (hok : c.Ok) (hfl : c.faults.length ≤ 1000000) (htk : c.ticks < 1000000000) (hse : c.sent < 1000000000) (hls : c.lost < 1000000000) (v : Value) (d : Byt) (hdl : d.length ≤ 1000000)
    (j : Nat) (T : Th) (hj : ts[j]? = some T) (hji : j ≠ i) (hr : ∀ H Y, T.on w H Y → ∃ N : BS, (∀ k, N k → H k ∨ Y k) ∧ ByZ w N v d) :
    Calls Try.prog 17 #[.pointer (some ⟨p, 0, none⟩), v] w fun e w' => e = .returned (.int .i64 ((c.send d).1 : Int)) ∧ Held F Z W (ts.set i (tCab p (c.send d).2)) w' := by
  obtain ⟨G, Y, hc, hd, _, hoth, hb⟩ := h.use i hi
  obtain ⟨H, h1, _, h3⟩ := hoth j T hji hj
  obtain ⟨N, n1, n2⟩ := hr H Y h3
  refine (send_any p c hok hfl htk hse hls v d w G Y N hd (fun k hk hg => (n1 k hk).elim (h1 k hg) (hd k hg)) n2 hdl hc).mono fun e w' ⟨he, hst⟩ => ⟨he, ?_⟩
  have := hb w' _ [] hst
  rwa [List.append_nil] at this
theorem tick_h (h : Held F Z W ts w) (i : Nat) (hi : ts[i]? = some (tCab p c)) (hl : c.flying.length ≤ 1000000) (ht : c.ticks < 1000000000) :
    Calls Try.prog 18 #[.pointer (some ⟨p, 0, none⟩)] w fun e w' => ∃ (a : Option Addr) (n : Nat), e = .returned (.slice a c.tick.1.length n) ∧ Held F Z W (ts.set i (tCab p c.tick.2) ++ [tSq eBy 32 (.slice a c.tick.1.length n) c.tick.1]) w' := by
  obtain ⟨G, Y, hc, hd, _, _, hb⟩ := h.use i hi
  refine (tick_any p c hl ht w G Y hd hc).mono fun e w' ⟨v, he, hst⟩ => ?_
  have h2 := hb w' _ _ hst
  obtain ⟨G2, Y2, h3⟩ := h2.get ts.length (T := tSq eBy 32 v c.tick.1) (by rw [List.getElem?_append_right (by simp)]; simp)
  obtain ⟨a, n, rfl⟩ := Sq.shape (show Sq eBy 32 w' G2 Y2 v c.tick.1 from h3)
  exact ⟨a, n, he, h2⟩
theorem cut_h (h : Held F Z W ts w) (i : Nat) (hi : ts[i]? = some (tCab p c)) (hl : c.lost < 1000000000) (hk : c.flying.length ≤ 1000000) :
    Calls Try.prog 24 #[.pointer (some ⟨p, 0, none⟩)] w fun e w' => e = .returned (.tuple #[]) ∧ Held F Z W (ts.set i (tCab p c.cut)) w' := by
  obtain ⟨G, Y, hc, hd, _, _, hb⟩ := h.use i hi
  refine (cut_any hc hd hl hk).mono fun e w' ⟨he, h1, h2⟩ => ⟨he, ?_⟩
  have := hb w' _ [] (Did.same h2 h1 hd)
  rwa [List.append_nil] at this
theorem mend_h (h : Held F Z W ts w) (i : Nat) (hi : ts[i]? = some (tCab p c)) :
    Calls Try.prog 25 #[.pointer (some ⟨p, 0, none⟩)] w fun e w' => e = .returned (.tuple #[]) ∧ Held F Z W (ts.set i (tCab p c.mend)) w' := by
  obtain ⟨G, Y, hc, hd, _, _, hb⟩ := h.use i hi
  refine (mend_any hc hd).mono fun e w' ⟨he, h1, h2⟩ => ⟨he, ?_⟩
  have := hb w' _ [] (Did.same h2 h1 hd)
  rwa [List.append_nil] at this
theorem up_h (h : Held F Z W ts w) (i : Nat) (hi : ts[i]? = some (tCab p c)) : Calls Try.prog 14 #[.pointer (some ⟨p, 0, none⟩)] w fun e w' => e = .returned (.bool c.up) ∧ w = w' := by
  obtain ⟨G, Y, hc⟩ := h.get i hi; exact up_any hc
theorem flying_h (h : Held F Z W ts w) (i : Nat) (hi : ts[i]? = some (tCab p c)) : Calls Try.prog 15 #[.pointer (some ⟨p, 0, none⟩)] w fun e w' => e = .returned (.int .i64 (c.flying.length : Int)) ∧ w = w' := by
  obtain ⟨G, Y, hc⟩ := h.get i hi; exact flying_any hc
theorem lost_h (h : Held F Z W ts w) (i : Nat) (hi : ts[i]? = some (tCab p c)) : Calls Try.prog 16 #[.pointer (some ⟨p, 0, none⟩)] w fun e w' => e = .returned (.int .i64 (c.lost : Int)) ∧ w = w' := by
  obtain ⟨G, Y, hc⟩ := h.get i hi; exact lost_any hc
/-- a new cable without faults -/
theorem new0_h (h : Held F Z W ts w) (d : Nat) (h1 : 1 ≤ d) (h2 : d ≤ 100) :
    Calls Try.prog 12 #[.int .i64 (d : Int), .slice none 0 0] w fun e w' => ∃ p, e = .returned (.tuple #[.pointer (some ⟨p, 0, none⟩), .int .i64 0]) ∧ Held F Z W (ts ++ [tCab p (Cab.new d [])]) w' := by
  refine (new_any w (fun _ => False) _ [] (RdS.nil _ _ _) (by simp) d h1 h2).mono fun e w' hp => ?_
  rcases hp with ⟨h3, _⟩ | ⟨_, p, he, hm⟩
  · cases h3
  · exact ⟨p, he, h.made hm⟩
end
/-- one byte that has just been laid -/
theorem by_one (w : World) (x : BitVec 8) (T : TypeId) (g : Nat) (hg : g = w.heap.size) : ByZ (w.alloc (.cells #[.int .u8 (U x)] T)) (fun k => w.heap.size ≤ k) (.slice (some ⟨g, 0, none⟩) 1 1) [x] := by
  have h : By (w.alloc (.cells #[.int .u8 (U x)] T)) (.slice (some ⟨g, 0, none⟩) 1 1) [x] := rd_one w g (.int .u8 (U x)) T hg
  exact ⟨h, fun _ b hb => by obtain rfl : g = b := by simpa [Value.ownBlock] using hb
                             omega⟩
theorem Held.byte {F Z : BS} {W w : World} {ts : List Th} (h : Held F Z W ts w) (x : BitVec 8) (T : TypeId) : Held F Z W (ts ++ [tBy (.slice (some ⟨w.heap.size, 0, none⟩) 1 1) [x]]) (w.alloc (.cells #[.int .u8 (U x)] T)) :=
  h.addZ (below_alloc _ _) (by_one w x T _ rfl)
theorem by_rd {w : World} {v : Value} {d : Byt} : ∀ H Y, (tBy v d).on w H Y → ∃ N : BS, (∀ k, N k → H k ∨ Y k) ∧ ByZ w N v d := fun _ Y h => ⟨Y, fun _ h => .inr h, h⟩
theorem bys_at {T : TypeId} {w : World} {F Z : BS} {a : Option Addr} {n c : Nat} {l : List Byt} (h : Sq eBy T w F Z (.slice a n c) l) {j : Nat} {d : Byt} (hj : l[j]? = some d) :
    ∃ b o va vc, a = some ⟨b, o, none⟩ ∧ w.cell? ⟨b, o + j, none⟩ = some (.slice va d.length vc) ∧ ByZ w Z (.slice va d.length vc) d := by
  obtain ⟨b, o, cs, A, e, hb, ⟨v, rfl, hv⟩, _, hc⟩ := h.at (by decide) hj
  obtain ⟨va, vc, rfl⟩ := hv.slice
  have := hc 0 _ rfl
  rw [show o + j * eBy.size + 0 = o + j by show o + j * 1 + 0 = _; omega] at this
  exact ⟨b, o, va, vc, e, this, hv⟩
set_option maxHeartbeats 4000000 in
theorem awake_any (w : World) : Calls Try.prog 11 #[] w fun e w' => e = .returned (.bool true) ∧ Below w.heap.size w w' := by
  have HS := Lib.hid (Held.start0 (fun _ => False) (fun _ => False) (fun _ f _ => f) w)
  have o0 := Cab.new_ok (delay := 2) (fs := []) (by decide) (by decide) rfl
  have HO := Lib.hid o0; clear o0
  go_enter Try.func11, Try.ntmps11
  go_wp2_with fail
  refine (new0_h HS.out 2 (by decide) (by decide)).mono ?_
  rintro e w1 ⟨p, rfl, h⟩
  have H1 := Lib.hid (h.byte (7#8) 5); clear h
  go_wp2_with fail
  refine (send_h H1.out 0 rfl HO.out (by decide) (by decide) (by decide) (by decide) _ [7#8] (by decide) 1 _ rfl (by decide) by_rd).mono ?_
  rintro e w2 ⟨rfl, h⟩
  have e1 : (Cab.new 2 []).send [7#8] = (0, ⟨2, [], true, 0, 1, 0, [(2, [7#8])]⟩) := rfl
  rw [e1] at h ⊢
  have H2 := Lib.hid h; clear h e1
  go_wp2_with fail
  refine (tick_h H2.out 0 rfl (by decide) (by decide)).mono ?_
  rintro e w3 ⟨a3, n3, rfl, h⟩
  have e2 : (⟨2, [], true, 0, 1, 0, [(2, [7#8])]⟩ : Cab).tick = ([], ⟨2, [], true, 1, 1, 0, [(2, [7#8])]⟩) := rfl
  rw [e2] at h ⊢
  have H3 := Lib.hid h; clear h e2
  go_wp2_with fail
  refine (tick_h H3.out 0 rfl (by decide) (by decide)).mono ?_
  rintro e w4 ⟨a4, n4, rfl, h⟩
  have e3 : (⟨2, [], true, 1, 1, 0, [(2, [7#8])]⟩ : Cab).tick = ([[7#8]], ⟨2, [], true, 2, 1, 0, []⟩) := rfl
  rw [e3] at h ⊢
  have H4 := Lib.hid h; clear h e3
  obtain ⟨G, Y, hs⟩ := H4.out.get 3 rfl
  obtain ⟨b, o, va, vc, rfl, c0, hby⟩ := bys_at (show Sq eBy 32 _ G Y _ _ from hs) (j := 0) (d := [7#8]) rfl
  have HRUN := Lib.hid (run_str8 (P := Try.prog) (src := 32) (dst := 9) Try.underlying32 Try.underlying5 Try.underlying9 hby.1)
  have hrun := HRUN.out
  rw [Nat.add_zero] at c0
  have hlit : str8 [7#8] = ⟨#[7]⟩ := rfl
  rw [hlit] at hrun
  rw [show ([7#8] : Byt).length = 1 from rfl] at hrun c0
  clear hs hby HRUN hlit
  go_wp2_with fail
  refine (flying_h H4.out 0 rfl).mono ?_
  rintro e w5 ⟨rfl, rfl⟩
  go_wp2_with fail
  refine (up_h H4.out 0 rfl).mono ?_
  rintro e w6 ⟨rfl, rfl⟩
  go_wp2_with fail
  go_ret
  exact ⟨rfl, H4.out.below⟩
end Go.Proofs.Ytekojekgjfefkaa
