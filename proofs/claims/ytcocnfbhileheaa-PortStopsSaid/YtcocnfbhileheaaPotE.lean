/- The law's arguments that are packets; packets that have no effect (plain). -/
import Derived.Test.YtcocnfbhileheaaPotW
namespace Go.Proofs.Ytcocnfbhileheaa
open Go.RowKit Go.ChangeShapes Go.WideShapes Go.ChangeAt

def rPt : R Pt := rMap (rPair (rInt .u8) (rPair (rInt .i64) (rPair (rInt .i64) (rPair (rInt .i64) rBytes)))) fun a => ⟨BitVec.ofInt 8 a.1, a.2.1, a.2.2.1, a.2.2.2.1, a.2.2.2.2⟩
theorem opensPts {H : Type} {enc : TypeId × Value → H} {W : World} : Opens enc Try.prog W 22 (rSlice rPt) :=
  opens_slice Try.underlying22 (by kernel_rfl) (opens_map (opens_struct Try.underlying33 (by kernel_rfl)
    (.cons (opens_int Try.underlying5 (by kernel_rfl)) rfl (.cons (opens_int Try.underlying3 (by kernel_rfl)) rfl (.cons (opens_int Try.underlying3 (by kernel_rfl)) rfl (.cons (opens_int Try.underlying3 (by kernel_rfl)) rfl
      (.one (opens_bytes Try.underlying31 (by kernel_rfl) Try.underlying5 (by kernel_rfl)) rfl)))))) _) (by decide)
/-- an argument that is a list of packets -/
theorem pts_of {W : World} {v : Value} (h : IsSl rPt W v) : ∃ l, RdS ePt W (Old W) v l := by
  obtain ⟨l, hl⟩ := h
  refine ⟨l, rdS_of (r := rPt) (E := ePt) rfl (by decide) (fun cs p hp => ?_) hl⟩
  obtain ⟨⟨k, c, n, v, pay⟩, ⟨c1, _, h1, ⟨rfl, hk⟩, c2, _, rfl, ⟨rfl, _⟩, c3, _, rfl, ⟨rfl, _⟩, c4, _, rfl, ⟨rfl, _⟩, x, rfl, hb⟩, rfl⟩ := hp
  have hk' := bounds_u8 hk
  refine ⟨x, ?_, byZ_of hb⟩
  have hu : U (BitVec.ofInt 8 k) = k := ofInt_U k (by omega) (by omega)
  show cs = [.int .u8 (U (BitVec.ofInt 8 k)), _, _, _, _]
  rw [hu, h1]; rfl

abbrev stl0 : Prt := newPrt 5 [2, 2] 4 3 9
abbrev stl1 : Prt := (stl0.offer 0 [1#8]).2
abbrev stlG (up : Bool) : Pt := ⟨1#8, 0, 9, if up then 5 else 4, []⟩
abbrev stl2 (up : Bool) : Prt := (stl1.tick [stlG up]).2
abbrev stlC : Pt := ⟨4#8, 0, 1, 9, []⟩
abbrev stl3 (up : Bool) : Prt := ((stl2 up).tick [stlC]).2
/-- a packet that has no effect -/
def stale (up : Bool) (x : Pt) : Bool := decide (x.kind ≠ 1#8) && (!up || decide (x.value ≠ 9))
theorem stl2_state (up : Bool) : (stl2 up).side.state = if up then 2 else 1 := by cases up <;> rfl
theorem stl2_peer (up : Bool) : (stl2 up).side.peer = 9 := by cases up <;> rfl
theorem stale_handle {up : Bool} {x : Pt} (h : stale up x = true) : (stl2 up).handle x = stl2 up := by
  unfold stale at h
  simp only [Bool.and_eq_true, Bool.or_eq_true, Bool.not_eq_true', decide_eq_true_eq] at h
  rw [Prt.handle, if_neg h.1, if_pos]
  rw [stl2_state, stl2_peer]
  rintro ⟨h1, _, h3⟩
  rcases h.2 with h2 | h2
  · subst h2; simp at h1
  · exact h2 h3.symm
theorem stale_handles {up : Bool} : ∀ (l : List Pt), (∀ x ∈ l, stale up x = true) → l.foldl Prt.handle (stl2 up) = stl2 up
  | [], _ => rfl
  | x :: l, h => by rw [List.foldl_cons, stale_handle (h x (List.mem_cons_self ..)), stale_handles l fun y hy => h y (List.mem_cons_of_mem _ hy)]
theorem stale_tick (up : Bool) (l m : List Pt) : (stl2 up).tick (l.filter (stale up) ++ m) = (stl2 up).tick m := by
  unfold Prt.tick
  rw [List.foldl_append, stale_handles _ fun x hx => (List.mem_filter.1 hx).2]
theorem stl3_state (up : Bool) : (stl3 up).side.state = if up then 2 else 1 := by cases up <;> rfl
theorem stl3_acked (up : Bool) : (stl3 up).acked = [0, 0] := by cases up <;> rfl
theorem stl3_received (up : Bool) : (stl3 up).received = [0, 0] := by cases up <;> rfl
theorem stl3_taken (up : Bool) : (stl3 up).taken = [0, 0] := by cases up <;> rfl
theorem stl0_ok : stl0.Ok 200 := newPrt_ok (by decide) (by decide) (by decide) (by decide) (by decide) (by decide) (by decide) (by decide) (by decide) (by decide) (by decide)
theorem stl1_ok : stl1.Ok 265 := stl0_ok.offer 0 [1#8]
theorem stl2_ok (up : Bool) : (stl2 up).Ok 466 := stl1_ok.tick (l := [stlG up]) (by simp)
theorem stl3_ok (up : Bool) : (stl3 up).Ok 667 := (stl2_ok up).tick (l := [stlC]) (by simp)
end Go.Proofs.Ytcocnfbhileheaa
