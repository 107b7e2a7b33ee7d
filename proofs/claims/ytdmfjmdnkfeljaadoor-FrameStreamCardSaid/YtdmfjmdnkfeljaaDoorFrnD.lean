/- A scanner that is held, and a nil scanner. -/
import Derived.Test.YtdmfjmdnkfeljaaDoorFrnC
import Derived.Test.YtdmfjmdnkfeljaaDoorMgB
namespace Go.Proofs.YtdmfjmdnkfeljaaDoor
open Go.RowKit

theorem Held.tabs {Z : BS} {W w : World} {ts : List Th} (h : Held (fun _ => False) Z W ts w) (ht : Tabs W) : Tabs w := ht.below h.below
theorem Did.widen {w w' : World} {G Z Y : BS} {ts : List Th} (h : Did w G Z ts w') (hZ : ∀ k, Z k → Y k) : Did w G Y ts w' := by
  obtain ⟨h1, X, h2, h3⟩ := h
  exact ⟨h1, X, fun k hk => (h2 k hk).imp (hZ k) id, h3⟩
section
variable {F Z : BS} {W w : World} {ts : List Th} {sb : Nat} {s : Sc}
theorem newSc_h (h : Held F Z W ts w) : Calls Tryd.prog 27 #[] w fun e w' => ∃ sb, e = .returned (.pointer (some ⟨sb, 0, none⟩)) ∧ Held F Z W (ts ++ [tSc sb Sc.new]) w' :=
  (newSc_any w).mono fun _ _ ⟨p, he, hm⟩ => ⟨p, he, h.made hm⟩
theorem bad_h (h : Held F Z W ts w) (i : Nat) (hi : ts[i]? = some (tSc sb s)) : Calls Tryd.prog 30 #[.pointer (some ⟨sb, 0, none⟩)] w fun e w' => e = .returned (.int .i64 (s.bad : Int)) ∧ w = w' := by
  obtain ⟨G, Y, hq⟩ := h.get i hi
  exact bad_any sb s w G Y hq
theorem push_h (h : Held F Z W ts w) (i : Nat) (hi : ts[i]? = some (tSc sb s)) (x : Byte) (ht : Tabs w) (hb : s.bad < 900000) :
    Calls Tryd.prog 28 #[.pointer (some ⟨sb, 0, none⟩), .int .u8 (U x)] w fun e w' => ∃ (r : Pk) (f : Bool) (a : Option Addr) (c : Nat), e = .returned (.tuple #[.agg #[.int .u8 (U r.kind), .int .i64 r.cls, .int .i64 r.number, .int .i64 r.value, .slice a r.pay.length c], .bool f]) ∧ (s.push x).2 = (if f then some r else none) ∧ (f = false → r = Pk.zero) ∧
      Held F Z W (ts.set i (tSc sb (s.push x).1) ++ [tBy (.slice a r.pay.length c) r.pay]) w' := by
  obtain ⟨G, Y, hq, hd, _, _, hback⟩ := h.use i hi
  have hq' : (tSc sb s).on w G (fun k => Y k ∧ k < w.heap.size) := hq
  refine (pushS_any x hq' (fun k g y => hd k g y.1) (fun k y => y.2) ht hb).mono ?_
  rintro e w' ⟨r, f, a, c, he, h1, h2, h3⟩
  exact ⟨r, f, a, c, he, h1, h2, hback w' _ _ (h3.widen fun k h => h.1)⟩
end
set_option maxHeartbeats 1000000 in
theorem push_nil (x : Byte) (w : World) : Calls Tryd.prog 28 #[.pointer none, .int .u8 (U x)] w fun e w' => e = .returned (.tuple #[.agg #[.int .u8 0, .int .i64 0, .int .i64 0, .int .i64 0, .slice none 0 0], .bool false]) ∧ Below w.heap.size w w' := by
  go_enter Tryd.func28, Tryd.ntmps28
  go_wp2_with fail
  exact bodyPost_ret (v := .tuple #[.agg #[.int .u8 0, .int .i64 0, .int .i64 0, .int .i64 0, .slice none 0 0], .bool false]) (by simp [results, Tryd.results28, go_sem]) rfl ⟨rfl, by (repeat (first | (with_reducible exact Below.refl _ _) | (with_reducible refine Bw.alloc ?_ _) | (with_reducible refine Bw.drewN ?_ _) | (with_reducible refine Bw.drew ?_)))⟩
theorem bad_nil (w : World) : Calls Tryd.prog 30 #[.pointer none] w fun e w' => e = .returned (.int .i64 0) ∧ w = w' := by
  go_enter Tryd.func30, Tryd.ntmps30
  go_wp2_with fail
  go_ret
  exact ⟨rfl, rfl⟩
end Go.Proofs.YtdmfjmdnkfeljaaDoor
