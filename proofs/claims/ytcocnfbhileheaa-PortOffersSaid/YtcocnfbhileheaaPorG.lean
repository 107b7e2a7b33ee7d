/- Credits in memory: the giver: Limit. -/
import Derived.Test.YtcocnfbhileheaaPorF
namespace Go.Proofs.Ytcocnfbhileheaa
open Go.RowKit

def givC (g : Giv) : List Value := [.int .i64 (g.room : Int), .int .i64 (g.received : Int), .int .i64 (g.freed : Int)]
def takC (t : Tak) : List Value := [.int .i64 (t.sent : Int), .int .i64 (t.limit : Int)]
def eGiv : El Giv := ePure 3 givC (fun _ => rfl) fun a u hu => by simp [givC] at hu; rcases hu with rfl | rfl | rfl <;> rfl
def eTak : El Tak := ePure 2 takC (fun _ => rfl) fun a u hu => by simp [takC] at hu; rcases hu with rfl | rfl <;> rfl
theorem pure_giv : Pure eGiv givC := fun _ _ _ _ _ => Iff.rfl
theorem pure_tak : Pure eTak takC := fun _ _ _ _ _ => Iff.rfl
/-- a giver, a taker -/
def tGiv (p : Nat) (gs : List Giv) : Th := tEx fun v : Value => [tBlk p (.cells #[v] 165), tSq eGiv 155 v gs]
def tTak (p : Nat) (ts : List Tak) : Th := tEx fun v : Value => [tBlk p (.cells #[v] 162), tSq eTak 172 v ts]
theorem giv_cells {T : TypeId} {w : World} {F Z : BS} {b off n cap : Nat} {gs : List Giv} (h : Sq eGiv T w F Z (.slice (some ⟨b, off, none⟩) n cap) gs) {c : Nat} {g : Giv} (hc : gs[c]? = some g) :
    w.cell? ⟨b, off + c * 3, none⟩ = some (.int .i64 (g.room : Int)) ∧ w.cell? ⟨b, off + c * 3 + 1, none⟩ = some (.int .i64 (g.received : Int)) ∧ w.cell? ⟨b, off + c * 3 + 2, none⟩ = some (.int .i64 (g.freed : Int)) :=
  ⟨pure_cell pure_giv h hc (j := 0) rfl, pure_cell pure_giv h hc (j := 1) rfl, pure_cell pure_giv h hc (j := 2) rfl⟩
theorem tak_cells {T : TypeId} {w : World} {F Z : BS} {b off n cap : Nat} {gs : List Tak} (h : Sq eTak T w F Z (.slice (some ⟨b, off, none⟩) n cap) gs) {c : Nat} {g : Tak} (hc : gs[c]? = some g) :
    w.cell? ⟨b, off + c * 2, none⟩ = some (.int .i64 (g.sent : Int)) ∧ w.cell? ⟨b, off + c * 2 + 1, none⟩ = some (.int .i64 (g.limit : Int)) :=
  ⟨pure_cell pure_tak h hc (j := 0) rfl, pure_cell pure_tak h hc (j := 1) rfl⟩
theorem sq_some {α : Type} {E : El α} {T : TypeId} {w : World} {F Z : BS} {v : Value} {xs : List α} (h : Sq E T w F Z v xs) (h0 : 0 < xs.length) : ∃ b off cap, v = .slice (some ⟨b, off, none⟩) xs.length cap ∧ xs.length ≤ cap ∧ cap ≤ 9223372036854775807 := by
  obtain ⟨a, cap, rfl, h1, h2, h3⟩ := h.le
  obtain ⟨K, D, us, _, _, _, h4, _⟩ := h
  obtain ⟨g, off, cap', e, _⟩ := h4.head h0
  obtain ⟨rfl, rfl⟩ : a = some ⟨g, off, none⟩ ∧ cap = cap' := by simpa using e
  exact ⟨g, off, cap, rfl, h1, h2⟩
theorem agg3_wf {a b c : Nat} (ha : a ≤ 4000000000000) (hb : b ≤ 4000000000000) (hc : c ≤ 4000000000000) : (a : Int) + (c : Int) ≤ 9223372036854775807 ∧ 0 ≤ (b : Int) := by omega
theorem limF_any (a b c : Nat) (w : World) (ha : a ≤ 4000000000000) (hc : c ≤ 4000000000000) :
    Calls Try.prog 80 #[.agg #[.int .i64 (a : Int), .int .i64 (b : Int), .int .i64 (c : Int)]] w fun e w' => e = .returned (.int .i64 ((a : Int) + (c : Int))) ∧ Below w.heap.size w w' := by
  go_enter Try.func80, Try.ntmps80
  go_wp2_with fail
  go_ret
  exact ⟨rfl, by (repeat (first | (with_reducible exact Below.refl _ _) | (with_reducible refine Bw.alloc ?_ _) | (with_reducible refine Bw.drewN ?_ _) | (with_reducible refine Bw.drew ?_)))⟩
set_option maxRecDepth 100000 in
set_option maxHeartbeats 4000000 in
theorem withG_any (p b off n cap c fn : Nat) (caps : Array Value) (w : World) (R : Int → World → Prop) (hrow : w.heap[p]? = some (.cells #[.slice (some ⟨b, off, none⟩) n cap] 165)) (hc : c < n) (_ : n ≤ 4)
    (hf : ∀ args w, Sem.run Try.prog (callFunc fn args) w = .ok (.enter fn args) w)
    (hk : Calls Try.prog fn (#[.pointer (some ⟨b, off + c * 3, none⟩)] ++ caps) w fun e w' => ∃ m, e = .returned (.int .i64 m) ∧ R m w') :
    Calls Try.prog 78 #[.pointer (some ⟨p, 0, none⟩), .int .i64 (c : Int), .func (.func fn) #[] caps] w fun e w' => ∃ m, e = .returned (.int .i64 m) ∧ R m w' := by
  have c0 := blk_cell (i := 0) hrow rfl
  clear hrow
  have HK := Lib.hid hk
  have HF := Lib.hid hf
  clear hk hf
  go_enter Try.func78, Try.ntmps78
  go_wp2_with fail
  rw [HF.out, Oper.upon_enter]
  refine HK.out.mono ?_
  rintro e w' ⟨m, rfl, hr⟩
  have HR := Lib.hid hr
  clear hr
  go_wp2_with fail
  go_ret
  exact ⟨m, rfl, HR.out⟩
set_option maxRecDepth 100000 in
set_option maxHeartbeats 4000000 in
theorem withT_any (p b off n cap c fn : Nat) (caps : Array Value) (w : World) (R : Int → World → Prop) (hrow : w.heap[p]? = some (.cells #[.slice (some ⟨b, off, none⟩) n cap] 162)) (hc : c < n) (_ : n ≤ 4)
    (hf : ∀ args w, Sem.run Try.prog (callFunc fn args) w = .ok (.enter fn args) w)
    (hk : Calls Try.prog fn (#[.pointer (some ⟨b, off + c * 2, none⟩)] ++ caps) w fun e w' => ∃ m, e = .returned (.int .i64 m) ∧ R m w') :
    Calls Try.prog 101 #[.pointer (some ⟨p, 0, none⟩), .int .i64 (c : Int), .func (.func fn) #[] caps] w fun e w' => ∃ m, e = .returned (.int .i64 m) ∧ R m w' := by
  have c0 := blk_cell (i := 0) hrow rfl
  clear hrow
  have HK := Lib.hid hk
  have HF := Lib.hid hf
  clear hk hf
  go_enter Try.func101, Try.ntmps101
  go_wp2_with fail
  rw [HF.out, Oper.upon_enter]
  refine HK.out.mono ?_
  rintro e w' ⟨m, rfl, hr⟩
  have HR := Lib.hid hr
  clear hr
  go_wp2_with fail
  go_ret
  exact ⟨m, rfl, HR.out⟩
end Go.Proofs.Ytcocnfbhileheaa
