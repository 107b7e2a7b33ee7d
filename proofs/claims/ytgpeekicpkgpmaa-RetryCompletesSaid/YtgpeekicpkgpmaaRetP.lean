/- Operations that are read: the limits of the statements. -/
import Derived.Test.YtgpeekicpkgpmaaRetO
import Derived.Test.YtgpeekicpkgpmaaRd
namespace Go.Proofs.Ytgpeekicpkgpmaa
open Go.RowKit

structure OpD where
  kind : Int
  n : Int
  data : Bytes
def rOp : R OpD := rMap (rPair (rInt .i64) (rPair (rInt .i64) rBytes)) fun a => ⟨a.1, a.2.1, a.2.2⟩
theorem rOp_cells {w : World} {cs : List Value} {o : OpD} (h : rOp.rd w cs o) : ∃ v, cs = [.int .i64 o.kind, .int .i64 o.n, v] ∧ By w v o.data ∧ (Lit.int .i64 o.kind).wf = true ∧ (Lit.int .i64 o.n).wf = true := by
  obtain ⟨⟨k, n, d⟩, ⟨c1, c2, rfl, ⟨rfl, h1⟩, c3, c4, rfl, ⟨rfl, h2⟩, v, rfl, h3⟩, rfl⟩ := h
  exact ⟨v, rfl, h3, h1, h2⟩
theorem opensOps {H : Type} {enc : TypeId × Value → H} {W : World} : Opens enc Try.prog W 35 (rSlice rOp) :=
  opens_slice Try.underlying35 (by kernel_rfl) (opens_map (opens_struct Try.underlying41 (by kernel_rfl)
    (.cons (opens_int Try.underlying3 (by kernel_rfl)) rfl (.cons (opens_int Try.underlying3 (by kernel_rfl)) rfl (.one (opens_bytes Try.underlying28 (by kernel_rfl) Try.underlying5 (by kernel_rfl)) rfl)))) _) (by decide)
/-- the arguments that are operations -/
def Ops (w : World) (v : Value) (ops : List OpD) : Prop := (rSlice rOp).rd w [v] ops
theorem Ops.below {w w' : World} {v : Value} {ops : List OpD} (h : Ops w v ops) (hb : Below w.heap.size w w') : Ops w' v ops := (rSlice rOp).keep h fun k hk => hb.block k hk
/-- the slice value; the cells of each operation -/
theorem Ops.cases {w : World} {v : Value} {ops : List OpD} (h : Ops w v ops) : ∃ a cap, v = .slice a ops.length cap ∧ ops.length ≤ maxLen ∧ ∀ (i : Nat) o, ops[i]? = some o → ∃ b off u, a = some ⟨b, off, none⟩ ∧
    w.cell? ⟨b, off + i * 3, none⟩ = some (.int .i64 o.kind) ∧ w.cell? ⟨b, off + i * 3 + 1, none⟩ = some (.int .i64 o.n) ∧ w.cell? ⟨b, off + i * 3 + 2, none⟩ = some u ∧
      By w u o.data ∧ (Lit.int .i64 o.kind).wf = true ∧ (Lit.int .i64 o.n).wf = true := by
  obtain ⟨a, cap, e, h1, h2, h3, h4⟩ := h
  obtain rfl : v = .slice a ops.length cap := by simpa using e
  refine ⟨a, cap, rfl, by omega, fun i o' ho => ?_⟩
  obtain ⟨b, off, us, e, hat, hr⟩ := h4 i o' ho
  obtain ⟨u, rfl, hu, hk, hn⟩ := rOp_cells hr
  exact ⟨b, off, u, e, hat 0 _ rfl, hat 1 _ rfl, hat 2 _ rfl, hu, hk, hn⟩
def greatB (ops : List OpD) : Bool := ops.any (fun o => decide (100 < o.data.length)) || decide (400 < ops.length)
theorem any_take {α : Type} {l : List α} {p : α → Bool} {j : Nat} {o : α} (h : (l.take j).any p = false) (ho : l[j]? = some o) (hp : p o = false) : (l.take (j + 1)).any p = false := by
  rw [List.take_add_one, ho, List.any_append, h]; simp [hp]
theorem any_at {α : Type} {l : List α} {p : α → Bool} {j : Nat} {o : α} (ho : l[j]? = some o) (hp : p o = true) : l.any p = true :=
  List.any_eq_true.2 ⟨o, List.mem_of_getElem? ho, hp⟩
set_option maxHeartbeats 2000000 in
theorem great_any (v : Value) (ops : List OpD) (w : World) (h : Ops w v ops) :
    Calls Try.prog 18 #[v] w fun e w' => e = .returned (.bool (greatB ops)) ∧ Below w.heap.size w w' := by
  obtain ⟨a, cap, rfl, hm, hx⟩ := h.cases
  have HX := Lib.hid hx
  clear h hx
  unfold maxLen at hm
  go_enter Try.func18, Try.ntmps18
  go_wp2_with fail
  go_loopw [7] (fun i wr => ∃ j : Nat, j ≤ ops.length ∧ i = .int .i64 j ∧ Hid ((ops.take j).any (fun o => decide (100 < o.data.length)) = false) ∧ Hid (Below w.heap.size w wr)) (fun i _ => ops.length - (intOf i).toNat)
  case atStart => exact ⟨0, by omega, rfl, Lib.hid (by simp), Lib.hid (Below.refl _ _)⟩
  case round =>
    obtain ⟨j, hj, rfl, HA, HB⟩ := hrel
    have hz := HB.out.size
    by_cases hlt : j < ops.length
    · obtain ⟨o, ho⟩ : ∃ o, ops[j]? = some o := ⟨ops[j], List.getElem?_eq_getElem hlt⟩
      obtain ⟨b, off, u, rfl, c0, c1, c2, hu, hk, hn⟩ := HX.out j o ho
      have k0 := cell_later HB.out c0; have k1 := cell_later HB.out c1; have k2 := cell_later HB.out c2
      obtain ⟨ua, ucap, rfl⟩ := hu.slice
      have HO := Lib.hid ho
      clear c0 c1 c2 hu ho
      by_cases hbig : 100 < o.data.length
      · have HG := Lib.hid (any_at (p := fun o : OpD => decide (100 < o.data.length)) HO.out (by simpa using hbig))
        go_wp2_with fail
        go_ret
        exact ⟨by rw [greatB, HG.out]; rfl, HB.out.trans ((Below.refl wr.heap.size wr).alloc (Nat.le_refl _) _ |>.mono hz)⟩
      · have HG := Lib.hid (any_take (p := fun o : OpD => decide (100 < o.data.length)) HA.out HO.out (by simpa using hbig))
        go_wp2_with fail
        go_roundw
        case rel => exact ⟨j + 1, by omega, by go_num, HG, Lib.hid (HB.out.trans ((Below.refl wr.heap.size wr).alloc (Nat.le_refl _) _ |>.mono hz))⟩
        case measure => simp [intOf]; omega
    · obtain rfl : j = ops.length := by omega
      have HA' := HA.out
      rw [List.take_length] at HA'
      have HA2 := Lib.hid HA'
      clear HA' HX
      go_wp2_with fail
      go_ret
      exact ⟨by rw [greatB, HA2.out]; simp <;> omega, HB.out⟩
end Go.Proofs.Ytgpeekicpkgpmaa
