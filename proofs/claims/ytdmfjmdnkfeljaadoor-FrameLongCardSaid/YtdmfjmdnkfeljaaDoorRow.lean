/- Reading the arguments of a law: what each parameter's reading gives the walk; and reading them again behind the call. -/
import Derived.Test.YtdmfjmdnkfeljaaDoorRows
import Derived.Test.YtdmfjmdnkfeljaaDoorMem
import Derived.ProofKit
import Derived.OpenShut
import Derived.ShutString
import Derived.ChangeOld
import Derived.Below
namespace Go.Proofs.YtdmfjmdnkfeljaaDoor
open Go.ChangeShapes Go.WideShapes Go.ChangeAt Go.RowKit

theorem own : ownKnob Tryd.prog.godebug = none := by kernel_rfl
theorem laidOut : laidOutB Tryd.prog = true := by kernel_rfl

def IsInt (k : IntKind) (v : Value) : Prop := ∃ x, v = .int k x ∧ (Lit.int k x).wf = true
def IsBool (v : Value) : Prop := ∃ x, v = .bool x
def IsBytes (W : World) (v : Value) : Prop := ∃ bs, By W v bs

section
variable {H : Type} {enc : TypeId × Value → H} {P : Program} {W : World} {base : Nat} {t e : TypeId} {v : Value} {d : DataW H} {ps : List MemPlace} {r : Reach}
theorem open_isInt {k : IntKind} (ht : P.underlying t = some (.int k)) (hval : Value.okWide P W r base t v) (hd : DataW.Trod enc P W 0 (fun _ => true) true t v d ps) : IsInt k v := by
  obtain ⟨x, rfl, _, _, wx⟩ := open_int ht hval hd
  exact ⟨x, rfl, wx⟩
theorem open_isBool (ht : P.underlying t = some .bool) (hval : Value.okWide P W r base t v) (hd : DataW.Trod enc P W 0 (fun _ => true) true t v d ps) : IsBool v := by
  obtain ⟨x, rfl, _⟩ := open_bool ht hval hd
  exact ⟨x, rfl⟩
theorem bytes_of {zs : List Int} (hz : ∀ n ∈ zs, (Lit.int .u8 n).wf = true) : ∃ bs : List (BitVec 8), zs = bs.map U := by
  refine ⟨zs.map (BitVec.ofInt 8), ?_⟩
  rw [List.map_map]
  conv => lhs; rw [← List.map_id zs]
  refine List.map_congr_left fun n hn => ?_
  have := bounds_u8 (hz n hn)
  exact (ofInt_U (n := 8) n (by omega) (by omega)).symm
theorem open_isBytes (ht : P.underlying t = some (.slice e)) (he : P.underlying e = some (.int .u8)) (hc : P.cellsOf e = 1) (hval : Value.okWide P W r base t v) (hd : DataW.Trod enc P W 0 (fun _ => true) true t v d ps) : IsBytes W v := by
  obtain ⟨a, len, cap, rfl⟩ := okWide_slice ht hval
  obtain ⟨fuel, hf⟩ := hd
  rcases open_ints ht he hc hf with ⟨hcs, _⟩ | ⟨x, l, c, zs, hcs, _, hl, hm, hz, _, hcell, hwz⟩
  · simp [Value.cells] at hcs
    obtain ⟨rfl, rfl, rfl⟩ := hcs
    exact ⟨[], By.of_nil W⟩
  · simp [Value.cells] at hcs
    obtain ⟨rfl, rfl, rfl⟩ := hcs
    obtain ⟨bs, rfl⟩ := bytes_of hwz
    simp only [List.length_map, if_true] at hz hcell
    refine ⟨bs.take len, ?_⟩
    have hlen : (bs.take len).length = len := by rw [List.length_take]; omega
    refine ⟨by rw [cu_length, Nat.mul_one], some x, cap, by rw [hlen], by omega, hm, (fun e => by cases e), fun b hb j u hj => ?_⟩
    obtain rfl := Option.some.inj hb
    by_cases h0 : bs.length = 0
    · have : bs = [] := List.eq_nil_of_length_eq_zero h0
      subst this
      simp [cu] at hj
    · have hs : x.spot = none := by
        have := hcell 0 (by omega)
        have := World.cell?_spot this
        simpa [Addr.add] using this
      refine ⟨hs, ?_⟩
      rw [cu, List.getElem?_map, List.getElem?_take] at hj
      split at hj
      · rename_i hj'
        have hjb : j < bs.length := by
          rcases Nat.lt_or_ge j bs.length with h | h
          · exact h
          · rw [List.getElem?_eq_none h] at hj; cases hj
        rw [List.getElem?_eq_getElem hjb] at hj
        simp at hj
        subst hj
        have := hcell j hjb
        rw [add_eq _ _ hs] at this
        rw [this]; simp [hjb]
      · simp at hj
end

/-- the arguments read again behind a call that writes nothing that was there -/
theorem trodAll_below {H : Type} {enc : TypeId × Value → H} {P : Program} (hL : laidOutB P = true) {W W' : World} (hb : Below W.heap.size W W') : ∀ (ts : List TypeId) (_ : ts.all (fun t => P.readableRec t && decide (t < P.types.size)) = true) (vs : List Value) (ds : List (DataW H)) (ps : List MemPlace),
    DataW.TrodAll enc P W 0 (fun _ => true) true ts vs ds ps → DataW.TrodAll enc P W' 0 (fun b => decide (b < W.heap.size)) true ts vs ds ps
  | [], _, [], [], _, h => h
  | [], _, _ :: _, _, _, h => h.elim
  | [], _, [], _ :: _, _, h => h.elim
  | _ :: _, _, [], _, _, h => h.elim
  | _ :: _, _, _ :: _, [], _, h => h.elim
  | t :: ts, hr, v :: vs, d :: ds, ps, h => by
    obtain ⟨p, q, h1, h2, rfl⟩ := h
    simp only [List.all_cons, Bool.and_eq_true, decide_eq_true_eq] at hr
    have lt : ∀ x ∈ p, x.block < W.heap.size := by obtain ⟨m, hm⟩ := h1; exact DataW.trod_lt m _ _ _ hm
    exact ⟨p, q, Below.trod hL hr.1.1 hr.1.2 h1 hb lt, trodAll_below hL hb ts hr.2 vs ds q h2, rfl⟩
end Go.Proofs.YtdmfjmdnkfeljaaDoor
