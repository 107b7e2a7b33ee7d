/- Reading a parameter that is a packet, and one that is a list of packets. No condition on the program. -/
import Derived.Test.YtdmfjmdnkfeljaaDoorFrmU
import Derived.Test.YtdmfjmdnkfeljaaDoorMgB
namespace Go.Proofs.YtdmfjmdnkfeljaaDoor
open Go.RowKit Go.ChangeShapes Go.WideShapes Go.ChangeAt

def rPk : R Pk := rMap (rPair (rInt .u8) (rPair (rInt .i64) (rPair (rInt .i64) (rPair (rInt .i64) rBytes)))) fun a => ⟨BitVec.ofInt 8 a.1, a.2.1, a.2.2.1, a.2.2.2.1, a.2.2.2.2⟩
theorem opensPk {H : Type} {enc : TypeId × Value → H} {W : World} : Opens enc Tryd.prog W 24 rPk :=
  opens_map (opens_struct Tryd.underlying24 (by kernel_rfl)
    (.cons (opens_int Tryd.underlying5 (by kernel_rfl)) rfl (.cons (opens_int Tryd.underlying3 (by kernel_rfl)) rfl (.cons (opens_int Tryd.underlying3 (by kernel_rfl)) rfl (.cons (opens_int Tryd.underlying3 (by kernel_rfl)) rfl
      (.one (opens_bytes Tryd.underlying22 (by kernel_rfl) Tryd.underlying5 (by kernel_rfl)) rfl)))))) _
/-- an argument that is a packet -/
def IsPk (W : World) (v : Value) : Prop := ∃ (p : Pk) (a : Option Addr) (c : Nat), v = .agg #[.int .u8 (U p.kind), .int .i64 p.cls, .int .i64 p.number, .int .i64 p.value, .slice a p.pay.length c] ∧ By W (.slice a p.pay.length c) p.pay
theorem isPk_of {W : World} {cs : Array Value} (h : IsR rPk W (.agg cs)) : IsPk W (.agg cs) := by
  obtain ⟨p, ⟨⟨k, c, n, v, pay⟩, ⟨c1, _, h1, ⟨rfl, hk⟩, c2, _, rfl, ⟨rfl, _⟩, c3, _, rfl, ⟨rfl, _⟩, c4, _, rfl, ⟨rfl, _⟩, x, rfl, hb⟩, rfl⟩⟩ := h
  obtain ⟨a, cap, rfl⟩ := hb.slice
  have hk' := bounds_u8 hk
  have hu : U (BitVec.ofInt 8 k) = k := ofInt_U k (by omega) (by omega)
  refine ⟨⟨BitVec.ofInt 8 k, c, n, v, pay⟩, a, cap, ?_, hb⟩
  have h2 : cs.toList = [.int .u8 k, .int .i64 c, .int .i64 n, .int .i64 v, .slice a pay.length cap] := h1
  have h3 : cs = #[.int .u8 k, .int .i64 c, .int .i64 n, .int .i64 v, .slice a pay.length cap] := by
    apply Array.ext'; exact h2
  rw [h3]
  show _ = Value.agg #[.int .u8 (U (BitVec.ofInt 8 k)), _, _, _, _]
  rw [hu]
theorem open_isPk {H : Type} {enc : TypeId × Value → H} {W : World} {v : Value} {d : DataW H} {ps : List MemPlace} {q : Reach} {base : Nat} (hval : Value.okWide Tryd.prog W q base 24 v) (hd : DataW.Trod enc Tryd.prog W 0 (fun _ => true) true 24 v d ps) : IsPk W v := by
  obtain ⟨cs, rfl, _⟩ := okWide_struct Tryd.underlying24 hval
  exact isPk_of (open_isR opensPk hd)
end Go.Proofs.YtdmfjmdnkfeljaaDoor
