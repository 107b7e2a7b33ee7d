/- A still walk whose operations are guarded: the guard is looked at first. No condition on the program. -/
import Derived.Test.YtbibippdafnenaaReg
import Derived.Test.YtbibippdafnenaaMgA
import Derived.StillTailTactics
import Derived.Lib.Hide
namespace Go.Proofs.Ytbibippdafnenaa
open Go.RowKit
/-- a goal that no step looks into -/
structure Bld (p : Prop) : Prop where
  out : p
section
variable {P : Program} {ops : Array Oper} {w : World} {Q : Act → Prop} {a : Act} {o : Oper} {rest : List Oper}
theorem wpStill_un (hw : Region.wanted o (yielded ops a.tmps) = false) (h : wpStill P ops w Q rest (a.put o.dst undef)) : wpStill P ops w Q (o :: rest) a :=
  wpStill_step fun K hK => by rw [if_neg (by rw [hw]; exact Bool.false_ne_true)]; exact hK _ h
theorem wpStill_val {v : Value} (hw : Region.wanted o (yielded ops a.tmps) = true) (hv : (execOp a.eval o).run P w = .ok (.value v) w) (h : wpStill P ops w Q rest (a.put o.dst v)) : wpStill P ops w Q (o :: rest) a :=
  wpStill_step fun K hK => by
    rw [if_pos hw]
    unfold Oper.still
    rw [hv, Oper.stillUpon_value]
    exact hK _ h
/-! hidden, so that no step looks ahead -/
theorem hs_out (h : Bld (wpStill P ops w Q rest a)) : wpStill P ops w Q rest a := h.out
theorem hs_nil (h : Q a) : Bld (wpStill P ops w Q [] a) := Bld.mk h
theorem hs_un (hw : Region.wanted o (yielded ops a.tmps) = false) (h : Bld (wpStill P ops w Q rest (a.put o.dst undef))) : Bld (wpStill P ops w Q (o :: rest) a) := Bld.mk (wpStill_un hw h.out)
theorem hs_val {S : World → Prop} (hS : S w) {v : Value} (hw : Region.wanted o (yielded ops a.tmps) = true) (hv : ∀ w', S w' → (execOp a.eval o).run P w' = .ok (.value v) w') (h : Bld (wpStill P ops w Q rest (a.put o.dst v))) : Bld (wpStill P ops w Q (o :: rest) a) :=
  Bld.mk (wpStill_val hw (hv w hS) h.out)
end
end Go.Proofs.Ytbibippdafnenaa
