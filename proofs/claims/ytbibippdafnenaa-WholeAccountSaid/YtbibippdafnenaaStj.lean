/- A still walk: a call that leaves the world as it is. No condition on the program. -/
import Derived.Test.YtbibippdafnenaaSti
namespace Go.Proofs.Ytbibippdafnenaa
open Go.RowKit
theorem hs_call {P : Program} {ops : Array Oper} {w : World} {Q : Act → Prop} {a : Act} {o : Oper} {rest : List Oper} {f : FuncId} {args : Array Value} {v : Value} (hw : Region.wanted o (yielded ops a.tmps) = true) (he : (execOp a.eval o).run P w = .ok (.enter f args) w) (hc : Calls P f args w fun e w' => e = .returned v ∧ w' = w) (h : Bld (wpStill P ops w Q rest (a.put o.dst v))) : Bld (wpStill P ops w Q (o :: rest) a) :=
  Bld.mk (wpStill_step fun K hK => by
    rw [if_pos hw]
    unfold Oper.still
    rw [he]
    exact ⟨rfl, v, hc, hK _ h.out⟩)
end Go.Proofs.Ytbibippdafnenaa
