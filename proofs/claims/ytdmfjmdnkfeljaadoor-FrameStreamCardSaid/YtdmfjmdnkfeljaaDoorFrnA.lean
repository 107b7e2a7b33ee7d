/- The reference's Same, at two packets that are the same. -/
import Derived.Test.YtdmfjmdnkfeljaaDoorFrmZ
import Derived.Test.YtdmfjmdnkfeljaaDoorMgA
namespace Go.Proofs.YtdmfjmdnkfeljaaDoor
open Go.RowKit

set_option maxRecDepth 100000 in
set_option maxHeartbeats 2000000 in
theorem sameR_refl (p : Pk) (a a' : Option Addr) (c c' : Nat) (w : World) (h1 : By w (.slice a p.pay.length c) p.pay) (h2 : By w (.slice a' p.pay.length c') p.pay) :
    Calls Tryd.prog 24 #[.agg #[.int .u8 (U p.kind), .int .i64 p.cls, .int .i64 p.number, .int .i64 p.value, .slice a p.pay.length c], .agg #[.int .u8 (U p.kind), .int .i64 p.cls, .int .i64 p.number, .int .i64 p.value, .slice a' p.pay.length c']] w fun e w' => e = .returned (.bool true) ∧ Below w.heap.size w w' := by
  have k1 := run_str8 Tryd.underlying22 Tryd.underlying5 Tryd.underlying9 (h1.below (show Below w.heap.size w ((w.alloc (.cells #[.int .u8 (U p.kind), .int .i64 p.cls, .int .i64 p.number, .int .i64 p.value, .slice a p.pay.length c] 24)).alloc (.cells #[.int .u8 (U p.kind), .int .i64 p.cls, .int .i64 p.number, .int .i64 p.value, .slice a' p.pay.length c'] 24)) by (repeat (first | (with_reducible exact Below.refl _ _) | (with_reducible refine Bw.alloc ?_ _) | (with_reducible refine Bw.drewN ?_ _) | (with_reducible refine Bw.drew ?_)))))
  have k2 := run_str8 Tryd.underlying22 Tryd.underlying5 Tryd.underlying9 (h2.below (show Below w.heap.size w ((w.alloc (.cells #[.int .u8 (U p.kind), .int .i64 p.cls, .int .i64 p.number, .int .i64 p.value, .slice a p.pay.length c] 24)).alloc (.cells #[.int .u8 (U p.kind), .int .i64 p.cls, .int .i64 p.number, .int .i64 p.value, .slice a' p.pay.length c'] 24)) by (repeat (first | (with_reducible exact Below.refl _ _) | (with_reducible refine Bw.alloc ?_ _) | (with_reducible refine Bw.drewN ?_ _) | (with_reducible refine Bw.drew ?_)))))
  clear h1 h2
  go_enter Tryd.func24, Tryd.ntmps24
  go_wp2_with fail
  go_ret
  exact ⟨rfl, by (repeat (first | (with_reducible exact Below.refl _ _) | (with_reducible refine Bw.alloc ?_ _) | (with_reducible refine Bw.drewN ?_ _) | (with_reducible refine Bw.drew ?_)))⟩
end Go.Proofs.YtdmfjmdnkfeljaaDoor
