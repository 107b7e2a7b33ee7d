/- A link is a reliable channel, whatever bits are inverted, whatever is lost and doubled, however often the cable is cut and ports are restarted. -/
import Derived.Test.YtcbnhebiagdbiaaGreatDoorCards
import Derived.Test.YtcbnhebiagdbiaaGreatDoorTie
import Derived.Test.YtcbnhebiagdbiaaGreatDoorPkA1
import Derived.Test.YtcbnhebiagdbiaaGreatDoorPkC1
import Derived.Test.YtcbnhebiagdbiaaGreatDoorWalkWholeLink
import Derived.ProofKit
import Derived.OpenShut
import Derived.ChangeOld
import Derived.Deep.DeepHandedRow
import Derived.Lib.LaidTab
namespace Go.Proofs.YtcbnhebiagdbiaaGreatDoor.wholeLink
open Go.ChangeShapes Go.WideShapes Go.ChangeAt Go.RowKit

theorem gTab0 : Tryz.prog.globalNamed "fairlink/linecode.valid" = some 0 := by kernel_rfl
theorem gTabType0 : (Tryz.prog.globals[0]?).map (·.type) = some 259 := by kernel_rfl
theorem cellsT0 : Tryz.prog.cellsOf 259 = 20 := by kernel_rfl
theorem cellsE0 : Tryz.prog.cellsOf 5 = 1 := by kernel_rfl
theorem table0 {W : World} (h : laidMetH Tryz.prog Rows.wholeLinkRow.laid W) : Lib.TabIs Tryz.prog W "fairlink/linecode.valid" .u8 [7, 11, 13, 14, 19, 21, 22, 25, 26, 28, 35, 37, 38, 41, 42, 44, 49, 50, 52, 56] :=
  Lib.tabIs_of_head gTab0 gTabType0 Tryz.underlying259 Tryz.underlying5 cellsE0 cellsT0 h
theorem gTab1 : Tryz.prog.globalNamed "fairlink/crc.remainders" = some 3 := by kernel_rfl
theorem gTabType1 : (Tryz.prog.globals[3]?).map (·.type) = some 310 := by kernel_rfl
theorem cellsT1 : Tryz.prog.cellsOf 310 = 16 := by kernel_rfl
theorem cellsE1 : Tryz.prog.cellsOf 265 = 1 := by kernel_rfl
theorem table1 {W : World} (h : laidMetH Tryz.prog Rows.wholeLinkRow.laid W) : Lib.TabIs Tryz.prog W "fairlink/crc.remainders" .u32 [0, 498536548, 997073096, 651767980, 1994146192, 1802195444, 1303535960, 1342533948, 3988292384, 4027552580, 3604390888, 3412177804, 2607071920, 2262029012, 2685067896, 3183342108] :=
  Lib.tabIs_of_head gTab1 gTabType1 Tryz.underlying310 Tryz.underlying265 cellsE1 cellsT1 (laidMet_tail h)
set_option maxRecDepth 100000 in
theorem contract (H : Type) (enc : TypeId × Value → H) (W : World) (base : Nat) (args : Array Value) (ds gs : List (DataW H)) (before : List MemPlace)
    (hval : ∀ (j : Nat) t v, Tryz.f3.params[j]? = some t → args[j]? = some v → Value.okWide Tryz.prog W .any base t v)
    (hW : DataW.Whole enc Tryz.prog Tryz.f3.params.toList Rows.wholeLinkSpec.vars false W args.toList ds gs before) (hL : laidMetH Tryz.prog Rows.wholeLinkRow.laid W) :
    Calls Tryz.prog 3 args W fun e W' => ∃ v, e = .returned v ∧ Rows.wholeLinkSpec.post enc Tryz.prog Tryz.f3 false true false false W args v W' := by
  have hW' := hW
  obtain ⟨p, q, hA0, hV, rfl, hfz, hnd⟩ := hW
  have hA : DataW.TrodAll enc Tryz.prog W 0 (fun _ => true) true Tryz.f3.params.toList args.toList ds p := hA0
  rw [Tryz.params3] at hA hval
  have hA1 := hA
  obtain ⟨v0, vs0, d0, ds0, p0, q0, hargs, rfl, rfl, h0, r0⟩ := trodAll_cons hA
  obtain ⟨v1, vs1, d1, ds1, p1, q1, rfl, rfl, rfl, h1, r1⟩ := trodAll_cons r0
  obtain ⟨rfl, rfl, rfl⟩ := trodAll_nil r1
  obtain rfl : args = #[v0, v1] := by cases args; simp_all
  obtain ⟨rfl, rfl⟩ := trodVars_none hV
  have o0 := open_isWire (hval 0 27 v0 rfl rfl) h0
  have o1 := open_isSl Tryz.underlying28 opens16 (hval 1 28 v1 rfl rfl) h1
  clear hA0
  refine (walkWholeLink W v0 v1 o0 o1 (⟨tab_of (table1 hL) gTab1, val_of (table0 hL) gTab0⟩)).mono fun e W' ⟨he, bel⟩ => ?_
  subst he
  exact ⟨_, rfl, _, _, _, [], _, [], hW', trodAll_mk1 (shut_bool Tryz.underlying4 _), trodAll_below laidOut bel _ (by kernel_rfl) _ _ _ hA1, rfl, bel.frame _, fun h => by cases h⟩

/-- what the tables' initialisers lay -/
def fill0 : Obj → Obj
  | .cells _ t frozen => .cells #[.int .u8 7, .int .u8 11, .int .u8 13, .int .u8 14, .int .u8 19, .int .u8 21, .int .u8 22, .int .u8 25, .int .u8 26, .int .u8 28, .int .u8 35, .int .u8 37, .int .u8 38, .int .u8 41, .int .u8 42, .int .u8 44, .int .u8 49, .int .u8 50, .int .u8 52, .int .u8 56] t frozen
  | o => o
def fill1 : Obj → Obj
  | .cells _ t frozen => .cells #[.int .u32 0, .int .u32 498536548, .int .u32 997073096, .int .u32 651767980, .int .u32 1994146192, .int .u32 1802195444, .int .u32 1303535960, .int .u32 1342533948, .int .u32 3988292384, .int .u32 4027552580, .int .u32 3604390888, .int .u32 3412177804, .int .u32 2607071920, .int .u32 2262029012, .int .u32 2685067896, .int .u32 3183342108] t frozen
  | o => o
/-- a world for the witness: the settled one, the tables holding what their initialisers lay -/
noncomputable def laidWorld (os : Os) : World :=
  { World.holding Tryz.prog os ⟨#[], #[], []⟩ with heap := (((World.holding Tryz.prog os ⟨#[], #[], []⟩).heap.modify 0 fill0).modify 3 fill1) }
theorem laid_met (os : Os) : laidMet Tryz.prog Rows.wholeLinkRow.laid ((laidWorld os).forCall (fun _ _ => 0) ⟨#[], #[.agg #[.int .i64 0, .slice none 0 0, .int .i64 0, .int .i64 0, .int .i64 0, .int .i64 0, .slice none 0 0, .int .i64 0, .int .i64 0, .int .i64 0, .int .i64 0, .slice none 0 0, .slice none 0 0], .slice none 0 0], []⟩).memory :=
  laidMet_of_run' 8 (by kernel_rfl) (by kernel_rfl)
theorem reads (os : Os) {H : Type} (enc : TypeId × Value → H) : ∃ places, DataW.whole enc Tryz.prog ((laidWorld os).forCall (fun _ _ => 0) ⟨#[], #[.agg #[.int .i64 0, .slice none 0 0, .int .i64 0, .int .i64 0, .int .i64 0, .int .i64 0, .slice none 0 0, .int .i64 0, .int .i64 0, .int .i64 0, .int .i64 0, .slice none 0 0, .slice none 0 0], .slice none 0 0], []⟩).memory Tryz.f3.params.toList Rows.wholeLinkSpec.vars false ((#[.agg #[.int .i64 0, .slice none 0 0, .int .i64 0, .int .i64 0, .int .i64 0, .int .i64 0, .slice none 0 0, .int .i64 0, .int .i64 0, .int .i64 0, .int .i64 0, .slice none 0 0, .slice none 0 0], .slice none 0 0] : Array Value)).toList 8 = some ([.agg [.agg [.lit (.int .i64 0), .nil, .lit (.int .i64 0), .lit (.int .i64 0), .lit (.int .i64 0)], .agg [.lit (.int .i64 0), .nil, .lit (.int .i64 0), .lit (.int .i64 0), .lit (.int .i64 0)], .lit (.int .i64 0), .nil, .nil], .nil], [], places) :=
  ⟨[], by kernel_rfl⟩

set_option maxRecDepth 100000 in
theorem lifted (os : Os) (started : os.Started) (H : Type) (enc : TypeId × Value → H) (F : Stop.Interp) :
    ReturnsInHanded {} Tryz.checked os 3 .any ((OpenSpec.ofChange Rows.wholeLinkSpec).preRow enc Tryz.prog Tryz.f3 Rows.wholeLinkRow.domain false Rows.wholeLinkRow.laid) (((OpenSpec.ofChange Rows.wholeLinkSpec).at F).post enc Tryz.prog Tryz.f3 false true false false) := by
  obtain ⟨places, hx⟩ := reads os enc
  refine returnsInHanded_of_row (C := Tryz.checked) (s := OpenSpec.ofChange Rows.wholeLinkSpec) own started (by kernel_rfl) Tryz.func3
    (witness_row_at (enc := enc) (C := Tryz.checked) false (laidWorld os) #[.agg #[.int .i64 0, .slice none 0 0, .int .i64 0, .int .i64 0, .int .i64 0, .int .i64 0, .slice none 0 0, .int .i64 0, .int .i64 0, .int .i64 0, .int .i64 0, .slice none 0 0, .slice none 0 0], .slice none 0 0] rfl (by kernel_rfl) (by kernel_rfl) (by kernel_rfl)
      (OpenSpec.preRow_of_cond 8 hx (by kernel_rfl) (fun k hk => by cases hk) (by kernel_rfl) (laid_met os))) ?_
  intro W base args ds gs before hval hW _ _ _ hL _ _
  exact contract H enc W base args ds gs before hval hW hL

theorem said : Rows.WholeLinkSaid :=
  OpenClaim.holds_of_cond 3 Tryz.f3 rfl rfl rfl rfl rfl rfl rfl ⟨rfl, rfl, rfl, rfl, rfl⟩ rfl rfl rfl rfl rfl (by kernel_rfl) Tryz.func3 (by kernel_rfl)
    (of_decide_eq_true (by kernel_rfl)) (by unfold Func.isWrapper; first | (rw [if_pos (by decide +kernel)]; kernel_rfl) | (rw [if_neg (by decide +kernel)]; exact ⟨rfl, rfl⟩))
    (fun os started H enc _ F => by rw [OpenClaim.pre_eq_preRow]; exact lifted os started H enc F)

theorem plain (f : FuncId) (fn : Func) (hf : Tryz.pinned.checked.prog.funcNamed "fairlink/fairlinktop.WholeLink" = some f) (hfn : Tryz.pinned.checked.prog.funcs[f]? = some fn) :
    false = Tryz.pinned.checked.prog.looks [] ∧ ∀ (j : Nat) t, fn.params[j]? = some t → Tryz.pinned.checked.prog.wantsStandIn t = false := by
  obtain rfl : f = 3 := Option.some.inj ((show Tryz.prog.funcNamed "fairlink/fairlinktop.WholeLink" = some 3 by kernel_rfl).symm.trans hf) |>.symm
  obtain rfl : fn = Tryz.f3 := (Option.some.inj (Tryz.func3.symm.trans hfn)).symm
  refine ⟨by kernel_rfl, fun j t ht => ?_⟩
  rw [Tryz.params3] at ht
  have hm : t ∈ [27, 28] := by simpa using Array.mem_of_getElem? ht
  have hall : ([27, 28].all fun u => !Tryz.prog.wantsStandIn u) = true := by kernel_rfl
  exact (show Tryz.prog.wantsStandIn t = false by simpa using List.all_eq_true.1 hall t hm)

/-- the card -/
theorem card : Rows.WholeLinkCardSaid :=
  Claim7.holds_tied_plain_at .later [] _ _ _ _ said (fun _ h => by cases h) (by kernel_rfl) (fun _ h => by cases h) wholeLink_row_tie rfl ⟨rfl, rfl⟩ (by kernel_rfl) rfl plain (by kernel_rfl)
#print axioms card
end Go.Proofs.YtcbnhebiagdbiaaGreatDoor.wholeLink
