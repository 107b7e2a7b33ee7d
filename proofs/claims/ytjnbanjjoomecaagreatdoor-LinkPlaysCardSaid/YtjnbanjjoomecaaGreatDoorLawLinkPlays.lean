/- Whatever happens to a link, cR by cR, the errors of the events, the frames aV and cF, the bL and the quietness are the specified ones. -/
import Derived.Test.YtjnbanjjoomecaaGreatDoorCards
import Derived.Test.YtjnbanjjoomecaaGreatDoorTie
import Derived.Test.YtjnbanjjoomecaaGreatDoorPkA1
import Derived.Test.YtjnbanjjoomecaaGreatDoorPkC1
import Derived.Test.YtjnbanjjoomecaaGreatDoorWalkLinkPlays
import Derived.ProofKit
import Derived.OpenShut
import Derived.ChangeOld
import Derived.Deep.DeepHandedRow
import Derived.Lib.LaidTab
namespace Go.Proofs.YtjnbanjjoomecaaGreatDoor.linkPlays
open Go.ChangeShapes Go.WideShapes Go.ChangeAt Go.RowKit

theorem Qm : Tryz.prog.globalNamed "fairlink/linecode.valid" = some 0 := by kernel_rfl
theorem I6 : (Tryz.prog.globals[0]?).map (·.type) = some 208 := by kernel_rfl
theorem Pn : Tryz.prog.cellsOf 208 = 20 := by kernel_rfl
theorem Pp : Tryz.prog.cellsOf 5 = 1 := by kernel_rfl
theorem RV {W : World} (h : laidMetH Tryz.prog Rows.linkPlaysRow.laid W) : Lib.TabIs Tryz.prog W "fairlink/linecode.valid" .u8 [7, 11, 13, 14, 19, 21, 22, 25, 26, 28, 35, 37, 38, 41, 42, 44, 49, 50, 52, 56] :=
  Lib.tabIs_of_head Qm I6 Tryz.underlying208 Tryz.underlying5 Pp Pn h
theorem Ql : Tryz.prog.globalNamed "fairlink/crc.remainders" = some 1 := by kernel_rfl
theorem I5 : (Tryz.prog.globals[1]?).map (·.type) = some 268 := by kernel_rfl
theorem Pm : Tryz.prog.cellsOf 268 = 16 := by kernel_rfl
theorem Po : Tryz.prog.cellsOf 215 = 1 := by kernel_rfl
theorem RU {W : World} (h : laidMetH Tryz.prog Rows.linkPlaysRow.laid W) : Lib.TabIs Tryz.prog W "fairlink/crc.remainders" .u32 [0, 498536548, 997073096, 651767980, 1994146192, 1802195444, 1303535960, 1342533948, 3988292384, 4027552580, 3604390888, 3412177804, 2607071920, 2262029012, 2685067896, 3183342108] :=
  Lib.tabIs_of_head Ql I5 Tryz.underlying268 Tryz.underlying215 Po Pm (Ab h)
set_option maxRecDepth 100000 in
theorem contract (H : Type) (enc : TypeId × Value → H) (W : World) (base : Nat) (args : Array Value) (ds gs : List (DataW H)) (before : List MemPlace)
    (hval : ∀ (j : Nat) t v, Tryz.f3.params[j]? = some t → args[j]? = some v → Value.okWide Tryz.prog W .any base t v)
    (hW : DataW.Whole enc Tryz.prog Tryz.f3.params.toList Rows.linkPlaysSpec.vars false W args.toList ds gs before) (hL : laidMetH Tryz.prog Rows.linkPlaysRow.laid W) :
    Calls Tryz.prog 3 args W fun e W' => ∃ v, e = .returned v ∧ Rows.linkPlaysSpec.post enc Tryz.prog Tryz.f3 false true false false W args v W' := by
  have hW' := hW
  obtain ⟨p, q, hA0, hV, rfl, hfz, hnd⟩ := hW
  have hA : DataW.TrodAll enc Tryz.prog W 0 (fun _ => true) true Tryz.f3.params.toList args.toList ds p := hA0
  rw [Tryz.params3] at hA hval
  have hA1 := hA
  obtain ⟨v0, vs0, d0, ds0, p0, q0, hargs, rfl, rfl, h0, r0⟩ := trodAll_cons hA
  obtain ⟨v1, vs1, d1, ds1, p1, q1, rfl, rfl, rfl, h1, r1⟩ := trodAll_cons r0
  obtain ⟨rfl, rfl, rfl⟩ := trodAll_nil r1
  obtain rfl : args = #[v0, v1] := by cases args; simp_all
  obtain ⟨rfl, rfl⟩ := trodVars_none hV
  have o0 := EH (hval 0 27 v0 rfl rfl) h0
  have o1 := IL Tryz.underlying28 EG (hval 1 28 v1 rfl rfl) h1
  clear hA0
  refine (xe W v0 v1 o0 o1 (⟨RX (RU hL) Ql, RN (RV hL) Qm⟩)).mono fun e W' ⟨he, oU⟩ => ?_
  subst he
  exact ⟨_, rfl, _, _, _, [], _, [], hW', trodAll_mk1 (shut_bool Tryz.underlying4 _), pJ laidOut oU _ (by kernel_rfl) _ _ _ hA1, rfl, oU.frame _, fun h => by cases h⟩

/-- what the tables' initialisers lay -/
def aag : Obj → Obj
  | .cells _ t frozen => .cells #[.int .u8 7, .int .u8 11, .int .u8 13, .int .u8 14, .int .u8 19, .int .u8 21, .int .u8 22, .int .u8 25, .int .u8 26, .int .u8 28, .int .u8 35, .int .u8 37, .int .u8 38, .int .u8 41, .int .u8 42, .int .u8 44, .int .u8 49, .int .u8 50, .int .u8 52, .int .u8 56] t frozen
  | o => o
def aaf : Obj → Obj
  | .cells _ t frozen => .cells #[.int .u32 0, .int .u32 498536548, .int .u32 997073096, .int .u32 651767980, .int .u32 1994146192, .int .u32 1802195444, .int .u32 1303535960, .int .u32 1342533948, .int .u32 3988292384, .int .u32 4027552580, .int .u32 3604390888, .int .u32 3412177804, .int .u32 2607071920, .int .u32 2262029012, .int .u32 2685067896, .int .u32 3183342108] t frozen
  | o => o
/-- a world for the witness: the settled one, the tables holding what their initialisers lay -/
noncomputable def sI (os : Os) : World :=
  { World.holding Tryz.prog os ⟨#[], #[], []⟩ with heap := (((World.holding Tryz.prog os ⟨#[], #[], []⟩).heap.modify 0 aag).modify 1 aaf) }
theorem Mx (os : Os) : laidMet Tryz.prog Rows.linkPlaysRow.laid ((sI os).forCall (fun _ _ => 0) ⟨#[], #[.agg #[.int .i64 0, .slice none 0 0, .int .i64 0, .int .i64 0, .int .i64 0, .int .i64 0, .slice none 0 0, .int .i64 0, .int .i64 0, .int .i64 0, .int .i64 0, .slice none 0 0, .slice none 0 0], .slice none 0 0], []⟩).memory :=
  laidMet_of_run' 8 (by kernel_rfl) (by kernel_rfl)
theorem reads (os : Os) {H : Type} (enc : TypeId × Value → H) : ∃ places, DataW.whole enc Tryz.prog ((sI os).forCall (fun _ _ => 0) ⟨#[], #[.agg #[.int .i64 0, .slice none 0 0, .int .i64 0, .int .i64 0, .int .i64 0, .int .i64 0, .slice none 0 0, .int .i64 0, .int .i64 0, .int .i64 0, .int .i64 0, .slice none 0 0, .slice none 0 0], .slice none 0 0], []⟩).memory Tryz.f3.params.toList Rows.linkPlaysSpec.vars false ((#[.agg #[.int .i64 0, .slice none 0 0, .int .i64 0, .int .i64 0, .int .i64 0, .int .i64 0, .slice none 0 0, .int .i64 0, .int .i64 0, .int .i64 0, .int .i64 0, .slice none 0 0, .slice none 0 0], .slice none 0 0] : Array Value)).toList 8 = some ([.agg [.agg [.lit (.int .i64 0), .nil, .lit (.int .i64 0), .lit (.int .i64 0), .lit (.int .i64 0)], .agg [.lit (.int .i64 0), .nil, .lit (.int .i64 0), .lit (.int .i64 0), .lit (.int .i64 0)], .lit (.int .i64 0), .nil, .nil], .nil], [], places) :=
  ⟨[], by kernel_rfl⟩

set_option maxRecDepth 100000 in
theorem lifted (os : Os) (started : os.Started) (H : Type) (enc : TypeId × Value → H) (F : Stop.Interp) :
    ReturnsInHanded {} Tryz.checked os 3 .any ((OpenSpec.ofChange Rows.linkPlaysSpec).preRow enc Tryz.prog Tryz.f3 Rows.linkPlaysRow.domain false Rows.linkPlaysRow.laid) (((OpenSpec.ofChange Rows.linkPlaysSpec).at F).post enc Tryz.prog Tryz.f3 false true false false) := by
  obtain ⟨places, hx⟩ := reads os enc
  refine returnsInHanded_of_row (C := Tryz.checked) (s := OpenSpec.ofChange Rows.linkPlaysSpec) own started (by kernel_rfl) Tryz.func3
    (witness_row_at (enc := enc) (C := Tryz.checked) false (sI os) #[.agg #[.int .i64 0, .slice none 0 0, .int .i64 0, .int .i64 0, .int .i64 0, .int .i64 0, .slice none 0 0, .int .i64 0, .int .i64 0, .int .i64 0, .int .i64 0, .slice none 0 0, .slice none 0 0], .slice none 0 0] rfl (by kernel_rfl) (by kernel_rfl) (by kernel_rfl)
      (OpenSpec.preRow_of_cond 8 hx (by kernel_rfl) (fun k hk => by cases hk) (by kernel_rfl) (Mx os))) ?_
  intro W base args ds gs before hval hW _ _ _ hL _ _
  exact contract H enc W base args ds gs before hval hW hL

theorem said : Rows.LinkPlaysSaid :=
  OpenClaim.holds_of_cond 3 Tryz.f3 rfl rfl rfl rfl rfl rfl rfl ⟨rfl, rfl, rfl, rfl, rfl⟩ rfl rfl rfl rfl rfl (by kernel_rfl) Tryz.func3 (by kernel_rfl)
    (of_decide_eq_true (by kernel_rfl)) (by unfold Func.isWrapper; first | (rw [if_pos (by decide +kernel)]; kernel_rfl) | (rw [if_neg (by decide +kernel)]; exact ⟨rfl, rfl⟩))
    (fun os started H enc _ F => by rw [OpenClaim.pre_eq_preRow]; exact lifted os started H enc F)

theorem plain (f : FuncId) (fn : Func) (hf : Tryz.pinned.checked.prog.funcNamed "fairlink/fairlinklaw12.LinkPlays" = some f) (hfn : Tryz.pinned.checked.prog.funcs[f]? = some fn) :
    false = Tryz.pinned.checked.prog.looks [] ∧ ∀ (j : Nat) t, fn.params[j]? = some t → Tryz.pinned.checked.prog.wantsStandIn t = false := by
  obtain rfl : f = 3 := Option.some.inj ((show Tryz.prog.funcNamed "fairlink/fairlinklaw12.LinkPlays" = some 3 by kernel_rfl).symm.trans hf) |>.symm
  obtain rfl : fn = Tryz.f3 := (Option.some.inj (Tryz.func3.symm.trans hfn)).symm
  refine ⟨by kernel_rfl, fun j t ht => ?_⟩
  rw [Tryz.params3] at ht
  have hm : t ∈ [27, 28] := by simpa using Array.mem_of_getElem? ht
  have hall : ([27, 28].all fun u => !Tryz.prog.wantsStandIn u) = true := by kernel_rfl
  exact (show Tryz.prog.wantsStandIn t = false by simpa using List.all_eq_true.1 hall t hm)

/-- the card -/
theorem card : Rows.LinkPlaysCardSaid :=
  Claim7.holds_tied_plain_at .later [] _ _ _ _ said (fun _ h => by cases h) (by kernel_rfl) (fun _ h => by cases h) linkPlays_row_tie rfl ⟨rfl, rfl⟩ (by kernel_rfl) rfl plain (by kernel_rfl)
#print axioms card
end Go.Proofs.YtjnbanjjoomecaaGreatDoor.linkPlays
