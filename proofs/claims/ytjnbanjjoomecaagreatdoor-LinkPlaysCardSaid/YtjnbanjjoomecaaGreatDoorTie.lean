/-
  DERIVED. GIVEN WITH THE SEED: THE PROGRAM's TIES (one call each: nine closed facts by the kernel) AND EACH ROW's TIE, after the 31st guide's Derived/Test/Toyas{Tie, Card}.lean. No idea stands in it: it is a product of the set-up. Laid BY PROGRAM, IN A SANDBOX (cutbox-door.mjs). By AI agents, Wed Nov 11 2026. No macro, syntax, notation, axiom, sorry.
-/
import Derived.Test.YtjnbanjjoomecaaGreatDoorRows
import Derived.LaidByTextLater
import Derived.SevenTiedAt
import Derived.LaidSub
import Derived.LaidOnce
namespace Go.Proofs.YtjnbanjjoomecaaGreatDoor
open Go
set_option maxRecDepth 100000
theorem seatTie1 : Tryz.prog.laidByTextLater [("fairlink/linecode.valid", Rows.laid_fairlink_linecode_valid), ("fairlink/crc.remainders", Rows.laid_fairlink_crc_remainders)] [.data, .data] true :=
  Program.laidByTextLater_by_one 19 8 21 (by kernel_rfl) (by kernel_rfl) (by kernel_rfl) (by kernel_rfl) (by kernel_rfl) (by kernel_rfl) (fun _ _ => by kernel_rfl)
theorem noOwnUnsafe : Tryz.pinned.checked.prog.headLifts.contains "ownunsafe" = false := by kernel_rfl
theorem tie : Tryz.prog.laidByTextLater [("fairlink/linecode.valid", Rows.laid_fairlink_linecode_valid), ("fairlink/crc.remainders", Rows.laid_fairlink_crc_remainders)] [.data, .data] true :=
  Program.laidByTextLater.sub seatTie1 ["fairlink/linecode.valid", "fairlink/crc.remainders"] (by kernel_rfl) (by kernel_rfl)
theorem linkPlays_row_tie : Rows.linkPlaysRow.laidByTextAt .later Tryz.pinned [.data, .data] true :=
  OpenClaim.laidByTextAt_later rfl rfl tie noOwnUnsafe
theorem linkPlaysUpto_row_tie : Rows.linkPlaysUptoRow.laidByTextAt .later Tryz.pinned [.data, .data] true :=
  OpenClaim.laidByTextAt_later rfl rfl tie noOwnUnsafe
end Go.Proofs.YtjnbanjjoomecaaGreatDoor
