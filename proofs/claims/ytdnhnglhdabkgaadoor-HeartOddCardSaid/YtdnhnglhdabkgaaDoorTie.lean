/-
  DERIVED. GIVEN WITH THE SEED: THE PROGRAM's TIES (one call each: nine closed facts by the kernel) AND EACH ROW's TIE, after the 31st guide's Derived/Test/Toyas{Tie, Card}.lean. No idea stands in it: it is a product of the set-up. Laid BY PROGRAM, IN A SANDBOX (cutbox-door.mjs). By AI agents, Wed Nov 11 2026. No macro, syntax, notation, axiom, sorry.
-/
import Derived.Test.YtdnhnglhdabkgaaDoorRows
import Derived.LaidByTextLater
import Derived.SevenTiedAt
import Derived.LaidSub
import Derived.LaidOnce
namespace Go.Proofs.YtdnhnglhdabkgaaDoor
open Go
set_option maxRecDepth 100000
theorem seatTie1 : Tryd.prog.laidByTextLater [("chandlery/heart.asks", Rows.laid_chandlery_heart_asks), ("chandlery/heart.kinds", Rows.laid_chandlery_heart_kinds)] [.wider, .wider] true :=
  Program.laidByTextLater_by_one 23 8 5 (by kernel_rfl) (by kernel_rfl) (by kernel_rfl) (by kernel_rfl) (by kernel_rfl) (by kernel_rfl) (fun _ _ => by kernel_rfl)
theorem noOwnUnsafe : Tryd.pinned.checked.prog.headLifts.contains "ownunsafe" = false := by kernel_rfl
theorem tie : Tryd.prog.laidByTextLater [("chandlery/heart.asks", Rows.laid_chandlery_heart_asks), ("chandlery/heart.kinds", Rows.laid_chandlery_heart_kinds)] [.wider, .wider] true :=
  Program.laidByTextLater.sub seatTie1 ["chandlery/heart.asks", "chandlery/heart.kinds"] (by kernel_rfl) (by kernel_rfl)
theorem heartRuns_row_tie : Rows.heartRunsRow.laidByTextAt .later Tryd.pinned [.wider, .wider] true :=
  OpenClaim.laidByTextAt_later rfl rfl tie noOwnUnsafe
theorem heartDoes_row_tie : Rows.heartDoesRow.laidByTextAt .later Tryd.pinned [.wider, .wider] true :=
  OpenClaim.laidByTextAt_later rfl rfl tie noOwnUnsafe
theorem heartOdd_row_tie : Rows.heartOddRow.laidByTextAt .later Tryd.pinned [.wider, .wider] true :=
  OpenClaim.laidByTextAt_later rfl rfl tie noOwnUnsafe
theorem heartBack_row_tie : Rows.heartBackRow.laidByTextAt .later Tryd.pinned [.wider, .wider] true :=
  OpenClaim.laidByTextAt_later rfl rfl tie noOwnUnsafe
theorem heartKeeps_row_tie : Rows.heartKeepsRow.laidByTextAt .later Tryd.pinned [.wider, .wider] true :=
  OpenClaim.laidByTextAt_later rfl rfl tie noOwnUnsafe
theorem heartRunsUpto_row_tie : Rows.heartRunsUptoRow.laidByTextAt .later Tryd.pinned [.wider, .wider] true :=
  OpenClaim.laidByTextAt_later rfl rfl tie noOwnUnsafe
theorem heartDoesUpto_row_tie : Rows.heartDoesUptoRow.laidByTextAt .later Tryd.pinned [.wider, .wider] true :=
  OpenClaim.laidByTextAt_later rfl rfl tie noOwnUnsafe
theorem heartOddUpto_row_tie : Rows.heartOddUptoRow.laidByTextAt .later Tryd.pinned [.wider, .wider] true :=
  OpenClaim.laidByTextAt_later rfl rfl tie noOwnUnsafe
theorem heartBackUpto_row_tie : Rows.heartBackUptoRow.laidByTextAt .later Tryd.pinned [.wider, .wider] true :=
  OpenClaim.laidByTextAt_later rfl rfl tie noOwnUnsafe
theorem heartKeepsUpto_row_tie : Rows.heartKeepsUptoRow.laidByTextAt .later Tryd.pinned [.wider, .wider] true :=
  OpenClaim.laidByTextAt_later rfl rfl tie noOwnUnsafe
end Go.Proofs.YtdnhnglhdabkgaaDoor
