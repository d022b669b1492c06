/-
  DERIVED. GIVEN WITH THE SEED: THE PROGRAM's TIES (one call each: nine closed facts by the kernel) AND EACH ROW's TIE, after the 31st guide's Derived/Test/Toyas{Tie, Card}.lean. No idea stands in it: it is a product of the set-up. Laid BY PROGRAM, IN A SANDBOX (cutbox-door.mjs). By AI agents, Wed Nov 11 2026. No macro, syntax, notation, axiom, sorry.
-/
import Derived.Test.YtokblanedeiegaaDoorRows
import Derived.LaidByTextLater
import Derived.SevenTiedAt
import Derived.LaidSub
import Derived.LaidOnce
namespace Go.Proofs.YtokblanedeiegaaDoor
open Go
set_option maxRecDepth 100000
theorem seatTie1 : Tryd.prog.laidByTextLater [("chandlery/live.kind", Rows.laid_chandlery_live_kind), ("chandlery/live.number", Rows.laid_chandlery_live_number)] [.wider, .wider] true :=
  Program.laidByTextLater_by_one 19 8 3 (by kernel_rfl) (by kernel_rfl) (by kernel_rfl) (by kernel_rfl) (by kernel_rfl) (by kernel_rfl) (fun _ _ => by kernel_rfl)
theorem noOwnUnsafe : Tryd.pinned.checked.prog.headLifts.contains "ownunsafe" = false := by kernel_rfl
theorem tie : Tryd.prog.laidByTextLater [("chandlery/live.kind", Rows.laid_chandlery_live_kind), ("chandlery/live.number", Rows.laid_chandlery_live_number)] [.wider, .wider] true :=
  Program.laidByTextLater.sub seatTie1 ["chandlery/live.kind", "chandlery/live.number"] (by kernel_rfl) (by kernel_rfl)
theorem liveSizes_row_tie : Rows.liveSizesRow.laidByTextAt .later Tryd.pinned [.wider, .wider] true :=
  OpenClaim.laidByTextAt_later rfl rfl tie noOwnUnsafe
theorem liveMoves_row_tie : Rows.liveMovesRow.laidByTextAt .later Tryd.pinned [.wider, .wider] true :=
  OpenClaim.laidByTextAt_later rfl rfl tie noOwnUnsafe
theorem liveOnce_row_tie : Rows.liveOnceRow.laidByTextAt .later Tryd.pinned [.wider, .wider] true :=
  OpenClaim.laidByTextAt_later rfl rfl tie noOwnUnsafe
theorem liveApart_row_tie : Rows.liveApartRow.laidByTextAt .later Tryd.pinned [.wider, .wider] true :=
  OpenClaim.laidByTextAt_later rfl rfl tie noOwnUnsafe
theorem liveDoes_row_tie : Rows.liveDoesRow.laidByTextAt .later Tryd.pinned [.wider, .wider] true :=
  OpenClaim.laidByTextAt_later rfl rfl tie noOwnUnsafe
theorem liveSizesUpto_row_tie : Rows.liveSizesUptoRow.laidByTextAt .later Tryd.pinned [.wider, .wider] true :=
  OpenClaim.laidByTextAt_later rfl rfl tie noOwnUnsafe
theorem liveMovesUpto_row_tie : Rows.liveMovesUptoRow.laidByTextAt .later Tryd.pinned [.wider, .wider] true :=
  OpenClaim.laidByTextAt_later rfl rfl tie noOwnUnsafe
theorem liveOnceUpto_row_tie : Rows.liveOnceUptoRow.laidByTextAt .later Tryd.pinned [.wider, .wider] true :=
  OpenClaim.laidByTextAt_later rfl rfl tie noOwnUnsafe
theorem liveApartUpto_row_tie : Rows.liveApartUptoRow.laidByTextAt .later Tryd.pinned [.wider, .wider] true :=
  OpenClaim.laidByTextAt_later rfl rfl tie noOwnUnsafe
theorem liveDoesUpto_row_tie : Rows.liveDoesUptoRow.laidByTextAt .later Tryd.pinned [.wider, .wider] true :=
  OpenClaim.laidByTextAt_later rfl rfl tie noOwnUnsafe
end Go.Proofs.YtokblanedeiegaaDoor
