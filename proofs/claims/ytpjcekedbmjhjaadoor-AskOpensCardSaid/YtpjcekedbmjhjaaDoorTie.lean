/-
  DERIVED. GIVEN WITH THE SEED: THE PROGRAM's TIES (one call each: nine closed facts by the kernel) AND EACH ROW's TIE, after the 31st guide's Derived/Test/Toyas{Tie, Card}.lean. No idea stands in it: it is a product of the set-up. Laid BY PROGRAM, IN A SANDBOX (cutbox-door.mjs). By AI agents, Wed Nov 11 2026. No macro, syntax, notation, axiom, sorry.
-/
import Derived.Test.YtpjcekedbmjhjaaDoorRows
import Derived.LaidByTextLater
import Derived.SevenTiedAt
import Derived.LaidSub
import Derived.LaidOnce
namespace Go.Proofs.YtpjcekedbmjhjaaDoor
open Go
set_option maxRecDepth 100000
theorem seatTie1 : Tryd.prog.laidByTextLater [("chandlery/word.fields", Rows.laid_chandlery_word_fields), ("chandlery/heart.kinds", Rows.laid_chandlery_heart_kinds), ("chandlery/live.kind", Rows.laid_chandlery_live_kind), ("chandlery/live.number", Rows.laid_chandlery_live_number)] [.wider, .wider, .wider, .wider] true :=
  Program.laidByTextLater_by_one 35 8 9 (by kernel_rfl) (by kernel_rfl) (by kernel_rfl) (by kernel_rfl) (by kernel_rfl) (by kernel_rfl) (fun _ _ => by kernel_rfl)
theorem noOwnUnsafe : Tryd.pinned.checked.prog.headLifts.contains "ownunsafe" = false := by kernel_rfl
theorem tie : Tryd.prog.laidByTextLater [("chandlery/word.fields", Rows.laid_chandlery_word_fields), ("chandlery/heart.kinds", Rows.laid_chandlery_heart_kinds), ("chandlery/live.kind", Rows.laid_chandlery_live_kind), ("chandlery/live.number", Rows.laid_chandlery_live_number)] [.wider, .wider, .wider, .wider] true :=
  Program.laidByTextLater.sub seatTie1 ["chandlery/word.fields", "chandlery/heart.kinds", "chandlery/live.kind", "chandlery/live.number"] (by kernel_rfl) (by kernel_rfl)
theorem askOpens_row_tie : Rows.askOpensRow.laidByTextAt .later Tryd.pinned [.wider, .wider, .wider, .wider] true :=
  OpenClaim.laidByTextAt_later rfl rfl tie noOwnUnsafe
theorem askOpensUpto_row_tie : Rows.askOpensUptoRow.laidByTextAt .later Tryd.pinned [.wider, .wider, .wider, .wider] true :=
  OpenClaim.laidByTextAt_later rfl rfl tie noOwnUnsafe
end Go.Proofs.YtpjcekedbmjhjaaDoor
