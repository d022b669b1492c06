/-
  DERIVED. GIVEN WITH THE SEED: THE PROGRAM's TIES (one call each: nine closed facts by the kernel) AND EACH ROW's TIE, after the 31st guide's Derived/Test/Toyas{Tie, Card}.lean. No idea stands in it: it is a product of the set-up. Laid BY PROGRAM, IN A SANDBOX (cutbox-door.mjs). By AI agents, Wed Nov 11 2026. No macro, syntax, notation, axiom, sorry.
-/
import Derived.Test.YtcicfbccdgkfhaaDoorRows
import Derived.LaidByTextLater
import Derived.SevenTiedAt
import Derived.LaidSub
import Derived.LaidOnce
namespace Go.Proofs.YtcicfbccdgkfhaaDoor
open Go
set_option maxRecDepth 100000
theorem seatTie1 : Tryd.prog.laidByTextLater [("chandlery/word.fields", Rows.laid_chandlery_word_fields), ("math/bits.deBruijn64tab", Rows.laid_math_bits_deBruijn64tab), ("chandlery/heart.asks", Rows.laid_chandlery_heart_asks), ("chandlery/heart.kinds", Rows.laid_chandlery_heart_kinds), ("chandlery/live.kind", Rows.laid_chandlery_live_kind), ("chandlery/live.number", Rows.laid_chandlery_live_number)] [.wider, .data, .wider, .wider, .wider, .wider] true :=
  Program.laidByTextLater_by_one 47 8 65 (by kernel_rfl) (by kernel_rfl) (by kernel_rfl) (by kernel_rfl) (by kernel_rfl) (by kernel_rfl) (fun _ _ => by kernel_rfl)
theorem noOwnUnsafe : Tryd.pinned.checked.prog.headLifts.contains "ownunsafe" = false := by kernel_rfl
theorem tie : Tryd.prog.laidByTextLater [("chandlery/word.fields", Rows.laid_chandlery_word_fields)] [.wider] true :=
  Program.laidByTextLater.sub seatTie1 ["chandlery/word.fields"] (by kernel_rfl) (by kernel_rfl)
theorem wholeTags_row_tie : Rows.wholeTagsRow.laidByTextAt .later Tryd.pinned [.wider] true :=
  OpenClaim.laidByTextAt_later rfl rfl tie noOwnUnsafe
theorem wholeStill_row_tie : Rows.wholeStillRow.laidByTextAt .later Tryd.pinned [.wider] true :=
  OpenClaim.laidByTextAt_later rfl rfl tie noOwnUnsafe
theorem tie2 : Tryd.prog.laidByTextLater [("chandlery/word.fields", Rows.laid_chandlery_word_fields), ("chandlery/heart.kinds", Rows.laid_chandlery_heart_kinds), ("chandlery/live.kind", Rows.laid_chandlery_live_kind), ("chandlery/live.number", Rows.laid_chandlery_live_number)] [.wider, .wider, .wider, .wider] true :=
  Program.laidByTextLater.sub seatTie1 ["chandlery/word.fields", "chandlery/heart.kinds", "chandlery/live.kind", "chandlery/live.number"] (by kernel_rfl) (by kernel_rfl)
theorem wholeShops_row_tie : Rows.wholeShopsRow.laidByTextAt .later Tryd.pinned [.wider, .wider, .wider, .wider] true :=
  OpenClaim.laidByTextAt_later rfl rfl tie2 noOwnUnsafe
theorem tie3 : Tryd.prog.laidByTextLater [("math/bits.deBruijn64tab", Rows.laid_math_bits_deBruijn64tab), ("chandlery/heart.asks", Rows.laid_chandlery_heart_asks), ("chandlery/heart.kinds", Rows.laid_chandlery_heart_kinds)] [.data, .wider, .wider] true :=
  Program.laidByTextLater.sub seatTie1 ["math/bits.deBruijn64tab", "chandlery/heart.asks", "chandlery/heart.kinds"] (by kernel_rfl) (by kernel_rfl)
theorem wholeFlow_row_tie : Rows.wholeFlowRow.laidByTextAt .later Tryd.pinned [.data, .wider, .wider] true :=
  OpenClaim.laidByTextAt_later rfl rfl tie3 noOwnUnsafe
theorem wholeTagsUpto_row_tie : Rows.wholeTagsUptoRow.laidByTextAt .later Tryd.pinned [.wider] true :=
  OpenClaim.laidByTextAt_later rfl rfl tie noOwnUnsafe
theorem wholeShopsUpto_row_tie : Rows.wholeShopsUptoRow.laidByTextAt .later Tryd.pinned [.wider, .wider, .wider, .wider] true :=
  OpenClaim.laidByTextAt_later rfl rfl tie2 noOwnUnsafe
theorem wholeFlowUpto_row_tie : Rows.wholeFlowUptoRow.laidByTextAt .later Tryd.pinned [.data, .wider, .wider] true :=
  OpenClaim.laidByTextAt_later rfl rfl tie3 noOwnUnsafe
theorem wholeStillUpto_row_tie : Rows.wholeStillUptoRow.laidByTextAt .later Tryd.pinned [.wider] true :=
  OpenClaim.laidByTextAt_later rfl rfl tie noOwnUnsafe
end Go.Proofs.YtcicfbccdgkfhaaDoor
