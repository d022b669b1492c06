/-
  DERIVED. GIVEN WITH THE SEED: THE CARDS: each row of YtcicfbccdgkfhaaDoorRows.lean that lists a variable, with what it lists TIED to the program's text (the seventh form; the later family's looks); each row that meets fmt, with fmt's text TOLD by the authors' own Lean function (tested against real Go, not proved from fmt's source: count such statements apart). THE CARD IS WHAT COUNTS. Prove the row's statement (the work); the ties are given (YtcicfbccdgkfhaaDoorTie.lean); close each card by the builder's one call (the guide's Derived/Test/ToyasCard.lean, 'card_holds'). Laid BY PROGRAM, IN A SANDBOX (cutbox-door.mjs). By AI agents, Wed Nov 11 2026. No macro, syntax, notation, axiom, sorry.
-/
import Derived.Test.YtcicfbccdgkfhaaDoorRows
import GoSem.ClaimSeven
namespace Go.Proofs.YtcicfbccdgkfhaaDoor
namespace Rows

/-- THE TIED CARD OF 'chandlerytop.WholeTags'. -/
def wholeTagsCard : Claim7 := { stood := { row := wholeTagsRow, standIns := [], harness := (true, "5f814a1b3796dce692e379157d0615717fc4e4eff19298de82d81b8e70d2c3c3"), looks := false }, kinds := [], alts := [], laidByText := true, laidKinds := [.wider], laidTests := true, laidLooks := .later }
def WholeTagsCardSaid : Prop := Claim7.holds Tryd.pinned (.plain (OpenSpec.ofChange wholeTagsSpec)) wholeTagsCard

/-- THE TIED CARD OF 'chandlerytop.WholeShops'. -/
def wholeShopsCard : Claim7 := { stood := { row := wholeShopsRow, standIns := [], harness := (true, "5f814a1b3796dce692e379157d0615717fc4e4eff19298de82d81b8e70d2c3c3"), looks := false }, kinds := [], alts := [], laidByText := true, laidKinds := [.wider, .wider, .wider, .wider], laidTests := true, laidLooks := .later }
def WholeShopsCardSaid : Prop := Claim7.holds Tryd.pinned (.plain (OpenSpec.ofChange wholeShopsSpec)) wholeShopsCard

/-- THE TIED CARD OF 'chandlerytop.WholeFlow'. -/
def wholeFlowCard : Claim7 := { stood := { row := wholeFlowRow, standIns := [], harness := (true, "5f814a1b3796dce692e379157d0615717fc4e4eff19298de82d81b8e70d2c3c3"), looks := false }, kinds := [], alts := [], laidByText := true, laidKinds := [.data, .wider, .wider], laidTests := true, laidLooks := .later }
def WholeFlowCardSaid : Prop := Claim7.holds Tryd.pinned (.plain (OpenSpec.ofChange wholeFlowSpec)) wholeFlowCard

/-- THE TIED CARD OF 'chandlerytop.WholeStill'. -/
def wholeStillCard : Claim7 := { stood := { row := wholeStillRow, standIns := [], harness := (true, "5f814a1b3796dce692e379157d0615717fc4e4eff19298de82d81b8e70d2c3c3"), looks := false }, kinds := [], alts := [], laidByText := true, laidKinds := [.wider], laidTests := true, laidLooks := .later }
def WholeStillCardSaid : Prop := Claim7.holds Tryd.pinned (.plain (OpenSpec.ofChange wholeStillSpec)) wholeStillCard

/-- THE SECOND FORM's CARD OF 'chandlerytop.WholeTags'. -/
def wholeTagsUptoCard : Claim7 := { stood := { row := wholeTagsUptoRow, standIns := [], harness := (true, "5f814a1b3796dce692e379157d0615717fc4e4eff19298de82d81b8e70d2c3c3"), looks := false }, kinds := [], alts := [], laidByText := true, laidKinds := [.wider], laidTests := true, laidLooks := .later }
def WholeTagsUptoCardSaid : Prop := Claim7.holds Tryd.pinned (.plain (OpenSpec.upto wholeTagsSpec)) wholeTagsUptoCard

/-- THE SECOND FORM's CARD OF 'chandlerytop.WholeShops'. -/
def wholeShopsUptoCard : Claim7 := { stood := { row := wholeShopsUptoRow, standIns := [], harness := (true, "5f814a1b3796dce692e379157d0615717fc4e4eff19298de82d81b8e70d2c3c3"), looks := false }, kinds := [], alts := [], laidByText := true, laidKinds := [.wider, .wider, .wider, .wider], laidTests := true, laidLooks := .later }
def WholeShopsUptoCardSaid : Prop := Claim7.holds Tryd.pinned (.plain (OpenSpec.upto wholeShopsSpec)) wholeShopsUptoCard

/-- THE SECOND FORM's CARD OF 'chandlerytop.WholeFlow'. -/
def wholeFlowUptoCard : Claim7 := { stood := { row := wholeFlowUptoRow, standIns := [], harness := (true, "5f814a1b3796dce692e379157d0615717fc4e4eff19298de82d81b8e70d2c3c3"), looks := false }, kinds := [], alts := [], laidByText := true, laidKinds := [.data, .wider, .wider], laidTests := true, laidLooks := .later }
def WholeFlowUptoCardSaid : Prop := Claim7.holds Tryd.pinned (.plain (OpenSpec.upto wholeFlowSpec)) wholeFlowUptoCard

/-- THE SECOND FORM's CARD OF 'chandlerytop.WholeStill'. -/
def wholeStillUptoCard : Claim7 := { stood := { row := wholeStillUptoRow, standIns := [], harness := (true, "5f814a1b3796dce692e379157d0615717fc4e4eff19298de82d81b8e70d2c3c3"), looks := false }, kinds := [], alts := [], laidByText := true, laidKinds := [.wider], laidTests := true, laidLooks := .later }
def WholeStillUptoCardSaid : Prop := Claim7.holds Tryd.pinned (.plain (OpenSpec.upto wholeStillSpec)) wholeStillUptoCard
end Rows
end Go.Proofs.YtcicfbccdgkfhaaDoor
