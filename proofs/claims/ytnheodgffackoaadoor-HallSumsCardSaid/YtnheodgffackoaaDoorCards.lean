/-
  DERIVED. GIVEN WITH THE SEED: THE CARDS: each row of YtnheodgffackoaaDoorRows.lean that lists a variable, with what it lists TIED to the program's text (the seventh form; the later family's looks); each row that meets fmt, with fmt's text TOLD by the authors' own Lean function (tested against real Go, not proved from fmt's source: count such statements apart). THE CARD IS WHAT COUNTS. Prove the row's statement (the work); the ties are given (YtnheodgffackoaaDoorTie.lean); close each card by the builder's one call (the guide's Derived/Test/ToyasCard.lean, 'card_holds'). Laid BY PROGRAM, IN A SANDBOX (cutbox-door.mjs). By AI agents, Wed Nov 11 2026. No macro, syntax, notation, axiom, sorry.
-/
import Derived.Test.YtnheodgffackoaaDoorRows
import GoSem.ClaimSeven
namespace Go.Proofs.YtnheodgffackoaaDoor
namespace Rows

/-- THE TIED CARD OF 'chandlerylaw10.HallSums'. -/
def hallSumsCard : Claim7 := { stood := { row := hallSumsRow, standIns := [], harness := (true, "caa388937c005aaaaa0e168f403c42c649ab2771adc2d8b6ebf6b1ed04a29fdd"), looks := false }, kinds := [], alts := [], laidByText := true, laidKinds := [.wider], laidTests := true, laidLooks := .later }
def HallSumsCardSaid : Prop := Claim7.holds Tryd.pinned (.plain (OpenSpec.ofChange hallSumsSpec)) hallSumsCard

/-- THE TIED CARD OF 'chandlerylaw10.HallBounds'. -/
def hallBoundsCard : Claim7 := { stood := { row := hallBoundsRow, standIns := [], harness := (true, "caa388937c005aaaaa0e168f403c42c649ab2771adc2d8b6ebf6b1ed04a29fdd"), looks := false }, kinds := [], alts := [], laidByText := true, laidKinds := [.wider], laidTests := true, laidLooks := .later }
def HallBoundsCardSaid : Prop := Claim7.holds Tryd.pinned (.plain (OpenSpec.ofChange hallBoundsSpec)) hallBoundsCard

/-- THE TIED CARD OF 'chandlerylaw10.HallOrders'. -/
def hallOrdersCard : Claim7 := { stood := { row := hallOrdersRow, standIns := [], harness := (true, "caa388937c005aaaaa0e168f403c42c649ab2771adc2d8b6ebf6b1ed04a29fdd"), looks := false }, kinds := [], alts := [], laidByText := true, laidKinds := [.wider], laidTests := true, laidLooks := .later }
def HallOrdersCardSaid : Prop := Claim7.holds Tryd.pinned (.plain (OpenSpec.ofChange hallOrdersSpec)) hallOrdersCard

/-- THE TIED CARD OF 'chandlerylaw10.HallAlone'. -/
def hallAloneCard : Claim7 := { stood := { row := hallAloneRow, standIns := [], harness := (true, "caa388937c005aaaaa0e168f403c42c649ab2771adc2d8b6ebf6b1ed04a29fdd"), looks := false }, kinds := [], alts := [], laidByText := true, laidKinds := [.wider], laidTests := true, laidLooks := .later }
def HallAloneCardSaid : Prop := Claim7.holds Tryd.pinned (.plain (OpenSpec.ofChange hallAloneSpec)) hallAloneCard

/-- THE TIED CARD OF 'chandlerylaw10.HallOne'. -/
def hallOneCard : Claim7 := { stood := { row := hallOneRow, standIns := [], harness := (true, "caa388937c005aaaaa0e168f403c42c649ab2771adc2d8b6ebf6b1ed04a29fdd"), looks := false }, kinds := [], alts := [], laidByText := true, laidKinds := [.wider], laidTests := true, laidLooks := .later }
def HallOneCardSaid : Prop := Claim7.holds Tryd.pinned (.plain (OpenSpec.ofChange hallOneSpec)) hallOneCard

/-- THE TIED CARD OF 'chandlerylaw10.HallTwo'. -/
def hallTwoCard : Claim7 := { stood := { row := hallTwoRow, standIns := [], harness := (true, "caa388937c005aaaaa0e168f403c42c649ab2771adc2d8b6ebf6b1ed04a29fdd"), looks := false }, kinds := [], alts := [], laidByText := true, laidKinds := [.wider], laidTests := true, laidLooks := .later }
def HallTwoCardSaid : Prop := Claim7.holds Tryd.pinned (.plain (OpenSpec.ofChange hallTwoSpec)) hallTwoCard

/-- THE SECOND FORM's CARD OF 'chandlerylaw10.HallSums'. -/
def hallSumsUptoCard : Claim7 := { stood := { row := hallSumsUptoRow, standIns := [], harness := (true, "caa388937c005aaaaa0e168f403c42c649ab2771adc2d8b6ebf6b1ed04a29fdd"), looks := false }, kinds := [], alts := [], laidByText := true, laidKinds := [.wider], laidTests := true, laidLooks := .later }
def HallSumsUptoCardSaid : Prop := Claim7.holds Tryd.pinned (.plain (OpenSpec.upto hallSumsSpec)) hallSumsUptoCard

/-- THE SECOND FORM's CARD OF 'chandlerylaw10.HallBounds'. -/
def hallBoundsUptoCard : Claim7 := { stood := { row := hallBoundsUptoRow, standIns := [], harness := (true, "caa388937c005aaaaa0e168f403c42c649ab2771adc2d8b6ebf6b1ed04a29fdd"), looks := false }, kinds := [], alts := [], laidByText := true, laidKinds := [.wider], laidTests := true, laidLooks := .later }
def HallBoundsUptoCardSaid : Prop := Claim7.holds Tryd.pinned (.plain (OpenSpec.upto hallBoundsSpec)) hallBoundsUptoCard

/-- THE SECOND FORM's CARD OF 'chandlerylaw10.HallOrders'. -/
def hallOrdersUptoCard : Claim7 := { stood := { row := hallOrdersUptoRow, standIns := [], harness := (true, "caa388937c005aaaaa0e168f403c42c649ab2771adc2d8b6ebf6b1ed04a29fdd"), looks := false }, kinds := [], alts := [], laidByText := true, laidKinds := [.wider], laidTests := true, laidLooks := .later }
def HallOrdersUptoCardSaid : Prop := Claim7.holds Tryd.pinned (.plain (OpenSpec.upto hallOrdersSpec)) hallOrdersUptoCard

/-- THE SECOND FORM's CARD OF 'chandlerylaw10.HallAlone'. -/
def hallAloneUptoCard : Claim7 := { stood := { row := hallAloneUptoRow, standIns := [], harness := (true, "caa388937c005aaaaa0e168f403c42c649ab2771adc2d8b6ebf6b1ed04a29fdd"), looks := false }, kinds := [], alts := [], laidByText := true, laidKinds := [.wider], laidTests := true, laidLooks := .later }
def HallAloneUptoCardSaid : Prop := Claim7.holds Tryd.pinned (.plain (OpenSpec.upto hallAloneSpec)) hallAloneUptoCard

/-- THE SECOND FORM's CARD OF 'chandlerylaw10.HallOne'. -/
def hallOneUptoCard : Claim7 := { stood := { row := hallOneUptoRow, standIns := [], harness := (true, "caa388937c005aaaaa0e168f403c42c649ab2771adc2d8b6ebf6b1ed04a29fdd"), looks := false }, kinds := [], alts := [], laidByText := true, laidKinds := [.wider], laidTests := true, laidLooks := .later }
def HallOneUptoCardSaid : Prop := Claim7.holds Tryd.pinned (.plain (OpenSpec.upto hallOneSpec)) hallOneUptoCard

/-- THE SECOND FORM's CARD OF 'chandlerylaw10.HallTwo'. -/
def hallTwoUptoCard : Claim7 := { stood := { row := hallTwoUptoRow, standIns := [], harness := (true, "caa388937c005aaaaa0e168f403c42c649ab2771adc2d8b6ebf6b1ed04a29fdd"), looks := false }, kinds := [], alts := [], laidByText := true, laidKinds := [.wider], laidTests := true, laidLooks := .later }
def HallTwoUptoCardSaid : Prop := Claim7.holds Tryd.pinned (.plain (OpenSpec.upto hallTwoSpec)) hallTwoUptoCard
end Rows
end Go.Proofs.YtnheodgffackoaaDoor
