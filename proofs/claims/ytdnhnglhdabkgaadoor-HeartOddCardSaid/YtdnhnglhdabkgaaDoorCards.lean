/-
  DERIVED. GIVEN WITH THE SEED: THE CARDS: each row of YtdnhnglhdabkgaaDoorRows.lean that lists a variable, with what it lists TIED to the program's text (the seventh form; the later family's looks); each row that meets fmt, with fmt's text TOLD by the authors' own Lean function (tested against real Go, not proved from fmt's source: count such statements apart). THE CARD IS WHAT COUNTS. Prove the row's statement (the work); the ties are given (YtdnhnglhdabkgaaDoorTie.lean); close each card by the builder's one call (the guide's Derived/Test/ToyasCard.lean, 'card_holds'). Laid BY PROGRAM, IN A SANDBOX (cutbox-door.mjs). By AI agents, Wed Nov 11 2026. No macro, syntax, notation, axiom, sorry.
-/
import Derived.Test.YtdnhnglhdabkgaaDoorRows
import GoSem.ClaimSeven
namespace Go.Proofs.YtdnhnglhdabkgaaDoor
namespace Rows

/-- THE TIED CARD OF 'chandlerylaw11.HeartRuns'. -/
def heartRunsCard : Claim7 := { stood := { row := heartRunsRow, standIns := [], harness := (true, "b693230d9870e3df360918a5fb253989cfe2ce3938678563f8b6b5912dc62d9a"), looks := false }, kinds := [], alts := [], laidByText := true, laidKinds := [.wider, .wider], laidTests := true, laidLooks := .later }
def HeartRunsCardSaid : Prop := Claim7.holds Tryd.pinned (.plain (OpenSpec.ofChange heartRunsSpec)) heartRunsCard

/-- THE TIED CARD OF 'chandlerylaw11.HeartDoes'. -/
def heartDoesCard : Claim7 := { stood := { row := heartDoesRow, standIns := [], harness := (true, "b693230d9870e3df360918a5fb253989cfe2ce3938678563f8b6b5912dc62d9a"), looks := false }, kinds := [], alts := [], laidByText := true, laidKinds := [.wider, .wider], laidTests := true, laidLooks := .later }
def HeartDoesCardSaid : Prop := Claim7.holds Tryd.pinned (.plain (OpenSpec.ofChange heartDoesSpec)) heartDoesCard

/-- THE TIED CARD OF 'chandlerylaw11.HeartOdd'. -/
def heartOddCard : Claim7 := { stood := { row := heartOddRow, standIns := [], harness := (true, "b693230d9870e3df360918a5fb253989cfe2ce3938678563f8b6b5912dc62d9a"), looks := false }, kinds := [], alts := [], laidByText := true, laidKinds := [.wider, .wider], laidTests := true, laidLooks := .later }
def HeartOddCardSaid : Prop := Claim7.holds Tryd.pinned (.plain (OpenSpec.ofChange heartOddSpec)) heartOddCard

/-- THE TIED CARD OF 'chandlerylaw11.HeartBack'. -/
def heartBackCard : Claim7 := { stood := { row := heartBackRow, standIns := [], harness := (true, "b693230d9870e3df360918a5fb253989cfe2ce3938678563f8b6b5912dc62d9a"), looks := false }, kinds := [], alts := [], laidByText := true, laidKinds := [.wider, .wider], laidTests := true, laidLooks := .later }
def HeartBackCardSaid : Prop := Claim7.holds Tryd.pinned (.plain (OpenSpec.ofChange heartBackSpec)) heartBackCard

/-- THE TIED CARD OF 'chandlerylaw11.HeartKeeps'. -/
def heartKeepsCard : Claim7 := { stood := { row := heartKeepsRow, standIns := [], harness := (true, "b693230d9870e3df360918a5fb253989cfe2ce3938678563f8b6b5912dc62d9a"), looks := false }, kinds := [], alts := [], laidByText := true, laidKinds := [.wider, .wider], laidTests := true, laidLooks := .later }
def HeartKeepsCardSaid : Prop := Claim7.holds Tryd.pinned (.plain (OpenSpec.ofChange heartKeepsSpec)) heartKeepsCard

/-- THE SECOND FORM's CARD OF 'chandlerylaw11.HeartRuns'. -/
def heartRunsUptoCard : Claim7 := { stood := { row := heartRunsUptoRow, standIns := [], harness := (true, "b693230d9870e3df360918a5fb253989cfe2ce3938678563f8b6b5912dc62d9a"), looks := false }, kinds := [], alts := [], laidByText := true, laidKinds := [.wider, .wider], laidTests := true, laidLooks := .later }
def HeartRunsUptoCardSaid : Prop := Claim7.holds Tryd.pinned (.plain (OpenSpec.upto heartRunsSpec)) heartRunsUptoCard

/-- THE SECOND FORM's CARD OF 'chandlerylaw11.HeartDoes'. -/
def heartDoesUptoCard : Claim7 := { stood := { row := heartDoesUptoRow, standIns := [], harness := (true, "b693230d9870e3df360918a5fb253989cfe2ce3938678563f8b6b5912dc62d9a"), looks := false }, kinds := [], alts := [], laidByText := true, laidKinds := [.wider, .wider], laidTests := true, laidLooks := .later }
def HeartDoesUptoCardSaid : Prop := Claim7.holds Tryd.pinned (.plain (OpenSpec.upto heartDoesSpec)) heartDoesUptoCard

/-- THE SECOND FORM's CARD OF 'chandlerylaw11.HeartOdd'. -/
def heartOddUptoCard : Claim7 := { stood := { row := heartOddUptoRow, standIns := [], harness := (true, "b693230d9870e3df360918a5fb253989cfe2ce3938678563f8b6b5912dc62d9a"), looks := false }, kinds := [], alts := [], laidByText := true, laidKinds := [.wider, .wider], laidTests := true, laidLooks := .later }
def HeartOddUptoCardSaid : Prop := Claim7.holds Tryd.pinned (.plain (OpenSpec.upto heartOddSpec)) heartOddUptoCard

/-- THE SECOND FORM's CARD OF 'chandlerylaw11.HeartBack'. -/
def heartBackUptoCard : Claim7 := { stood := { row := heartBackUptoRow, standIns := [], harness := (true, "b693230d9870e3df360918a5fb253989cfe2ce3938678563f8b6b5912dc62d9a"), looks := false }, kinds := [], alts := [], laidByText := true, laidKinds := [.wider, .wider], laidTests := true, laidLooks := .later }
def HeartBackUptoCardSaid : Prop := Claim7.holds Tryd.pinned (.plain (OpenSpec.upto heartBackSpec)) heartBackUptoCard

/-- THE SECOND FORM's CARD OF 'chandlerylaw11.HeartKeeps'. -/
def heartKeepsUptoCard : Claim7 := { stood := { row := heartKeepsUptoRow, standIns := [], harness := (true, "b693230d9870e3df360918a5fb253989cfe2ce3938678563f8b6b5912dc62d9a"), looks := false }, kinds := [], alts := [], laidByText := true, laidKinds := [.wider, .wider], laidTests := true, laidLooks := .later }
def HeartKeepsUptoCardSaid : Prop := Claim7.holds Tryd.pinned (.plain (OpenSpec.upto heartKeepsSpec)) heartKeepsUptoCard
end Rows
end Go.Proofs.YtdnhnglhdabkgaaDoor
