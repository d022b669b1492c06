/-
  DERIVED. GIVEN WITH THE SEED: THE CARDS: each row of YthlpfafmiakfdaaDoorRows.lean that lists a variable, with what it lists TIED to the program's text (the seventh form; the later family's looks); each row that meets fmt, with fmt's text TOLD by the authors' own Lean function (tested against real Go, not proved from fmt's source: count such statements apart). THE CARD IS WHAT COUNTS. Prove the row's statement (the work); the ties are given (YthlpfafmiakfdaaDoorTie.lean); close each card by the builder's one call (the guide's Derived/Test/ToyasCard.lean, 'card_holds'). Laid BY PROGRAM, IN A SANDBOX (cutbox-door.mjs). By AI agents, Wed Nov 11 2026. No macro, syntax, notation, axiom, sorry.
-/
import Derived.Test.YthlpfafmiakfdaaDoorRows
import GoSem.ClaimSeven
namespace Go.Proofs.YthlpfafmiakfdaaDoor
namespace Rows

/-- THE TIED CARD OF 'chandlerylaw12.StockDoes'. -/
def stockDoesCard : Claim7 := { stood := { row := stockDoesRow, standIns := [], harness := (true, "01949bdb0778f9b395d131844d03e9cda9444519601ad3afa2822558ec6e3c63"), looks := false }, kinds := [], alts := [], laidByText := true, laidKinds := [.data], laidTests := true, laidLooks := .later }
def StockDoesCardSaid : Prop := Claim7.holds Tryd.pinned (.plain (OpenSpec.ofChange stockDoesSpec)) stockDoesCard

/-- THE TIED CARD OF 'chandlerylaw12.StockFew'. -/
def stockFewCard : Claim7 := { stood := { row := stockFewRow, standIns := [], harness := (true, "01949bdb0778f9b395d131844d03e9cda9444519601ad3afa2822558ec6e3c63"), looks := false }, kinds := [], alts := [], laidByText := true, laidKinds := [.data], laidTests := true, laidLooks := .later }
def StockFewCardSaid : Prop := Claim7.holds Tryd.pinned (.plain (OpenSpec.ofChange stockFewSpec)) stockFewCard

/-- THE TIED CARD OF 'chandlerylaw12.StockBack'. -/
def stockBackCard : Claim7 := { stood := { row := stockBackRow, standIns := [], harness := (true, "01949bdb0778f9b395d131844d03e9cda9444519601ad3afa2822558ec6e3c63"), looks := false }, kinds := [], alts := [], laidByText := true, laidKinds := [.data], laidTests := true, laidLooks := .later }
def StockBackCardSaid : Prop := Claim7.holds Tryd.pinned (.plain (OpenSpec.ofChange stockBackSpec)) stockBackCard

/-- THE TIED CARD OF 'chandlerylaw12.StockClasses'. -/
def stockClassesCard : Claim7 := { stood := { row := stockClassesRow, standIns := [], harness := (true, "01949bdb0778f9b395d131844d03e9cda9444519601ad3afa2822558ec6e3c63"), looks := false }, kinds := [], alts := [], laidByText := true, laidKinds := [.data], laidTests := true, laidLooks := .later }
def StockClassesCardSaid : Prop := Claim7.holds Tryd.pinned (.plain (OpenSpec.ofChange stockClassesSpec)) stockClassesCard

/-- THE TIED CARD OF 'chandlerylaw12.StockFills'. -/
def stockFillsCard : Claim7 := { stood := { row := stockFillsRow, standIns := [], harness := (true, "01949bdb0778f9b395d131844d03e9cda9444519601ad3afa2822558ec6e3c63"), looks := false }, kinds := [], alts := [], laidByText := true, laidKinds := [.data], laidTests := true, laidLooks := .later }
def StockFillsCardSaid : Prop := Claim7.holds Tryd.pinned (.plain (OpenSpec.ofChange stockFillsSpec)) stockFillsCard

/-- THE SECOND FORM's CARD OF 'chandlerylaw12.StockDoes'. -/
def stockDoesUptoCard : Claim7 := { stood := { row := stockDoesUptoRow, standIns := [], harness := (true, "01949bdb0778f9b395d131844d03e9cda9444519601ad3afa2822558ec6e3c63"), looks := false }, kinds := [], alts := [], laidByText := true, laidKinds := [.data], laidTests := true, laidLooks := .later }
def StockDoesUptoCardSaid : Prop := Claim7.holds Tryd.pinned (.plain (OpenSpec.upto stockDoesSpec)) stockDoesUptoCard

/-- THE SECOND FORM's CARD OF 'chandlerylaw12.StockFew'. -/
def stockFewUptoCard : Claim7 := { stood := { row := stockFewUptoRow, standIns := [], harness := (true, "01949bdb0778f9b395d131844d03e9cda9444519601ad3afa2822558ec6e3c63"), looks := false }, kinds := [], alts := [], laidByText := true, laidKinds := [.data], laidTests := true, laidLooks := .later }
def StockFewUptoCardSaid : Prop := Claim7.holds Tryd.pinned (.plain (OpenSpec.upto stockFewSpec)) stockFewUptoCard

/-- THE SECOND FORM's CARD OF 'chandlerylaw12.StockBack'. -/
def stockBackUptoCard : Claim7 := { stood := { row := stockBackUptoRow, standIns := [], harness := (true, "01949bdb0778f9b395d131844d03e9cda9444519601ad3afa2822558ec6e3c63"), looks := false }, kinds := [], alts := [], laidByText := true, laidKinds := [.data], laidTests := true, laidLooks := .later }
def StockBackUptoCardSaid : Prop := Claim7.holds Tryd.pinned (.plain (OpenSpec.upto stockBackSpec)) stockBackUptoCard

/-- THE SECOND FORM's CARD OF 'chandlerylaw12.StockClasses'. -/
def stockClassesUptoCard : Claim7 := { stood := { row := stockClassesUptoRow, standIns := [], harness := (true, "01949bdb0778f9b395d131844d03e9cda9444519601ad3afa2822558ec6e3c63"), looks := false }, kinds := [], alts := [], laidByText := true, laidKinds := [.data], laidTests := true, laidLooks := .later }
def StockClassesUptoCardSaid : Prop := Claim7.holds Tryd.pinned (.plain (OpenSpec.upto stockClassesSpec)) stockClassesUptoCard

/-- THE SECOND FORM's CARD OF 'chandlerylaw12.StockFills'. -/
def stockFillsUptoCard : Claim7 := { stood := { row := stockFillsUptoRow, standIns := [], harness := (true, "01949bdb0778f9b395d131844d03e9cda9444519601ad3afa2822558ec6e3c63"), looks := false }, kinds := [], alts := [], laidByText := true, laidKinds := [.data], laidTests := true, laidLooks := .later }
def StockFillsUptoCardSaid : Prop := Claim7.holds Tryd.pinned (.plain (OpenSpec.upto stockFillsSpec)) stockFillsUptoCard
end Rows
end Go.Proofs.YthlpfafmiakfdaaDoor
