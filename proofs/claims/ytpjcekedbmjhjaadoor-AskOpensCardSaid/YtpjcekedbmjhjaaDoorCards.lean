/-
  DERIVED. GIVEN WITH THE SEED: THE CARDS: each row of YtpjcekedbmjhjaaDoorRows.lean that lists a variable, with what it lists TIED to the program's text (the seventh form; the later family's looks); each row that meets fmt, with fmt's text TOLD by the authors' own Lean function (tested against real Go, not proved from fmt's source: count such statements apart). THE CARD IS WHAT COUNTS. Prove the row's statement (the work); the ties are given (YtpjcekedbmjhjaaDoorTie.lean); close each card by the builder's one call (the guide's Derived/Test/ToyasCard.lean, 'card_holds'). Laid BY PROGRAM, IN A SANDBOX (cutbox-door.mjs). By AI agents, Wed Nov 11 2026. No macro, syntax, notation, axiom, sorry.
-/
import Derived.Test.YtpjcekedbmjhjaaDoorRows
import GoSem.ClaimSeven
namespace Go.Proofs.YtpjcekedbmjhjaaDoor
namespace Rows

/-- THE TIED CARD OF 'chandlerylaw14.AskOpens'. -/
def askOpensCard : Claim7 := { stood := { row := askOpensRow, standIns := [], harness := (true, "9b7edb1036e137f07fff7f9b08b0bb9b205be04095063412284138140f3d97a7"), looks := false }, kinds := [], alts := [], laidByText := true, laidKinds := [.wider, .wider, .wider, .wider], laidTests := true, laidLooks := .later }
def AskOpensCardSaid : Prop := Claim7.holds Tryd.pinned (.plain (OpenSpec.ofChange askOpensSpec)) askOpensCard

/-- THE SECOND FORM's CARD OF 'chandlerylaw14.AskOpens'. -/
def askOpensUptoCard : Claim7 := { stood := { row := askOpensUptoRow, standIns := [], harness := (true, "9b7edb1036e137f07fff7f9b08b0bb9b205be04095063412284138140f3d97a7"), looks := false }, kinds := [], alts := [], laidByText := true, laidKinds := [.wider, .wider, .wider, .wider], laidTests := true, laidLooks := .later }
def AskOpensUptoCardSaid : Prop := Claim7.holds Tryd.pinned (.plain (OpenSpec.upto askOpensSpec)) askOpensUptoCard
end Rows
end Go.Proofs.YtpjcekedbmjhjaaDoor
