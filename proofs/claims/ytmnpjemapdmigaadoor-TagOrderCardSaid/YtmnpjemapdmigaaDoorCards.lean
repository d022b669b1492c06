/-
  DERIVED. GIVEN WITH THE SEED: THE CARDS: each row of YtmnpjemapdmigaaDoorRows.lean that lists a variable, with what it lists TIED to the program's text (the seventh form; the later family's looks); each row that meets fmt, with fmt's text TOLD by the authors' own Lean function (tested against real Go, not proved from fmt's source: count such statements apart). THE CARD IS WHAT COUNTS. Prove the row's statement (the work); the ties are given (YtmnpjemapdmigaaDoorTie.lean); close each card by the builder's one call (the guide's Derived/Test/ToyasCard.lean, 'card_holds'). Laid BY PROGRAM, IN A SANDBOX (cutbox-door.mjs). By AI agents, Wed Nov 11 2026. No macro, syntax, notation, axiom, sorry.
-/
import Derived.Test.YtmnpjemapdmigaaDoorRows
import GoSem.ClaimSeven
namespace Go.Proofs.YtmnpjemapdmigaaDoor
namespace Rows

/-- THE TIED CARD OF 'chandlerylaw07.TagLeast'. -/
def tagLeastCard : Claim7 := { stood := { row := tagLeastRow, standIns := [], harness := (true, "df7577db37cd1557e2e82f40c7306c53a489736359bcc7b4358bbbb150aed6b5"), looks := false }, kinds := [], alts := [], laidByText := true, laidKinds := [.wider], laidTests := true, laidLooks := .later }
def TagLeastCardSaid : Prop := Claim7.holds Tryd.pinned (.plain (OpenSpec.ofChange tagLeastSpec)) tagLeastCard

/-- THE TIED CARD OF 'chandlerylaw07.TagFree'. -/
def tagFreeCard : Claim7 := { stood := { row := tagFreeRow, standIns := [], harness := (true, "df7577db37cd1557e2e82f40c7306c53a489736359bcc7b4358bbbb150aed6b5"), looks := false }, kinds := [], alts := [], laidByText := true, laidKinds := [.wider], laidTests := true, laidLooks := .later }
def TagFreeCardSaid : Prop := Claim7.holds Tryd.pinned (.plain (OpenSpec.ofChange tagFreeSpec)) tagFreeCard

/-- THE TIED CARD OF 'chandlerylaw07.TagOrder'. -/
def tagOrderCard : Claim7 := { stood := { row := tagOrderRow, standIns := [], harness := (true, "df7577db37cd1557e2e82f40c7306c53a489736359bcc7b4358bbbb150aed6b5"), looks := false }, kinds := [], alts := [], laidByText := true, laidKinds := [.wider], laidTests := true, laidLooks := .later }
def TagOrderCardSaid : Prop := Claim7.holds Tryd.pinned (.plain (OpenSpec.ofChange tagOrderSpec)) tagOrderCard

/-- THE TIED CARD OF 'chandlerylaw07.TagSame'. -/
def tagSameCard : Claim7 := { stood := { row := tagSameRow, standIns := [], harness := (true, "df7577db37cd1557e2e82f40c7306c53a489736359bcc7b4358bbbb150aed6b5"), looks := false }, kinds := [], alts := [], laidByText := true, laidKinds := [.wider], laidTests := true, laidLooks := .later }
def TagSameCardSaid : Prop := Claim7.holds Tryd.pinned (.plain (OpenSpec.ofChange tagSameSpec)) tagSameCard

/-- THE TIED CARD OF 'chandlerylaw07.TagScans'. -/
def tagScansCard : Claim7 := { stood := { row := tagScansRow, standIns := [], harness := (true, "df7577db37cd1557e2e82f40c7306c53a489736359bcc7b4358bbbb150aed6b5"), looks := false }, kinds := [], alts := [], laidByText := true, laidKinds := [.wider], laidTests := true, laidLooks := .later }
def TagScansCardSaid : Prop := Claim7.holds Tryd.pinned (.plain (OpenSpec.ofChange tagScansSpec)) tagScansCard

/-- THE SECOND FORM's CARD OF 'chandlerylaw07.TagLeast'. -/
def tagLeastUptoCard : Claim7 := { stood := { row := tagLeastUptoRow, standIns := [], harness := (true, "df7577db37cd1557e2e82f40c7306c53a489736359bcc7b4358bbbb150aed6b5"), looks := false }, kinds := [], alts := [], laidByText := true, laidKinds := [.wider], laidTests := true, laidLooks := .later }
def TagLeastUptoCardSaid : Prop := Claim7.holds Tryd.pinned (.plain (OpenSpec.upto tagLeastSpec)) tagLeastUptoCard

/-- THE SECOND FORM's CARD OF 'chandlerylaw07.TagFree'. -/
def tagFreeUptoCard : Claim7 := { stood := { row := tagFreeUptoRow, standIns := [], harness := (true, "df7577db37cd1557e2e82f40c7306c53a489736359bcc7b4358bbbb150aed6b5"), looks := false }, kinds := [], alts := [], laidByText := true, laidKinds := [.wider], laidTests := true, laidLooks := .later }
def TagFreeUptoCardSaid : Prop := Claim7.holds Tryd.pinned (.plain (OpenSpec.upto tagFreeSpec)) tagFreeUptoCard

/-- THE SECOND FORM's CARD OF 'chandlerylaw07.TagOrder'. -/
def tagOrderUptoCard : Claim7 := { stood := { row := tagOrderUptoRow, standIns := [], harness := (true, "df7577db37cd1557e2e82f40c7306c53a489736359bcc7b4358bbbb150aed6b5"), looks := false }, kinds := [], alts := [], laidByText := true, laidKinds := [.wider], laidTests := true, laidLooks := .later }
def TagOrderUptoCardSaid : Prop := Claim7.holds Tryd.pinned (.plain (OpenSpec.upto tagOrderSpec)) tagOrderUptoCard

/-- THE SECOND FORM's CARD OF 'chandlerylaw07.TagSame'. -/
def tagSameUptoCard : Claim7 := { stood := { row := tagSameUptoRow, standIns := [], harness := (true, "df7577db37cd1557e2e82f40c7306c53a489736359bcc7b4358bbbb150aed6b5"), looks := false }, kinds := [], alts := [], laidByText := true, laidKinds := [.wider], laidTests := true, laidLooks := .later }
def TagSameUptoCardSaid : Prop := Claim7.holds Tryd.pinned (.plain (OpenSpec.upto tagSameSpec)) tagSameUptoCard

/-- THE SECOND FORM's CARD OF 'chandlerylaw07.TagScans'. -/
def tagScansUptoCard : Claim7 := { stood := { row := tagScansUptoRow, standIns := [], harness := (true, "df7577db37cd1557e2e82f40c7306c53a489736359bcc7b4358bbbb150aed6b5"), looks := false }, kinds := [], alts := [], laidByText := true, laidKinds := [.wider], laidTests := true, laidLooks := .later }
def TagScansUptoCardSaid : Prop := Claim7.holds Tryd.pinned (.plain (OpenSpec.upto tagScansSpec)) tagScansUptoCard
end Rows
end Go.Proofs.YtmnpjemapdmigaaDoor
