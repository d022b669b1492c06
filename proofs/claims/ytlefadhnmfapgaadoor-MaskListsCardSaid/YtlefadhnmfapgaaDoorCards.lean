/-
  DERIVED. GIVEN WITH THE SEED: THE CARDS: each row of YtlefadhnmfapgaaDoorRows.lean that lists a variable, with what it lists TIED to the program's text (the seventh form; the later family's looks); each row that meets fmt, with fmt's text TOLD by the authors' own Lean function (tested against real Go, not proved from fmt's source: count such statements apart). THE CARD IS WHAT COUNTS. Prove the row's statement (the work); the ties are given (YtlefadhnmfapgaaDoorTie.lean); close each card by the builder's one call (the guide's Derived/Test/ToyasCard.lean, 'card_holds'). Laid BY PROGRAM, IN A SANDBOX (cutbox-door.mjs). By AI agents, Wed Nov 11 2026. No macro, syntax, notation, axiom, sorry.
-/
import Derived.Test.YtlefadhnmfapgaaDoorRows
import GoSem.ClaimSeven
namespace Go.Proofs.YtlefadhnmfapgaaDoor
namespace Rows

/-- THE TIED CARD OF 'chandlerylaw02.MaskTells'. -/
def maskTellsCard : Claim7 := { stood := { row := maskTellsRow, standIns := [], harness := (true, "170c6f315058568242dcbb397da267abdea0736e5cfad6fac8560f072d57a47d"), looks := false }, kinds := [], alts := [], laidByText := true, laidKinds := [.data], laidTests := true, laidLooks := .later }
def MaskTellsCardSaid : Prop := Claim7.holds Tryd.pinned (.plain (OpenSpec.ofChange maskTellsSpec)) maskTellsCard

/-- THE TIED CARD OF 'chandlerylaw02.MaskParts'. -/
def maskPartsCard : Claim7 := { stood := { row := maskPartsRow, standIns := [], harness := (true, "170c6f315058568242dcbb397da267abdea0736e5cfad6fac8560f072d57a47d"), looks := false }, kinds := [], alts := [], laidByText := true, laidKinds := [.data], laidTests := true, laidLooks := .later }
def MaskPartsCardSaid : Prop := Claim7.holds Tryd.pinned (.plain (OpenSpec.ofChange maskPartsSpec)) maskPartsCard

/-- THE TIED CARD OF 'chandlerylaw02.MaskSplits'. -/
def maskSplitsCard : Claim7 := { stood := { row := maskSplitsRow, standIns := [], harness := (true, "170c6f315058568242dcbb397da267abdea0736e5cfad6fac8560f072d57a47d"), looks := false }, kinds := [], alts := [], laidByText := true, laidKinds := [.data], laidTests := true, laidLooks := .later }
def MaskSplitsCardSaid : Prop := Claim7.holds Tryd.pinned (.plain (OpenSpec.ofChange maskSplitsSpec)) maskSplitsCard

/-- THE TIED CARD OF 'chandlerylaw02.MaskRuns'. -/
def maskRunsCard : Claim7 := { stood := { row := maskRunsRow, standIns := [], harness := (true, "170c6f315058568242dcbb397da267abdea0736e5cfad6fac8560f072d57a47d"), looks := false }, kinds := [], alts := [], laidByText := true, laidKinds := [.data], laidTests := true, laidLooks := .later }
def MaskRunsCardSaid : Prop := Claim7.holds Tryd.pinned (.plain (OpenSpec.ofChange maskRunsSpec)) maskRunsCard

/-- THE TIED CARD OF 'chandlerylaw02.MaskChanges'. -/
def maskChangesCard : Claim7 := { stood := { row := maskChangesRow, standIns := [], harness := (true, "170c6f315058568242dcbb397da267abdea0736e5cfad6fac8560f072d57a47d"), looks := false }, kinds := [], alts := [], laidByText := true, laidKinds := [.data], laidTests := true, laidLooks := .later }
def MaskChangesCardSaid : Prop := Claim7.holds Tryd.pinned (.plain (OpenSpec.ofChange maskChangesSpec)) maskChangesCard

/-- THE TIED CARD OF 'chandlerylaw02.MaskLists'. -/
def maskListsCard : Claim7 := { stood := { row := maskListsRow, standIns := [], harness := (true, "170c6f315058568242dcbb397da267abdea0736e5cfad6fac8560f072d57a47d"), looks := false }, kinds := [], alts := [], laidByText := true, laidKinds := [.data], laidTests := true, laidLooks := .later }
def MaskListsCardSaid : Prop := Claim7.holds Tryd.pinned (.plain (OpenSpec.ofChange maskListsSpec)) maskListsCard

/-- THE SECOND FORM's CARD OF 'chandlerylaw02.MaskTells'. -/
def maskTellsUptoCard : Claim7 := { stood := { row := maskTellsUptoRow, standIns := [], harness := (true, "170c6f315058568242dcbb397da267abdea0736e5cfad6fac8560f072d57a47d"), looks := false }, kinds := [], alts := [], laidByText := true, laidKinds := [.data], laidTests := true, laidLooks := .later }
def MaskTellsUptoCardSaid : Prop := Claim7.holds Tryd.pinned (.plain (OpenSpec.upto maskTellsSpec)) maskTellsUptoCard

/-- THE SECOND FORM's CARD OF 'chandlerylaw02.MaskParts'. -/
def maskPartsUptoCard : Claim7 := { stood := { row := maskPartsUptoRow, standIns := [], harness := (true, "170c6f315058568242dcbb397da267abdea0736e5cfad6fac8560f072d57a47d"), looks := false }, kinds := [], alts := [], laidByText := true, laidKinds := [.data], laidTests := true, laidLooks := .later }
def MaskPartsUptoCardSaid : Prop := Claim7.holds Tryd.pinned (.plain (OpenSpec.upto maskPartsSpec)) maskPartsUptoCard

/-- THE SECOND FORM's CARD OF 'chandlerylaw02.MaskSplits'. -/
def maskSplitsUptoCard : Claim7 := { stood := { row := maskSplitsUptoRow, standIns := [], harness := (true, "170c6f315058568242dcbb397da267abdea0736e5cfad6fac8560f072d57a47d"), looks := false }, kinds := [], alts := [], laidByText := true, laidKinds := [.data], laidTests := true, laidLooks := .later }
def MaskSplitsUptoCardSaid : Prop := Claim7.holds Tryd.pinned (.plain (OpenSpec.upto maskSplitsSpec)) maskSplitsUptoCard

/-- THE SECOND FORM's CARD OF 'chandlerylaw02.MaskRuns'. -/
def maskRunsUptoCard : Claim7 := { stood := { row := maskRunsUptoRow, standIns := [], harness := (true, "170c6f315058568242dcbb397da267abdea0736e5cfad6fac8560f072d57a47d"), looks := false }, kinds := [], alts := [], laidByText := true, laidKinds := [.data], laidTests := true, laidLooks := .later }
def MaskRunsUptoCardSaid : Prop := Claim7.holds Tryd.pinned (.plain (OpenSpec.upto maskRunsSpec)) maskRunsUptoCard

/-- THE SECOND FORM's CARD OF 'chandlerylaw02.MaskChanges'. -/
def maskChangesUptoCard : Claim7 := { stood := { row := maskChangesUptoRow, standIns := [], harness := (true, "170c6f315058568242dcbb397da267abdea0736e5cfad6fac8560f072d57a47d"), looks := false }, kinds := [], alts := [], laidByText := true, laidKinds := [.data], laidTests := true, laidLooks := .later }
def MaskChangesUptoCardSaid : Prop := Claim7.holds Tryd.pinned (.plain (OpenSpec.upto maskChangesSpec)) maskChangesUptoCard

/-- THE SECOND FORM's CARD OF 'chandlerylaw02.MaskLists'. -/
def maskListsUptoCard : Claim7 := { stood := { row := maskListsUptoRow, standIns := [], harness := (true, "170c6f315058568242dcbb397da267abdea0736e5cfad6fac8560f072d57a47d"), looks := false }, kinds := [], alts := [], laidByText := true, laidKinds := [.data], laidTests := true, laidLooks := .later }
def MaskListsUptoCardSaid : Prop := Claim7.holds Tryd.pinned (.plain (OpenSpec.upto maskListsSpec)) maskListsUptoCard
end Rows
end Go.Proofs.YtlefadhnmfapgaaDoor
