/-
  DERIVED. GIVEN WITH THE SEED: THE CARDS: each row of YtlabfkllndmjhaaDoorRows.lean that lists a variable, with what it lists TIED to the program's text (the seventh form; the later family's looks); each row that meets fmt, with fmt's text TOLD by the authors' own Lean function (tested against real Go, not proved from fmt's source: count such statements apart). THE CARD IS WHAT COUNTS. Prove the row's statement (the work); the ties are given (YtlabfkllndmjhaaDoorTie.lean); close each card by the builder's one call (the guide's Derived/Test/ToyasCard.lean, 'card_holds'). Laid BY PROGRAM, IN A SANDBOX (cutbox-door.mjs). By AI agents, Wed Nov 11 2026. No macro, syntax, notation, axiom, sorry.
-/
import Derived.Test.YtlabfkllndmjhaaDoorRows
import GoSem.ClaimSeven
namespace Go.Proofs.YtlabfkllndmjhaaDoor
namespace Rows

/-- THE TIED CARD OF 'chandlerylaw01.WordFields'. -/
def wordFieldsCard : Claim7 := { stood := { row := wordFieldsRow, standIns := [], harness := (true, "6ca3dee53ab0d0475dec23edb1ea59e988f98db3a69acc8cd58ce2905a0a97c8"), looks := false }, kinds := [], alts := [], laidByText := true, laidKinds := [.wider], laidTests := true, laidLooks := .later }
def WordFieldsCardSaid : Prop := Claim7.holds Tryd.pinned (.plain (OpenSpec.ofChange wordFieldsSpec)) wordFieldsCard

/-- THE TIED CARD OF 'chandlerylaw01.WordPuts'. -/
def wordPutsCard : Claim7 := { stood := { row := wordPutsRow, standIns := [], harness := (true, "6ca3dee53ab0d0475dec23edb1ea59e988f98db3a69acc8cd58ce2905a0a97c8"), looks := false }, kinds := [], alts := [], laidByText := true, laidKinds := [.wider], laidTests := true, laidLooks := .later }
def WordPutsCardSaid : Prop := Claim7.holds Tryd.pinned (.plain (OpenSpec.ofChange wordPutsSpec)) wordPutsCard

/-- THE TIED CARD OF 'chandlerylaw01.WordApart'. -/
def wordApartCard : Claim7 := { stood := { row := wordApartRow, standIns := [], harness := (true, "6ca3dee53ab0d0475dec23edb1ea59e988f98db3a69acc8cd58ce2905a0a97c8"), looks := false }, kinds := [], alts := [], laidByText := true, laidKinds := [.wider], laidTests := true, laidLooks := .later }
def WordApartCardSaid : Prop := Claim7.holds Tryd.pinned (.plain (OpenSpec.ofChange wordApartSpec)) wordApartCard

/-- THE TIED CARD OF 'chandlerylaw01.WordRefs'. -/
def wordRefsCard : Claim7 := { stood := { row := wordRefsRow, standIns := [], harness := (true, "6ca3dee53ab0d0475dec23edb1ea59e988f98db3a69acc8cd58ce2905a0a97c8"), looks := false }, kinds := [], alts := [], laidByText := true, laidKinds := [.wider], laidTests := true, laidLooks := .later }
def WordRefsCardSaid : Prop := Claim7.holds Tryd.pinned (.plain (OpenSpec.ofChange wordRefsSpec)) wordRefsCard

/-- THE TIED CARD OF 'chandlerylaw01.WordTiles'. -/
def wordTilesCard : Claim7 := { stood := { row := wordTilesRow, standIns := [], harness := (true, "6ca3dee53ab0d0475dec23edb1ea59e988f98db3a69acc8cd58ce2905a0a97c8"), looks := false }, kinds := [], alts := [], laidByText := true, laidKinds := [.wider], laidTests := true, laidLooks := .later }
def WordTilesCardSaid : Prop := Claim7.holds Tryd.pinned (.plain (OpenSpec.ofChange wordTilesSpec)) wordTilesCard

/-- THE TIED CARD OF 'chandlerylaw01.WordSigns'. -/
def wordSignsCard : Claim7 := { stood := { row := wordSignsRow, standIns := [], harness := (true, "6ca3dee53ab0d0475dec23edb1ea59e988f98db3a69acc8cd58ce2905a0a97c8"), looks := false }, kinds := [], alts := [], laidByText := true, laidKinds := [.wider], laidTests := true, laidLooks := .later }
def WordSignsCardSaid : Prop := Claim7.holds Tryd.pinned (.plain (OpenSpec.ofChange wordSignsSpec)) wordSignsCard

/-- THE SECOND FORM's CARD OF 'chandlerylaw01.WordFields'. -/
def wordFieldsUptoCard : Claim7 := { stood := { row := wordFieldsUptoRow, standIns := [], harness := (true, "6ca3dee53ab0d0475dec23edb1ea59e988f98db3a69acc8cd58ce2905a0a97c8"), looks := false }, kinds := [], alts := [], laidByText := true, laidKinds := [.wider], laidTests := true, laidLooks := .later }
def WordFieldsUptoCardSaid : Prop := Claim7.holds Tryd.pinned (.plain (OpenSpec.upto wordFieldsSpec)) wordFieldsUptoCard

/-- THE SECOND FORM's CARD OF 'chandlerylaw01.WordPuts'. -/
def wordPutsUptoCard : Claim7 := { stood := { row := wordPutsUptoRow, standIns := [], harness := (true, "6ca3dee53ab0d0475dec23edb1ea59e988f98db3a69acc8cd58ce2905a0a97c8"), looks := false }, kinds := [], alts := [], laidByText := true, laidKinds := [.wider], laidTests := true, laidLooks := .later }
def WordPutsUptoCardSaid : Prop := Claim7.holds Tryd.pinned (.plain (OpenSpec.upto wordPutsSpec)) wordPutsUptoCard

/-- THE SECOND FORM's CARD OF 'chandlerylaw01.WordApart'. -/
def wordApartUptoCard : Claim7 := { stood := { row := wordApartUptoRow, standIns := [], harness := (true, "6ca3dee53ab0d0475dec23edb1ea59e988f98db3a69acc8cd58ce2905a0a97c8"), looks := false }, kinds := [], alts := [], laidByText := true, laidKinds := [.wider], laidTests := true, laidLooks := .later }
def WordApartUptoCardSaid : Prop := Claim7.holds Tryd.pinned (.plain (OpenSpec.upto wordApartSpec)) wordApartUptoCard

/-- THE SECOND FORM's CARD OF 'chandlerylaw01.WordRefs'. -/
def wordRefsUptoCard : Claim7 := { stood := { row := wordRefsUptoRow, standIns := [], harness := (true, "6ca3dee53ab0d0475dec23edb1ea59e988f98db3a69acc8cd58ce2905a0a97c8"), looks := false }, kinds := [], alts := [], laidByText := true, laidKinds := [.wider], laidTests := true, laidLooks := .later }
def WordRefsUptoCardSaid : Prop := Claim7.holds Tryd.pinned (.plain (OpenSpec.upto wordRefsSpec)) wordRefsUptoCard

/-- THE SECOND FORM's CARD OF 'chandlerylaw01.WordTiles'. -/
def wordTilesUptoCard : Claim7 := { stood := { row := wordTilesUptoRow, standIns := [], harness := (true, "6ca3dee53ab0d0475dec23edb1ea59e988f98db3a69acc8cd58ce2905a0a97c8"), looks := false }, kinds := [], alts := [], laidByText := true, laidKinds := [.wider], laidTests := true, laidLooks := .later }
def WordTilesUptoCardSaid : Prop := Claim7.holds Tryd.pinned (.plain (OpenSpec.upto wordTilesSpec)) wordTilesUptoCard

/-- THE SECOND FORM's CARD OF 'chandlerylaw01.WordSigns'. -/
def wordSignsUptoCard : Claim7 := { stood := { row := wordSignsUptoRow, standIns := [], harness := (true, "6ca3dee53ab0d0475dec23edb1ea59e988f98db3a69acc8cd58ce2905a0a97c8"), looks := false }, kinds := [], alts := [], laidByText := true, laidKinds := [.wider], laidTests := true, laidLooks := .later }
def WordSignsUptoCardSaid : Prop := Claim7.holds Tryd.pinned (.plain (OpenSpec.upto wordSignsSpec)) wordSignsUptoCard
end Rows
end Go.Proofs.YtlabfkllndmjhaaDoor
