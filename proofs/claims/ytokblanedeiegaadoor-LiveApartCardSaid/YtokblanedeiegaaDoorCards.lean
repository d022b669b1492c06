/-
  DERIVED. GIVEN WITH THE SEED: THE CARDS: each row of YtokblanedeiegaaDoorRows.lean that lists a variable, with what it lists TIED to the program's text (the seventh form; the later family's looks); each row that meets fmt, with fmt's text TOLD by the authors' own Lean function (tested against real Go, not proved from fmt's source: count such statements apart). THE CARD IS WHAT COUNTS. Prove the row's statement (the work); the ties are given (YtokblanedeiegaaDoorTie.lean); close each card by the builder's one call (the guide's Derived/Test/ToyasCard.lean, 'card_holds'). Laid BY PROGRAM, IN A SANDBOX (cutbox-door.mjs). By AI agents, Wed Nov 11 2026. No macro, syntax, notation, axiom, sorry.
-/
import Derived.Test.YtokblanedeiegaaDoorRows
import GoSem.ClaimSeven
namespace Go.Proofs.YtokblanedeiegaaDoor
namespace Rows

/-- THE TIED CARD OF 'chandlerylaw13.LiveSizes'. -/
def liveSizesCard : Claim7 := { stood := { row := liveSizesRow, standIns := [], harness := (true, "36861e9d0fa99f7a6a337077c0de5a901d129dffdad0514f0c8430803df787c3"), looks := false }, kinds := [], alts := [], laidByText := true, laidKinds := [.wider, .wider], laidTests := true, laidLooks := .later }
def LiveSizesCardSaid : Prop := Claim7.holds Tryd.pinned (.plain (OpenSpec.ofChange liveSizesSpec)) liveSizesCard

/-- THE TIED CARD OF 'chandlerylaw13.LiveMoves'. -/
def liveMovesCard : Claim7 := { stood := { row := liveMovesRow, standIns := [], harness := (true, "36861e9d0fa99f7a6a337077c0de5a901d129dffdad0514f0c8430803df787c3"), looks := false }, kinds := [], alts := [], laidByText := true, laidKinds := [.wider, .wider], laidTests := true, laidLooks := .later }
def LiveMovesCardSaid : Prop := Claim7.holds Tryd.pinned (.plain (OpenSpec.ofChange liveMovesSpec)) liveMovesCard

/-- THE TIED CARD OF 'chandlerylaw13.LiveOnce'. -/
def liveOnceCard : Claim7 := { stood := { row := liveOnceRow, standIns := [], harness := (true, "36861e9d0fa99f7a6a337077c0de5a901d129dffdad0514f0c8430803df787c3"), looks := false }, kinds := [], alts := [], laidByText := true, laidKinds := [.wider, .wider], laidTests := true, laidLooks := .later }
def LiveOnceCardSaid : Prop := Claim7.holds Tryd.pinned (.plain (OpenSpec.ofChange liveOnceSpec)) liveOnceCard

/-- THE TIED CARD OF 'chandlerylaw13.LiveApart'. -/
def liveApartCard : Claim7 := { stood := { row := liveApartRow, standIns := [], harness := (true, "36861e9d0fa99f7a6a337077c0de5a901d129dffdad0514f0c8430803df787c3"), looks := false }, kinds := [], alts := [], laidByText := true, laidKinds := [.wider, .wider], laidTests := true, laidLooks := .later }
def LiveApartCardSaid : Prop := Claim7.holds Tryd.pinned (.plain (OpenSpec.ofChange liveApartSpec)) liveApartCard

/-- THE TIED CARD OF 'chandlerylaw13.LiveDoes'. -/
def liveDoesCard : Claim7 := { stood := { row := liveDoesRow, standIns := [], harness := (true, "36861e9d0fa99f7a6a337077c0de5a901d129dffdad0514f0c8430803df787c3"), looks := false }, kinds := [], alts := [], laidByText := true, laidKinds := [.wider, .wider], laidTests := true, laidLooks := .later }
def LiveDoesCardSaid : Prop := Claim7.holds Tryd.pinned (.plain (OpenSpec.ofChange liveDoesSpec)) liveDoesCard

/-- THE SECOND FORM's CARD OF 'chandlerylaw13.LiveSizes'. -/
def liveSizesUptoCard : Claim7 := { stood := { row := liveSizesUptoRow, standIns := [], harness := (true, "36861e9d0fa99f7a6a337077c0de5a901d129dffdad0514f0c8430803df787c3"), looks := false }, kinds := [], alts := [], laidByText := true, laidKinds := [.wider, .wider], laidTests := true, laidLooks := .later }
def LiveSizesUptoCardSaid : Prop := Claim7.holds Tryd.pinned (.plain (OpenSpec.upto liveSizesSpec)) liveSizesUptoCard

/-- THE SECOND FORM's CARD OF 'chandlerylaw13.LiveMoves'. -/
def liveMovesUptoCard : Claim7 := { stood := { row := liveMovesUptoRow, standIns := [], harness := (true, "36861e9d0fa99f7a6a337077c0de5a901d129dffdad0514f0c8430803df787c3"), looks := false }, kinds := [], alts := [], laidByText := true, laidKinds := [.wider, .wider], laidTests := true, laidLooks := .later }
def LiveMovesUptoCardSaid : Prop := Claim7.holds Tryd.pinned (.plain (OpenSpec.upto liveMovesSpec)) liveMovesUptoCard

/-- THE SECOND FORM's CARD OF 'chandlerylaw13.LiveOnce'. -/
def liveOnceUptoCard : Claim7 := { stood := { row := liveOnceUptoRow, standIns := [], harness := (true, "36861e9d0fa99f7a6a337077c0de5a901d129dffdad0514f0c8430803df787c3"), looks := false }, kinds := [], alts := [], laidByText := true, laidKinds := [.wider, .wider], laidTests := true, laidLooks := .later }
def LiveOnceUptoCardSaid : Prop := Claim7.holds Tryd.pinned (.plain (OpenSpec.upto liveOnceSpec)) liveOnceUptoCard

/-- THE SECOND FORM's CARD OF 'chandlerylaw13.LiveApart'. -/
def liveApartUptoCard : Claim7 := { stood := { row := liveApartUptoRow, standIns := [], harness := (true, "36861e9d0fa99f7a6a337077c0de5a901d129dffdad0514f0c8430803df787c3"), looks := false }, kinds := [], alts := [], laidByText := true, laidKinds := [.wider, .wider], laidTests := true, laidLooks := .later }
def LiveApartUptoCardSaid : Prop := Claim7.holds Tryd.pinned (.plain (OpenSpec.upto liveApartSpec)) liveApartUptoCard

/-- THE SECOND FORM's CARD OF 'chandlerylaw13.LiveDoes'. -/
def liveDoesUptoCard : Claim7 := { stood := { row := liveDoesUptoRow, standIns := [], harness := (true, "36861e9d0fa99f7a6a337077c0de5a901d129dffdad0514f0c8430803df787c3"), looks := false }, kinds := [], alts := [], laidByText := true, laidKinds := [.wider, .wider], laidTests := true, laidLooks := .later }
def LiveDoesUptoCardSaid : Prop := Claim7.holds Tryd.pinned (.plain (OpenSpec.upto liveDoesSpec)) liveDoesUptoCard
end Rows
end Go.Proofs.YtokblanedeiegaaDoor
