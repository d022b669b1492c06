/-
  NARROWER THAN 'FOR EVERY INPUT', by the rows' own cells (each row's printed sentence says how): LiveSizes: laid · LiveMoves: laid · LiveOnce: laid · LiveApart: laid · LiveDoes: laid.
  DERIVED. THE GIVEN ROWS OF THIS SEAT. 5 by the template 'for every input the law returns true; each argument reads behind the call as it read before'; 0 by the template 'total and deterministic' (their statements: YtokblanedeiegaaDoorTotals.lean).
  GIVEN WITH THE SEED: the statements are not yours to turn. If you find one false, say at which input.
  Laid BY PROGRAM, IN A SANDBOX (cutbox-rows.mjs): the forced cells as the released guide's own fill.sh prints them over the translation 9e9cf1d91e6a2597… (all of the seat's roots in one cut). By AI agents, Wed Nov 11 2026. No macro, syntax, notation, axiom, sorry.
-/
import Derived.Test.YtokblanedeiegaaDoorChecked
import GoSem.Claim
import GoSem.ClaimJoined
import GoSem.ClaimMapViews
import Derived.JoinedTies
import Derived.KernelRfl
namespace Go.Proofs.YtokblanedeiegaaDoor
/- THE CELL 'sum', in the pinned program and in every row, IS THE sha256 OF THE DUMP (.gsa) THAT YtokblanedeiegaaDoorProg.lean LOADS. Nothing in Lean hashes anything: it is a label: what it is worth is what the hold of that sum in a sandbox is worth. -/
noncomputable def Tryd.pinned : Pinned := { name := "ytokblanedeiegaadoor", sum := "9e9cf1d91e6a259751115698519d01fc2f55bb5e97c86cd5830ddfdbf8a7277d", checked := Tryd.checked }
namespace Rows
def none {H : Type} : Left H := { results := [], args := [] }

/- WHAT THE LISTED PACKAGE-LEVEL VARIABLES READ AS WHEN THE CALL BEGINS. Each datum BY PROGRAM (the guide's laid-datum.mjs) off the statement by which the dump's own 'gosem.cut.vars' lays the variable. In a bare row this is a premise. The card (YtokblanedeiegaaDoorCards.lean) ties it to the program's text. -/
def laid_chandlery_live_kind {H : Type} : DataW H := .agg [.lit (.int .i64 0), .lit (.int .i64 8)]
def laid_chandlery_live_number {H : Type} : DataW H := .agg [.lit (.int .i64 8), .lit (.int .i64 16)]

/-- 'chandlerylaw13.LiveSizes': WHATEVER THE INPUT: true; the input reads as it did. -/
def liveSizesSpec : ChangeSpec := { name := "liveSizes", fn := fun _ => fun
  | [d1, d2, d3] => { results := [.lit (.bool true)], args := [d1, d2, d3] }
  | _ => none }
def liveSizesRow : OpenClaim := { program := "ytokblanedeiegaadoor", sum := "9e9cf1d91e6a259751115698519d01fc2f55bb5e97c86cd5830ddfdbf8a7277d", func := "chandlery/chandlerylaw13.LiveSizes", spec := "liveSizes", named := ["chandlery/live.kind", "chandlery/live.number"], apart := false, laid := [("chandlery/live.kind", laid_chandlery_live_kind), ("chandlery/live.number", laid_chandlery_live_number)] }
def LiveSizesSaid : Prop := liveSizesRow.holds Tryd.pinned (OpenSpec.ofChange liveSizesSpec)

/-- ITS FALSE NEIGHBOUR: 'it returns false'. Refute it at one input. -/
def liveSizesWrong : ChangeSpec := { name := "liveSizes", fn := fun _ => fun
  | [d1, d2, d3] => { results := [.lit (.bool false)], args := [d1, d2, d3] }
  | _ => none }
def LiveSizesWrongFalsely : Prop := liveSizesRow.holds Tryd.pinned (OpenSpec.ofChange liveSizesWrong)

/-- 'chandlerylaw13.LiveMoves': WHATEVER THE INPUT: true; the input reads as it did. -/
def liveMovesSpec : ChangeSpec := { name := "liveMoves", fn := fun _ => fun
  | [d1, d2, d3] => { results := [.lit (.bool true)], args := [d1, d2, d3] }
  | _ => none }
def liveMovesRow : OpenClaim := { program := "ytokblanedeiegaadoor", sum := "9e9cf1d91e6a259751115698519d01fc2f55bb5e97c86cd5830ddfdbf8a7277d", func := "chandlery/chandlerylaw13.LiveMoves", spec := "liveMoves", named := ["chandlery/live.kind", "chandlery/live.number"], apart := false, laid := [("chandlery/live.kind", laid_chandlery_live_kind), ("chandlery/live.number", laid_chandlery_live_number)] }
def LiveMovesSaid : Prop := liveMovesRow.holds Tryd.pinned (OpenSpec.ofChange liveMovesSpec)

/-- ITS FALSE NEIGHBOUR: 'it returns false'. Refute it at one input. -/
def liveMovesWrong : ChangeSpec := { name := "liveMoves", fn := fun _ => fun
  | [d1, d2, d3] => { results := [.lit (.bool false)], args := [d1, d2, d3] }
  | _ => none }
def LiveMovesWrongFalsely : Prop := liveMovesRow.holds Tryd.pinned (OpenSpec.ofChange liveMovesWrong)

/-- 'chandlerylaw13.LiveOnce': WHATEVER THE INPUT: true; the input reads as it did. -/
def liveOnceSpec : ChangeSpec := { name := "liveOnce", fn := fun _ => fun
  | [d] => { results := [.lit (.bool true)], args := [d] }
  | _ => none }
def liveOnceRow : OpenClaim := { program := "ytokblanedeiegaadoor", sum := "9e9cf1d91e6a259751115698519d01fc2f55bb5e97c86cd5830ddfdbf8a7277d", func := "chandlery/chandlerylaw13.LiveOnce", spec := "liveOnce", named := ["chandlery/live.kind", "chandlery/live.number"], apart := false, laid := [("chandlery/live.kind", laid_chandlery_live_kind), ("chandlery/live.number", laid_chandlery_live_number)] }
def LiveOnceSaid : Prop := liveOnceRow.holds Tryd.pinned (OpenSpec.ofChange liveOnceSpec)

/-- ITS FALSE NEIGHBOUR: 'it returns false'. Refute it at one input. -/
def liveOnceWrong : ChangeSpec := { name := "liveOnce", fn := fun _ => fun
  | [d] => { results := [.lit (.bool false)], args := [d] }
  | _ => none }
def LiveOnceWrongFalsely : Prop := liveOnceRow.holds Tryd.pinned (OpenSpec.ofChange liveOnceWrong)

/-- 'chandlerylaw13.LiveApart': WHATEVER THE INPUT: true; the input reads as it did. -/
def liveApartSpec : ChangeSpec := { name := "liveApart", fn := fun _ => fun
  | [d1, d2, d3] => { results := [.lit (.bool true)], args := [d1, d2, d3] }
  | _ => none }
def liveApartRow : OpenClaim := { program := "ytokblanedeiegaadoor", sum := "9e9cf1d91e6a259751115698519d01fc2f55bb5e97c86cd5830ddfdbf8a7277d", func := "chandlery/chandlerylaw13.LiveApart", spec := "liveApart", named := ["chandlery/live.kind", "chandlery/live.number"], apart := false, laid := [("chandlery/live.kind", laid_chandlery_live_kind), ("chandlery/live.number", laid_chandlery_live_number)] }
def LiveApartSaid : Prop := liveApartRow.holds Tryd.pinned (OpenSpec.ofChange liveApartSpec)

/-- ITS FALSE NEIGHBOUR: 'it returns false'. Refute it at one input. -/
def liveApartWrong : ChangeSpec := { name := "liveApart", fn := fun _ => fun
  | [d1, d2, d3] => { results := [.lit (.bool false)], args := [d1, d2, d3] }
  | _ => none }
def LiveApartWrongFalsely : Prop := liveApartRow.holds Tryd.pinned (OpenSpec.ofChange liveApartWrong)

/-- 'chandlerylaw13.LiveDoes': WHATEVER THE INPUT: true; the input reads as it did. -/
def liveDoesSpec : ChangeSpec := { name := "liveDoes", fn := fun _ => fun
  | [d1, d2] => { results := [.lit (.bool true)], args := [d1, d2] }
  | _ => none }
def liveDoesRow : OpenClaim := { program := "ytokblanedeiegaadoor", sum := "9e9cf1d91e6a259751115698519d01fc2f55bb5e97c86cd5830ddfdbf8a7277d", func := "chandlery/chandlerylaw13.LiveDoes", spec := "liveDoes", named := ["chandlery/live.kind", "chandlery/live.number"], apart := false, laid := [("chandlery/live.kind", laid_chandlery_live_kind), ("chandlery/live.number", laid_chandlery_live_number)] }
def LiveDoesSaid : Prop := liveDoesRow.holds Tryd.pinned (OpenSpec.ofChange liveDoesSpec)

/-- ITS FALSE NEIGHBOUR: 'it returns false'. Refute it at one input. -/
def liveDoesWrong : ChangeSpec := { name := "liveDoes", fn := fun _ => fun
  | [d1, d2] => { results := [.lit (.bool false)], args := [d1, d2] }
  | _ => none }
def LiveDoesWrongFalsely : Prop := liveDoesRow.holds Tryd.pinned (OpenSpec.ofChange liveDoesWrong)

/- THE SECOND FORM. 'bulk': how many values and letters a reading holds, each counted each time it is reached (what is shared counts as often as it is met; a slice's spare places count too). A statement '..UptoSaid' is the law's where the arguments, and the package variables that the reading takes, are together of bulk at most 1048576: NARROWER than '..Said'. Prove '..Said' where nothing that the law and all that it calls make is longer than what came in: it says more and counts as full. Else prove '..UptoSaid'. A law counts once. -/
mutual
def uptoBulk {H : Type} : DataW H → Nat
  | .lit (.string bytes) => bytes.length + 1
  | .lit _ => 1
  | .nil => 1
  | .ptr d => uptoBulk d + 1
  | .slice elems spare => uptoBulkAll elems + uptoBulkAll spare + 1
  | .agg parts => uptoBulkAll parts + 1
  | .iface _ d => uptoBulk d + 1
  | .map entries => uptoBulkEntries entries + 1
  | .held _ => 1
def uptoBulkAll {H : Type} : List (DataW H) → Nat
  | [] => 0
  | d :: r => uptoBulk d + uptoBulkAll r
def uptoBulkEntries {H : Type} : List (Lit × DataW H) → Nat
  | [] => 0
  | x :: r => uptoBulkEntry x + uptoBulkEntries r
def uptoBulkEntry {H : Type} : Lit × DataW H → Nat
  | (.string bytes, d) => bytes.length + uptoBulk d + 1
  | (_, d) => uptoBulk d + 1
 end
def uptoSmall : (H : Type) → List (DataW H) → Bool := fun _ ds => decide (uptoBulkAll ds ≤ 1048576)
def OpenSpec.upto (s : _root_.Go.ChangeSpec) : _root_.Go.OpenSpec := { _root_.Go.OpenSpec.ofChange s with cond := some uptoSmall }

/-- 'chandlerylaw13.LiveSizes', WHERE WHAT IT READS IS OF BULK AT MOST 1048576: true; the input reads as it did. -/
def liveSizesUptoRow : OpenClaim := { program := "ytokblanedeiegaadoor", sum := "9e9cf1d91e6a259751115698519d01fc2f55bb5e97c86cd5830ddfdbf8a7277d", func := "chandlery/chandlerylaw13.LiveSizes", spec := "liveSizes", named := ["chandlery/live.kind", "chandlery/live.number"], apart := false, laid := [("chandlery/live.kind", laid_chandlery_live_kind), ("chandlery/live.number", laid_chandlery_live_number)], narrowed := true }
def LiveSizesUptoSaid : Prop := liveSizesUptoRow.holds Tryd.pinned (OpenSpec.upto liveSizesSpec)

/-- 'chandlerylaw13.LiveMoves', WHERE WHAT IT READS IS OF BULK AT MOST 1048576: true; the input reads as it did. -/
def liveMovesUptoRow : OpenClaim := { program := "ytokblanedeiegaadoor", sum := "9e9cf1d91e6a259751115698519d01fc2f55bb5e97c86cd5830ddfdbf8a7277d", func := "chandlery/chandlerylaw13.LiveMoves", spec := "liveMoves", named := ["chandlery/live.kind", "chandlery/live.number"], apart := false, laid := [("chandlery/live.kind", laid_chandlery_live_kind), ("chandlery/live.number", laid_chandlery_live_number)], narrowed := true }
def LiveMovesUptoSaid : Prop := liveMovesUptoRow.holds Tryd.pinned (OpenSpec.upto liveMovesSpec)

/-- 'chandlerylaw13.LiveOnce', WHERE WHAT IT READS IS OF BULK AT MOST 1048576: true; the input reads as it did. -/
def liveOnceUptoRow : OpenClaim := { program := "ytokblanedeiegaadoor", sum := "9e9cf1d91e6a259751115698519d01fc2f55bb5e97c86cd5830ddfdbf8a7277d", func := "chandlery/chandlerylaw13.LiveOnce", spec := "liveOnce", named := ["chandlery/live.kind", "chandlery/live.number"], apart := false, laid := [("chandlery/live.kind", laid_chandlery_live_kind), ("chandlery/live.number", laid_chandlery_live_number)], narrowed := true }
def LiveOnceUptoSaid : Prop := liveOnceUptoRow.holds Tryd.pinned (OpenSpec.upto liveOnceSpec)

/-- 'chandlerylaw13.LiveApart', WHERE WHAT IT READS IS OF BULK AT MOST 1048576: true; the input reads as it did. -/
def liveApartUptoRow : OpenClaim := { program := "ytokblanedeiegaadoor", sum := "9e9cf1d91e6a259751115698519d01fc2f55bb5e97c86cd5830ddfdbf8a7277d", func := "chandlery/chandlerylaw13.LiveApart", spec := "liveApart", named := ["chandlery/live.kind", "chandlery/live.number"], apart := false, laid := [("chandlery/live.kind", laid_chandlery_live_kind), ("chandlery/live.number", laid_chandlery_live_number)], narrowed := true }
def LiveApartUptoSaid : Prop := liveApartUptoRow.holds Tryd.pinned (OpenSpec.upto liveApartSpec)

/-- 'chandlerylaw13.LiveDoes', WHERE WHAT IT READS IS OF BULK AT MOST 1048576: true; the input reads as it did. -/
def liveDoesUptoRow : OpenClaim := { program := "ytokblanedeiegaadoor", sum := "9e9cf1d91e6a259751115698519d01fc2f55bb5e97c86cd5830ddfdbf8a7277d", func := "chandlery/chandlerylaw13.LiveDoes", spec := "liveDoes", named := ["chandlery/live.kind", "chandlery/live.number"], apart := false, laid := [("chandlery/live.kind", laid_chandlery_live_kind), ("chandlery/live.number", laid_chandlery_live_number)], narrowed := true }
def LiveDoesUptoSaid : Prop := liveDoesUptoRow.holds Tryd.pinned (OpenSpec.upto liveDoesSpec)

end Rows
end Go.Proofs.YtokblanedeiegaaDoor
