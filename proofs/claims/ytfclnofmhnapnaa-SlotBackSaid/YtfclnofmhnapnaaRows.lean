/-
  No cell of these rows narrows 'for every input' (looked for: loops, veiled, ifaces, maps, wideKeys, modest, calm, conditions, laid).
  DERIVED. THE GIVEN ROWS OF THIS SEAT. 4 by the template 'for every input the law returns true; each argument reads behind the call as it read before'; 0 by the template 'total and deterministic' (their statements: YtfclnofmhnapnaaTotals.lean).
  GIVEN WITH THE SEED: the statements are not yours to turn. If you find one false, say at which input.
  Laid BY PROGRAM, IN A SANDBOX (cutbox-rows.mjs): the forced cells as the released guide's own fill.sh prints them over the translation 9ae7cc97736471f6… (all of the seat's roots in one cut). By AI agents, Wed Nov 11 2026. No macro, syntax, notation, axiom, sorry.
-/
import Derived.Test.YtfclnofmhnapnaaChecked
import GoSem.Claim
import GoSem.ClaimJoined
import GoSem.ClaimMapViews
import Derived.JoinedTies
import Derived.KernelRfl
namespace Go.Proofs.Ytfclnofmhnapnaa
/- THE CELL 'sum', in the pinned program and in every row, IS THE sha256 OF THE DUMP (.gsa) THAT YtfclnofmhnapnaaProg.lean LOADS. Nothing in Lean hashes anything: it is a label: what it is worth is what the hold of that sum in a sandbox is worth. -/
noncomputable def Try.pinned : Pinned := { name := "ytfclnofmhnapnaa", sum := "9ae7cc97736471f6127d86519e306faa221397d780dedb616e4e5846c5da87c6", checked := Try.checked }
namespace Rows
def none {H : Type} : Left H := { results := [], args := [] }

/-- 'chandlerylaw08.SlotPlaces': WHATEVER THE INPUT: true; the input reads as it did. -/
def slotPlacesSpec : ChangeSpec := { name := "slotPlaces", fn := fun _ => fun
  | [d1, d2, d3] => { results := [.lit (.bool true)], args := [d1, d2, d3] }
  | _ => none }
def slotPlacesRow : OpenClaim := { program := "ytfclnofmhnapnaa", sum := "9ae7cc97736471f6127d86519e306faa221397d780dedb616e4e5846c5da87c6", func := "chandlery/chandlerylaw08.SlotPlaces", spec := "slotPlaces", unfollowed := true, recurses := true, apart := false }
def SlotPlacesSaid : Prop := slotPlacesRow.holds Try.pinned (OpenSpec.ofChange slotPlacesSpec)

/-- ITS FALSE NEIGHBOUR: 'it returns false'. Refute it at one input. -/
def slotPlacesWrong : ChangeSpec := { name := "slotPlaces", fn := fun _ => fun
  | [d1, d2, d3] => { results := [.lit (.bool false)], args := [d1, d2, d3] }
  | _ => none }
def SlotPlacesWrongFalsely : Prop := slotPlacesRow.holds Try.pinned (OpenSpec.ofChange slotPlacesWrong)

/-- 'chandlerylaw08.SlotLays': WHATEVER THE INPUT: true; the input reads as it did. -/
def slotLaysSpec : ChangeSpec := { name := "slotLays", fn := fun _ => fun
  | [d1, d2, d3] => { results := [.lit (.bool true)], args := [d1, d2, d3] }
  | _ => none }
def slotLaysRow : OpenClaim := { program := "ytfclnofmhnapnaa", sum := "9ae7cc97736471f6127d86519e306faa221397d780dedb616e4e5846c5da87c6", func := "chandlery/chandlerylaw08.SlotLays", spec := "slotLays", apart := false }
def SlotLaysSaid : Prop := slotLaysRow.holds Try.pinned (OpenSpec.ofChange slotLaysSpec)

/-- ITS FALSE NEIGHBOUR: 'it returns false'. Refute it at one input. -/
def slotLaysWrong : ChangeSpec := { name := "slotLays", fn := fun _ => fun
  | [d1, d2, d3] => { results := [.lit (.bool false)], args := [d1, d2, d3] }
  | _ => none }
def SlotLaysWrongFalsely : Prop := slotLaysRow.holds Try.pinned (OpenSpec.ofChange slotLaysWrong)

/-- 'chandlerylaw08.SlotCopies': WHATEVER THE INPUT: true; the input reads as it did. -/
def slotCopiesSpec : ChangeSpec := { name := "slotCopies", fn := fun _ => fun
  | [d1, d2, d3] => { results := [.lit (.bool true)], args := [d1, d2, d3] }
  | _ => none }
def slotCopiesRow : OpenClaim := { program := "ytfclnofmhnapnaa", sum := "9ae7cc97736471f6127d86519e306faa221397d780dedb616e4e5846c5da87c6", func := "chandlery/chandlerylaw08.SlotCopies", spec := "slotCopies", apart := false }
def SlotCopiesSaid : Prop := slotCopiesRow.holds Try.pinned (OpenSpec.ofChange slotCopiesSpec)

/-- ITS FALSE NEIGHBOUR: 'it returns false'. Refute it at one input. -/
def slotCopiesWrong : ChangeSpec := { name := "slotCopies", fn := fun _ => fun
  | [d1, d2, d3] => { results := [.lit (.bool false)], args := [d1, d2, d3] }
  | _ => none }
def SlotCopiesWrongFalsely : Prop := slotCopiesRow.holds Try.pinned (OpenSpec.ofChange slotCopiesWrong)

/-- 'chandlerylaw08.SlotBack': WHATEVER THE INPUT: true; the input reads as it did. -/
def slotBackSpec : ChangeSpec := { name := "slotBack", fn := fun _ => fun
  | [d] => { results := [.lit (.bool true)], args := [d] }
  | _ => none }
def slotBackRow : OpenClaim := { program := "ytfclnofmhnapnaa", sum := "9ae7cc97736471f6127d86519e306faa221397d780dedb616e4e5846c5da87c6", func := "chandlery/chandlerylaw08.SlotBack", spec := "slotBack", unfollowed := true, recurses := true, apart := false }
def SlotBackSaid : Prop := slotBackRow.holds Try.pinned (OpenSpec.ofChange slotBackSpec)

/-- ITS FALSE NEIGHBOUR: 'it returns false'. Refute it at one input. -/
def slotBackWrong : ChangeSpec := { name := "slotBack", fn := fun _ => fun
  | [d] => { results := [.lit (.bool false)], args := [d] }
  | _ => none }
def SlotBackWrongFalsely : Prop := slotBackRow.holds Try.pinned (OpenSpec.ofChange slotBackWrong)

/- THE SECOND FORM. 'bulk': how many values and letters a reading holds, each counted each time it is reached (what is shared counts as often as it is met; a slice's spare places count too). A statement '..UptoSaid' is the law's where the arguments, and the package variables that the reading takes, are together of bulk at most 1048576: NARROWER than '..Said'. Prove '..Said' where nothing that the law and all that it calls make is longer than what came in: it says more and counts as full. Else prove '..UptoSaid'. A law counts once. -/
mutual
def uptoBulk {H : Type} : DataW H → Nat
  | .lit (.string bytes) => bytes.length + 1
  | .lit _ => 1
  | .nil => 1
  | .ptr d => uptoBulk d + 1
  | .slice elems spare => uptoBulkAll elems + uptoBulkAll spare + 1
  | .agg parts => uptoBulkAll parts + 1
  | .iface _ d => uptoBulk d + 1
  | .map entries => uptoBulkEntries entries + 1
  | .held _ => 1
def uptoBulkAll {H : Type} : List (DataW H) → Nat
  | [] => 0
  | d :: r => uptoBulk d + uptoBulkAll r
def uptoBulkEntries {H : Type} : List (Lit × DataW H) → Nat
  | [] => 0
  | x :: r => uptoBulkEntry x + uptoBulkEntries r
def uptoBulkEntry {H : Type} : Lit × DataW H → Nat
  | (.string bytes, d) => bytes.length + uptoBulk d + 1
  | (_, d) => uptoBulk d + 1
 end
def uptoSmall : (H : Type) → List (DataW H) → Bool := fun _ ds => decide (uptoBulkAll ds ≤ 1048576)
def OpenSpec.upto (s : _root_.Go.ChangeSpec) : _root_.Go.OpenSpec := { _root_.Go.OpenSpec.ofChange s with cond := some uptoSmall }

/-- 'chandlerylaw08.SlotPlaces', WHERE WHAT IT READS IS OF BULK AT MOST 1048576: true; the input reads as it did. -/
def slotPlacesUptoRow : OpenClaim := { program := "ytfclnofmhnapnaa", sum := "9ae7cc97736471f6127d86519e306faa221397d780dedb616e4e5846c5da87c6", func := "chandlery/chandlerylaw08.SlotPlaces", spec := "slotPlaces", unfollowed := true, recurses := true, apart := false, narrowed := true }
def SlotPlacesUptoSaid : Prop := slotPlacesUptoRow.holds Try.pinned (OpenSpec.upto slotPlacesSpec)

/-- 'chandlerylaw08.SlotLays', WHERE WHAT IT READS IS OF BULK AT MOST 1048576: true; the input reads as it did. -/
def slotLaysUptoRow : OpenClaim := { program := "ytfclnofmhnapnaa", sum := "9ae7cc97736471f6127d86519e306faa221397d780dedb616e4e5846c5da87c6", func := "chandlery/chandlerylaw08.SlotLays", spec := "slotLays", apart := false, narrowed := true }
def SlotLaysUptoSaid : Prop := slotLaysUptoRow.holds Try.pinned (OpenSpec.upto slotLaysSpec)

/-- 'chandlerylaw08.SlotCopies', WHERE WHAT IT READS IS OF BULK AT MOST 1048576: true; the input reads as it did. -/
def slotCopiesUptoRow : OpenClaim := { program := "ytfclnofmhnapnaa", sum := "9ae7cc97736471f6127d86519e306faa221397d780dedb616e4e5846c5da87c6", func := "chandlery/chandlerylaw08.SlotCopies", spec := "slotCopies", apart := false, narrowed := true }
def SlotCopiesUptoSaid : Prop := slotCopiesUptoRow.holds Try.pinned (OpenSpec.upto slotCopiesSpec)

/-- 'chandlerylaw08.SlotBack', WHERE WHAT IT READS IS OF BULK AT MOST 1048576: true; the input reads as it did. -/
def slotBackUptoRow : OpenClaim := { program := "ytfclnofmhnapnaa", sum := "9ae7cc97736471f6127d86519e306faa221397d780dedb616e4e5846c5da87c6", func := "chandlery/chandlerylaw08.SlotBack", spec := "slotBack", unfollowed := true, recurses := true, apart := false, narrowed := true }
def SlotBackUptoSaid : Prop := slotBackUptoRow.holds Try.pinned (OpenSpec.upto slotBackSpec)

end Rows
end Go.Proofs.Ytfclnofmhnapnaa
