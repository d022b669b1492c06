/-
  No cell of these rows narrows 'for every input' (looked for: loops, veiled, ifaces, maps, wideKeys, modest, calm, conditions, laid).
  DERIVED. THE GIVEN ROWS OF THIS SEAT. 5 by the template 'for every input the law returns true; each argument reads behind the call as it read before'; 0 by the template 'total and deterministic' (their statements: YtcebgfmeabbdpaaTotals.lean).
  GIVEN WITH THE SEED: the statements are not yours to turn. If you find one false, say at which input.
  Laid BY PROGRAM, IN A SANDBOX (cutbox-rows.mjs): the forced cells as the released guide's own fill.sh prints them over the translation 40347e5ee359c194… (all of the seat's roots in one cut). By AI agents, Wed Nov 11 2026. No macro, syntax, notation, axiom, sorry.
-/
import Derived.Test.YtcebgfmeabbdpaaChecked
import GoSem.Claim
import GoSem.ClaimJoined
import GoSem.ClaimMapViews
import Derived.JoinedTies
import Derived.KernelRfl
namespace Go.Proofs.Ytcebgfmeabbdpaa
/- THE CELL 'sum', in the pinned program and in every row, IS THE sha256 OF THE DUMP (.gsa) THAT YtcebgfmeabbdpaaProg.lean LOADS. Nothing in Lean hashes anything: it is a label: what it is worth is what the hold of that sum in a sandbox is worth. -/
noncomputable def Try.pinned : Pinned := { name := "ytcebgfmeabbdpaa", sum := "40347e5ee359c194efe505b11195e445b13ac6a4e854e4ea3192d6ac4c8f782b", checked := Try.checked }
namespace Rows
def none {H : Type} : Left H := { results := [], args := [] }

/-- 'chandlerylaw09.ObjCounts': WHATEVER THE INPUT: true; the input reads as it did. -/
def objCountsSpec : ChangeSpec := { name := "objCounts", fn := fun _ => fun
  | [d] => { results := [.lit (.bool true)], args := [d] }
  | _ => none }
def objCountsRow : OpenClaim := { program := "ytcebgfmeabbdpaa", sum := "40347e5ee359c194efe505b11195e445b13ac6a4e854e4ea3192d6ac4c8f782b", func := "chandlery/chandlerylaw09.ObjCounts", spec := "objCounts", unfollowed := true, recurses := true, apart := false }
def ObjCountsSaid : Prop := objCountsRow.holds Try.pinned (OpenSpec.ofChange objCountsSpec)

/-- ITS FALSE NEIGHBOUR: 'it returns false'. Refute it at one input. -/
def objCountsWrong : ChangeSpec := { name := "objCounts", fn := fun _ => fun
  | [d] => { results := [.lit (.bool false)], args := [d] }
  | _ => none }
def ObjCountsWrongFalsely : Prop := objCountsRow.holds Try.pinned (OpenSpec.ofChange objCountsWrong)

/-- 'chandlerylaw09.ObjStacks': WHATEVER THE INPUT: true; the input reads as it did. -/
def objStacksSpec : ChangeSpec := { name := "objStacks", fn := fun _ => fun
  | [d1, d2] => { results := [.lit (.bool true)], args := [d1, d2] }
  | _ => none }
def objStacksRow : OpenClaim := { program := "ytcebgfmeabbdpaa", sum := "40347e5ee359c194efe505b11195e445b13ac6a4e854e4ea3192d6ac4c8f782b", func := "chandlery/chandlerylaw09.ObjStacks", spec := "objStacks", unfollowed := true, recurses := true, apart := false }
def ObjStacksSaid : Prop := objStacksRow.holds Try.pinned (OpenSpec.ofChange objStacksSpec)

/-- ITS FALSE NEIGHBOUR: 'it returns false'. Refute it at one input. -/
def objStacksWrong : ChangeSpec := { name := "objStacks", fn := fun _ => fun
  | [d1, d2] => { results := [.lit (.bool false)], args := [d1, d2] }
  | _ => none }
def ObjStacksWrongFalsely : Prop := objStacksRow.holds Try.pinned (OpenSpec.ofChange objStacksWrong)

/-- 'chandlerylaw09.ObjParts': WHATEVER THE INPUT: true; the input reads as it did. -/
def objPartsSpec : ChangeSpec := { name := "objParts", fn := fun _ => fun
  | [d1, d2, d3] => { results := [.lit (.bool true)], args := [d1, d2, d3] }
  | _ => none }
def objPartsRow : OpenClaim := { program := "ytcebgfmeabbdpaa", sum := "40347e5ee359c194efe505b11195e445b13ac6a4e854e4ea3192d6ac4c8f782b", func := "chandlery/chandlerylaw09.ObjParts", spec := "objParts", unfollowed := true, recurses := true, apart := false }
def ObjPartsSaid : Prop := objPartsRow.holds Try.pinned (OpenSpec.ofChange objPartsSpec)

/-- ITS FALSE NEIGHBOUR: 'it returns false'. Refute it at one input. -/
def objPartsWrong : ChangeSpec := { name := "objParts", fn := fun _ => fun
  | [d1, d2, d3] => { results := [.lit (.bool false)], args := [d1, d2, d3] }
  | _ => none }
def ObjPartsWrongFalsely : Prop := objPartsRow.holds Try.pinned (OpenSpec.ofChange objPartsWrong)

/-- 'chandlerylaw09.ObjUndoes': WHATEVER THE INPUT: true; the input reads as it did. -/
def objUndoesSpec : ChangeSpec := { name := "objUndoes", fn := fun _ => fun
  | [d1, d2, d3] => { results := [.lit (.bool true)], args := [d1, d2, d3] }
  | _ => none }
def objUndoesRow : OpenClaim := { program := "ytcebgfmeabbdpaa", sum := "40347e5ee359c194efe505b11195e445b13ac6a4e854e4ea3192d6ac4c8f782b", func := "chandlery/chandlerylaw09.ObjUndoes", spec := "objUndoes", unfollowed := true, recurses := true, apart := false }
def ObjUndoesSaid : Prop := objUndoesRow.holds Try.pinned (OpenSpec.ofChange objUndoesSpec)

/-- ITS FALSE NEIGHBOUR: 'it returns false'. Refute it at one input. -/
def objUndoesWrong : ChangeSpec := { name := "objUndoes", fn := fun _ => fun
  | [d1, d2, d3] => { results := [.lit (.bool false)], args := [d1, d2, d3] }
  | _ => none }
def ObjUndoesWrongFalsely : Prop := objUndoesRow.holds Try.pinned (OpenSpec.ofChange objUndoesWrong)

/-- 'chandlerylaw09.ObjSums': WHATEVER THE INPUT: true; the input reads as it did. -/
def objSumsSpec : ChangeSpec := { name := "objSums", fn := fun _ => fun
  | [d] => { results := [.lit (.bool true)], args := [d] }
  | _ => none }
def objSumsRow : OpenClaim := { program := "ytcebgfmeabbdpaa", sum := "40347e5ee359c194efe505b11195e445b13ac6a4e854e4ea3192d6ac4c8f782b", func := "chandlery/chandlerylaw09.ObjSums", spec := "objSums", unfollowed := true, recurses := true, apart := false }
def ObjSumsSaid : Prop := objSumsRow.holds Try.pinned (OpenSpec.ofChange objSumsSpec)

/-- ITS FALSE NEIGHBOUR: 'it returns false'. Refute it at one input. -/
def objSumsWrong : ChangeSpec := { name := "objSums", fn := fun _ => fun
  | [d] => { results := [.lit (.bool false)], args := [d] }
  | _ => none }
def ObjSumsWrongFalsely : Prop := objSumsRow.holds Try.pinned (OpenSpec.ofChange objSumsWrong)

/- THE SECOND FORM. 'bulk': how many values and letters a reading holds, each counted each time it is reached (what is shared counts as often as it is met; a slice's spare places count too). A statement '..UptoSaid' is the law's where the arguments, and the package variables that the reading takes, are together of bulk at most 1048576: NARROWER than '..Said'. Prove '..Said' where nothing that the law and all that it calls make is longer than what came in: it says more and counts as full. Else prove '..UptoSaid'. A law counts once. -/
mutual
def uptoBulk {H : Type} : DataW H → Nat
  | .lit (.string bytes) => bytes.length + 1
  | .lit _ => 1
  | .nil => 1
  | .ptr d => uptoBulk d + 1
  | .slice elems spare => uptoBulkAll elems + uptoBulkAll spare + 1
  | .agg parts => uptoBulkAll parts + 1
  | .iface _ d => uptoBulk d + 1
  | .map entries => uptoBulkEntries entries + 1
  | .held _ => 1
def uptoBulkAll {H : Type} : List (DataW H) → Nat
  | [] => 0
  | d :: r => uptoBulk d + uptoBulkAll r
def uptoBulkEntries {H : Type} : List (Lit × DataW H) → Nat
  | [] => 0
  | x :: r => uptoBulkEntry x + uptoBulkEntries r
def uptoBulkEntry {H : Type} : Lit × DataW H → Nat
  | (.string bytes, d) => bytes.length + uptoBulk d + 1
  | (_, d) => uptoBulk d + 1
 end
def uptoSmall : (H : Type) → List (DataW H) → Bool := fun _ ds => decide (uptoBulkAll ds ≤ 1048576)
def OpenSpec.upto (s : _root_.Go.ChangeSpec) : _root_.Go.OpenSpec := { _root_.Go.OpenSpec.ofChange s with cond := some uptoSmall }

/-- 'chandlerylaw09.ObjCounts', WHERE WHAT IT READS IS OF BULK AT MOST 1048576: true; the input reads as it did. -/
def objCountsUptoRow : OpenClaim := { program := "ytcebgfmeabbdpaa", sum := "40347e5ee359c194efe505b11195e445b13ac6a4e854e4ea3192d6ac4c8f782b", func := "chandlery/chandlerylaw09.ObjCounts", spec := "objCounts", unfollowed := true, recurses := true, apart := false, narrowed := true }
def ObjCountsUptoSaid : Prop := objCountsUptoRow.holds Try.pinned (OpenSpec.upto objCountsSpec)

/-- 'chandlerylaw09.ObjStacks', WHERE WHAT IT READS IS OF BULK AT MOST 1048576: true; the input reads as it did. -/
def objStacksUptoRow : OpenClaim := { program := "ytcebgfmeabbdpaa", sum := "40347e5ee359c194efe505b11195e445b13ac6a4e854e4ea3192d6ac4c8f782b", func := "chandlery/chandlerylaw09.ObjStacks", spec := "objStacks", unfollowed := true, recurses := true, apart := false, narrowed := true }
def ObjStacksUptoSaid : Prop := objStacksUptoRow.holds Try.pinned (OpenSpec.upto objStacksSpec)

/-- 'chandlerylaw09.ObjParts', WHERE WHAT IT READS IS OF BULK AT MOST 1048576: true; the input reads as it did. -/
def objPartsUptoRow : OpenClaim := { program := "ytcebgfmeabbdpaa", sum := "40347e5ee359c194efe505b11195e445b13ac6a4e854e4ea3192d6ac4c8f782b", func := "chandlery/chandlerylaw09.ObjParts", spec := "objParts", unfollowed := true, recurses := true, apart := false, narrowed := true }
def ObjPartsUptoSaid : Prop := objPartsUptoRow.holds Try.pinned (OpenSpec.upto objPartsSpec)

/-- 'chandlerylaw09.ObjUndoes', WHERE WHAT IT READS IS OF BULK AT MOST 1048576: true; the input reads as it did. -/
def objUndoesUptoRow : OpenClaim := { program := "ytcebgfmeabbdpaa", sum := "40347e5ee359c194efe505b11195e445b13ac6a4e854e4ea3192d6ac4c8f782b", func := "chandlery/chandlerylaw09.ObjUndoes", spec := "objUndoes", unfollowed := true, recurses := true, apart := false, narrowed := true }
def ObjUndoesUptoSaid : Prop := objUndoesUptoRow.holds Try.pinned (OpenSpec.upto objUndoesSpec)

/-- 'chandlerylaw09.ObjSums', WHERE WHAT IT READS IS OF BULK AT MOST 1048576: true; the input reads as it did. -/
def objSumsUptoRow : OpenClaim := { program := "ytcebgfmeabbdpaa", sum := "40347e5ee359c194efe505b11195e445b13ac6a4e854e4ea3192d6ac4c8f782b", func := "chandlery/chandlerylaw09.ObjSums", spec := "objSums", unfollowed := true, recurses := true, apart := false, narrowed := true }
def ObjSumsUptoSaid : Prop := objSumsUptoRow.holds Try.pinned (OpenSpec.upto objSumsSpec)

end Rows
end Go.Proofs.Ytcebgfmeabbdpaa
