/-
  NARROWER THAN 'FOR EVERY INPUT', by the rows' own cells (each row's printed sentence says how): TagLeast: laid · TagFree: laid · TagOrder: laid · TagSame: laid · TagScans: laid.
  DERIVED. THE GIVEN ROWS OF THIS SEAT. 5 by the template 'for every input the law returns true; each argument reads behind the call as it read before'; 0 by the template 'total and deterministic' (their statements: YtmnpjemapdmigaaDoorTotals.lean).
  GIVEN WITH THE SEED: the statements are not yours to turn. If you find one false, say at which input.
  Laid BY PROGRAM, IN A SANDBOX (cutbox-rows.mjs): the forced cells as the released guide's own fill.sh prints them over the translation 45e7c07442603179… (all of the seat's roots in one cut). By AI agents, Wed Nov 11 2026. No macro, syntax, notation, axiom, sorry.
-/
import Derived.Test.YtmnpjemapdmigaaDoorChecked
import GoSem.Claim
import GoSem.ClaimJoined
import GoSem.ClaimMapViews
import Derived.JoinedTies
import Derived.KernelRfl
namespace Go.Proofs.YtmnpjemapdmigaaDoor
/- THE CELL 'sum', in the pinned program and in every row, IS THE sha256 OF THE DUMP (.gsa) THAT YtmnpjemapdmigaaDoorProg.lean LOADS. Nothing in Lean hashes anything: it is a label: what it is worth is what the hold of that sum in a sandbox is worth. -/
noncomputable def Tryd.pinned : Pinned := { name := "ytmnpjemapdmigaadoor", sum := "45e7c0744260317915a54be0e6c60a2f05c77e62d91f967ce84b4262222caec8", checked := Tryd.checked }
namespace Rows
def none {H : Type} : Left H := { results := [], args := [] }

/- WHAT THE LISTED PACKAGE-LEVEL VARIABLES READ AS WHEN THE CALL BEGINS. Each datum BY PROGRAM (the guide's laid-datum.mjs) off the statement by which the dump's own 'gosem.cut.vars' lays the variable. In a bare row this is a premise. The card (YtmnpjemapdmigaaDoorCards.lean) ties it to the program's text. -/
def laid_chandlery_word_fields {H : Type} : DataW H := .agg [.agg [.lit (.int .i64 0), .lit (.int .i64 8)], .agg [.lit (.int .i64 8), .lit (.int .i64 8)], .agg [.lit (.int .i64 16), .lit (.int .i64 32)], .agg [.lit (.int .i64 63), .lit (.int .i64 1)]]

/-- 'chandlerylaw07.TagLeast': WHATEVER THE INPUT: true; the input reads as it did. -/
def tagLeastSpec : ChangeSpec := { name := "tagLeast", fn := fun _ => fun
  | [d] => { results := [.lit (.bool true)], args := [d] }
  | _ => none }
def tagLeastRow : OpenClaim := { program := "ytmnpjemapdmigaadoor", sum := "45e7c0744260317915a54be0e6c60a2f05c77e62d91f967ce84b4262222caec8", func := "chandlery/chandlerylaw07.TagLeast", spec := "tagLeast", named := ["chandlery/word.fields"], apart := false, laid := [("chandlery/word.fields", laid_chandlery_word_fields)] }
def TagLeastSaid : Prop := tagLeastRow.holds Tryd.pinned (OpenSpec.ofChange tagLeastSpec)

/-- ITS FALSE NEIGHBOUR: 'it returns false'. Refute it at one input. -/
def tagLeastWrong : ChangeSpec := { name := "tagLeast", fn := fun _ => fun
  | [d] => { results := [.lit (.bool false)], args := [d] }
  | _ => none }
def TagLeastWrongFalsely : Prop := tagLeastRow.holds Tryd.pinned (OpenSpec.ofChange tagLeastWrong)

/-- 'chandlerylaw07.TagFree': WHATEVER THE INPUT: true; the input reads as it did. -/
def tagFreeSpec : ChangeSpec := { name := "tagFree", fn := fun _ => fun
  | [d1, d2, d3] => { results := [.lit (.bool true)], args := [d1, d2, d3] }
  | _ => none }
def tagFreeRow : OpenClaim := { program := "ytmnpjemapdmigaadoor", sum := "45e7c0744260317915a54be0e6c60a2f05c77e62d91f967ce84b4262222caec8", func := "chandlery/chandlerylaw07.TagFree", spec := "tagFree", named := ["chandlery/word.fields"], apart := false, laid := [("chandlery/word.fields", laid_chandlery_word_fields)] }
def TagFreeSaid : Prop := tagFreeRow.holds Tryd.pinned (OpenSpec.ofChange tagFreeSpec)

/-- ITS FALSE NEIGHBOUR: 'it returns false'. Refute it at one input. -/
def tagFreeWrong : ChangeSpec := { name := "tagFree", fn := fun _ => fun
  | [d1, d2, d3] => { results := [.lit (.bool false)], args := [d1, d2, d3] }
  | _ => none }
def TagFreeWrongFalsely : Prop := tagFreeRow.holds Tryd.pinned (OpenSpec.ofChange tagFreeWrong)

/-- 'chandlerylaw07.TagOrder': WHATEVER THE INPUT: true; the input reads as it did. -/
def tagOrderSpec : ChangeSpec := { name := "tagOrder", fn := fun _ => fun
  | [d1, d2, d3] => { results := [.lit (.bool true)], args := [d1, d2, d3] }
  | _ => none }
def tagOrderRow : OpenClaim := { program := "ytmnpjemapdmigaadoor", sum := "45e7c0744260317915a54be0e6c60a2f05c77e62d91f967ce84b4262222caec8", func := "chandlery/chandlerylaw07.TagOrder", spec := "tagOrder", named := ["chandlery/word.fields"], apart := false, laid := [("chandlery/word.fields", laid_chandlery_word_fields)] }
def TagOrderSaid : Prop := tagOrderRow.holds Tryd.pinned (OpenSpec.ofChange tagOrderSpec)

/-- ITS FALSE NEIGHBOUR: 'it returns false'. Refute it at one input. -/
def tagOrderWrong : ChangeSpec := { name := "tagOrder", fn := fun _ => fun
  | [d1, d2, d3] => { results := [.lit (.bool false)], args := [d1, d2, d3] }
  | _ => none }
def TagOrderWrongFalsely : Prop := tagOrderRow.holds Tryd.pinned (OpenSpec.ofChange tagOrderWrong)

/-- 'chandlerylaw07.TagSame': WHATEVER THE INPUT: true; the input reads as it did. -/
def tagSameSpec : ChangeSpec := { name := "tagSame", fn := fun _ => fun
  | [d1, d2, d3] => { results := [.lit (.bool true)], args := [d1, d2, d3] }
  | _ => none }
def tagSameRow : OpenClaim := { program := "ytmnpjemapdmigaadoor", sum := "45e7c0744260317915a54be0e6c60a2f05c77e62d91f967ce84b4262222caec8", func := "chandlery/chandlerylaw07.TagSame", spec := "tagSame", named := ["chandlery/word.fields"], apart := false, laid := [("chandlery/word.fields", laid_chandlery_word_fields)] }
def TagSameSaid : Prop := tagSameRow.holds Tryd.pinned (OpenSpec.ofChange tagSameSpec)

/-- ITS FALSE NEIGHBOUR: 'it returns false'. Refute it at one input. -/
def tagSameWrong : ChangeSpec := { name := "tagSame", fn := fun _ => fun
  | [d1, d2, d3] => { results := [.lit (.bool false)], args := [d1, d2, d3] }
  | _ => none }
def TagSameWrongFalsely : Prop := tagSameRow.holds Tryd.pinned (OpenSpec.ofChange tagSameWrong)

/-- 'chandlerylaw07.TagScans': WHATEVER THE INPUT: true; the input reads as it did. -/
def tagScansSpec : ChangeSpec := { name := "tagScans", fn := fun _ => fun
  | [d] => { results := [.lit (.bool true)], args := [d] }
  | _ => none }
def tagScansRow : OpenClaim := { program := "ytmnpjemapdmigaadoor", sum := "45e7c0744260317915a54be0e6c60a2f05c77e62d91f967ce84b4262222caec8", func := "chandlery/chandlerylaw07.TagScans", spec := "tagScans", named := ["chandlery/word.fields"], apart := false, laid := [("chandlery/word.fields", laid_chandlery_word_fields)] }
def TagScansSaid : Prop := tagScansRow.holds Tryd.pinned (OpenSpec.ofChange tagScansSpec)

/-- ITS FALSE NEIGHBOUR: 'it returns false'. Refute it at one input. -/
def tagScansWrong : ChangeSpec := { name := "tagScans", fn := fun _ => fun
  | [d] => { results := [.lit (.bool false)], args := [d] }
  | _ => none }
def TagScansWrongFalsely : Prop := tagScansRow.holds Tryd.pinned (OpenSpec.ofChange tagScansWrong)

/- THE SECOND FORM. 'bulk': how many values and letters a reading holds, each counted each time it is reached (what is shared counts as often as it is met; a slice's spare places count too). A statement '..UptoSaid' is the law's where the arguments, and the package variables that the reading takes, are together of bulk at most 1048576: NARROWER than '..Said'. Prove '..Said' where nothing that the law and all that it calls make is longer than what came in: it says more and counts as full. Else prove '..UptoSaid'. A law counts once. -/
mutual
def uptoBulk {H : Type} : DataW H → Nat
  | .lit (.string bytes) => bytes.length + 1
  | .lit _ => 1
  | .nil => 1
  | .ptr d => uptoBulk d + 1
  | .slice elems spare => uptoBulkAll elems + uptoBulkAll spare + 1
  | .agg parts => uptoBulkAll parts + 1
  | .iface _ d => uptoBulk d + 1
  | .map entries => uptoBulkEntries entries + 1
  | .held _ => 1
def uptoBulkAll {H : Type} : List (DataW H) → Nat
  | [] => 0
  | d :: r => uptoBulk d + uptoBulkAll r
def uptoBulkEntries {H : Type} : List (Lit × DataW H) → Nat
  | [] => 0
  | x :: r => uptoBulkEntry x + uptoBulkEntries r
def uptoBulkEntry {H : Type} : Lit × DataW H → Nat
  | (.string bytes, d) => bytes.length + uptoBulk d + 1
  | (_, d) => uptoBulk d + 1
 end
def uptoSmall : (H : Type) → List (DataW H) → Bool := fun _ ds => decide (uptoBulkAll ds ≤ 1048576)
def OpenSpec.upto (s : _root_.Go.ChangeSpec) : _root_.Go.OpenSpec := { _root_.Go.OpenSpec.ofChange s with cond := some uptoSmall }

/-- 'chandlerylaw07.TagLeast', WHERE WHAT IT READS IS OF BULK AT MOST 1048576: true; the input reads as it did. -/
def tagLeastUptoRow : OpenClaim := { program := "ytmnpjemapdmigaadoor", sum := "45e7c0744260317915a54be0e6c60a2f05c77e62d91f967ce84b4262222caec8", func := "chandlery/chandlerylaw07.TagLeast", spec := "tagLeast", named := ["chandlery/word.fields"], apart := false, laid := [("chandlery/word.fields", laid_chandlery_word_fields)], narrowed := true }
def TagLeastUptoSaid : Prop := tagLeastUptoRow.holds Tryd.pinned (OpenSpec.upto tagLeastSpec)

/-- 'chandlerylaw07.TagFree', WHERE WHAT IT READS IS OF BULK AT MOST 1048576: true; the input reads as it did. -/
def tagFreeUptoRow : OpenClaim := { program := "ytmnpjemapdmigaadoor", sum := "45e7c0744260317915a54be0e6c60a2f05c77e62d91f967ce84b4262222caec8", func := "chandlery/chandlerylaw07.TagFree", spec := "tagFree", named := ["chandlery/word.fields"], apart := false, laid := [("chandlery/word.fields", laid_chandlery_word_fields)], narrowed := true }
def TagFreeUptoSaid : Prop := tagFreeUptoRow.holds Tryd.pinned (OpenSpec.upto tagFreeSpec)

/-- 'chandlerylaw07.TagOrder', WHERE WHAT IT READS IS OF BULK AT MOST 1048576: true; the input reads as it did. -/
def tagOrderUptoRow : OpenClaim := { program := "ytmnpjemapdmigaadoor", sum := "45e7c0744260317915a54be0e6c60a2f05c77e62d91f967ce84b4262222caec8", func := "chandlery/chandlerylaw07.TagOrder", spec := "tagOrder", named := ["chandlery/word.fields"], apart := false, laid := [("chandlery/word.fields", laid_chandlery_word_fields)], narrowed := true }
def TagOrderUptoSaid : Prop := tagOrderUptoRow.holds Tryd.pinned (OpenSpec.upto tagOrderSpec)

/-- 'chandlerylaw07.TagSame', WHERE WHAT IT READS IS OF BULK AT MOST 1048576: true; the input reads as it did. -/
def tagSameUptoRow : OpenClaim := { program := "ytmnpjemapdmigaadoor", sum := "45e7c0744260317915a54be0e6c60a2f05c77e62d91f967ce84b4262222caec8", func := "chandlery/chandlerylaw07.TagSame", spec := "tagSame", named := ["chandlery/word.fields"], apart := false, laid := [("chandlery/word.fields", laid_chandlery_word_fields)], narrowed := true }
def TagSameUptoSaid : Prop := tagSameUptoRow.holds Tryd.pinned (OpenSpec.upto tagSameSpec)

/-- 'chandlerylaw07.TagScans', WHERE WHAT IT READS IS OF BULK AT MOST 1048576: true; the input reads as it did. -/
def tagScansUptoRow : OpenClaim := { program := "ytmnpjemapdmigaadoor", sum := "45e7c0744260317915a54be0e6c60a2f05c77e62d91f967ce84b4262222caec8", func := "chandlery/chandlerylaw07.TagScans", spec := "tagScans", named := ["chandlery/word.fields"], apart := false, laid := [("chandlery/word.fields", laid_chandlery_word_fields)], narrowed := true }
def TagScansUptoSaid : Prop := tagScansUptoRow.holds Tryd.pinned (OpenSpec.upto tagScansSpec)

end Rows
end Go.Proofs.YtmnpjemapdmigaaDoor
