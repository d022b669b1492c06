/-
  NARROWER THAN 'FOR EVERY INPUT', by the rows' own cells (each row's printed sentence says how): WordFields: laid · WordPuts: laid · WordApart: laid · WordRefs: laid · WordTiles: laid · WordSigns: laid.
  DERIVED. THE GIVEN ROWS OF THIS SEAT. 6 by the template 'for every input the law returns true; each argument reads behind the call as it read before'; 0 by the template 'total and deterministic' (their statements: YtlabfkllndmjhaaDoorTotals.lean).
  GIVEN WITH THE SEED: the statements are not yours to turn. If you find one false, say at which input.
  Laid BY PROGRAM, IN A SANDBOX (cutbox-rows.mjs): the forced cells as the released guide's own fill.sh prints them over the translation 189bc8d6b776489e… (all of the seat's roots in one cut). By AI agents, Wed Nov 11 2026. No macro, syntax, notation, axiom, sorry.
-/
import Derived.Test.YtlabfkllndmjhaaDoorChecked
import GoSem.Claim
import GoSem.ClaimJoined
import GoSem.ClaimMapViews
import Derived.JoinedTies
import Derived.KernelRfl
namespace Go.Proofs.YtlabfkllndmjhaaDoor
/- THE CELL 'sum', in the pinned program and in every row, IS THE sha256 OF THE DUMP (.gsa) THAT YtlabfkllndmjhaaDoorProg.lean LOADS. Nothing in Lean hashes anything: it is a label: what it is worth is what the hold of that sum in a sandbox is worth. -/
noncomputable def Tryd.pinned : Pinned := { name := "ytlabfkllndmjhaadoor", sum := "189bc8d6b776489e45e6125e14d5219057f1df21619c57e0ebbe3544eb77b6eb", checked := Tryd.checked }
namespace Rows
def none {H : Type} : Left H := { results := [], args := [] }

/- WHAT THE LISTED PACKAGE-LEVEL VARIABLES READ AS WHEN THE CALL BEGINS. Each datum BY PROGRAM (the guide's laid-datum.mjs) off the statement by which the dump's own 'gosem.cut.vars' lays the variable. In a bare row this is a premise. The card (YtlabfkllndmjhaaDoorCards.lean) ties it to the program's text. -/
def laid_chandlery_word_fields {H : Type} : DataW H := .agg [.agg [.lit (.int .i64 0), .lit (.int .i64 8)], .agg [.lit (.int .i64 8), .lit (.int .i64 8)], .agg [.lit (.int .i64 16), .lit (.int .i64 32)], .agg [.lit (.int .i64 63), .lit (.int .i64 1)]]

/-- 'chandlerylaw01.WordFields': WHATEVER THE INPUT: true; the input reads as it did. -/
def wordFieldsSpec : ChangeSpec := { name := "wordFields", fn := fun _ => fun
  | [d1, d2] => { results := [.lit (.bool true)], args := [d1, d2] }
  | _ => none }
def wordFieldsRow : OpenClaim := { program := "ytlabfkllndmjhaadoor", sum := "189bc8d6b776489e45e6125e14d5219057f1df21619c57e0ebbe3544eb77b6eb", func := "chandlery/chandlerylaw01.WordFields", spec := "wordFields", named := ["chandlery/word.fields"], apart := false, laid := [("chandlery/word.fields", laid_chandlery_word_fields)] }
def WordFieldsSaid : Prop := wordFieldsRow.holds Tryd.pinned (OpenSpec.ofChange wordFieldsSpec)

/-- ITS FALSE NEIGHBOUR: 'it returns false'. Refute it at one input. -/
def wordFieldsWrong : ChangeSpec := { name := "wordFields", fn := fun _ => fun
  | [d1, d2] => { results := [.lit (.bool false)], args := [d1, d2] }
  | _ => none }
def WordFieldsWrongFalsely : Prop := wordFieldsRow.holds Tryd.pinned (OpenSpec.ofChange wordFieldsWrong)

/-- 'chandlerylaw01.WordPuts': WHATEVER THE INPUT: true; the input reads as it did. -/
def wordPutsSpec : ChangeSpec := { name := "wordPuts", fn := fun _ => fun
  | [d1, d2, d3] => { results := [.lit (.bool true)], args := [d1, d2, d3] }
  | _ => none }
def wordPutsRow : OpenClaim := { program := "ytlabfkllndmjhaadoor", sum := "189bc8d6b776489e45e6125e14d5219057f1df21619c57e0ebbe3544eb77b6eb", func := "chandlery/chandlerylaw01.WordPuts", spec := "wordPuts", named := ["chandlery/word.fields"], apart := false, laid := [("chandlery/word.fields", laid_chandlery_word_fields)] }
def WordPutsSaid : Prop := wordPutsRow.holds Tryd.pinned (OpenSpec.ofChange wordPutsSpec)

/-- ITS FALSE NEIGHBOUR: 'it returns false'. Refute it at one input. -/
def wordPutsWrong : ChangeSpec := { name := "wordPuts", fn := fun _ => fun
  | [d1, d2, d3] => { results := [.lit (.bool false)], args := [d1, d2, d3] }
  | _ => none }
def WordPutsWrongFalsely : Prop := wordPutsRow.holds Tryd.pinned (OpenSpec.ofChange wordPutsWrong)

/-- 'chandlerylaw01.WordApart': WHATEVER THE INPUT: true; the input reads as it did. -/
def wordApartSpec : ChangeSpec := { name := "wordApart", fn := fun _ => fun
  | [d] => { results := [.lit (.bool true)], args := [d] }
  | _ => none }
def wordApartRow : OpenClaim := { program := "ytlabfkllndmjhaadoor", sum := "189bc8d6b776489e45e6125e14d5219057f1df21619c57e0ebbe3544eb77b6eb", func := "chandlery/chandlerylaw01.WordApart", spec := "wordApart", named := ["chandlery/word.fields"], apart := false, laid := [("chandlery/word.fields", laid_chandlery_word_fields)] }
def WordApartSaid : Prop := wordApartRow.holds Tryd.pinned (OpenSpec.ofChange wordApartSpec)

/-- ITS FALSE NEIGHBOUR: 'it returns false'. Refute it at one input. -/
def wordApartWrong : ChangeSpec := { name := "wordApart", fn := fun _ => fun
  | [d] => { results := [.lit (.bool false)], args := [d] }
  | _ => none }
def WordApartWrongFalsely : Prop := wordApartRow.holds Tryd.pinned (OpenSpec.ofChange wordApartWrong)

/-- 'chandlerylaw01.WordRefs': WHATEVER THE INPUT: true; the input reads as it did. -/
def wordRefsSpec : ChangeSpec := { name := "wordRefs", fn := fun _ => fun
  | [d1, d2] => { results := [.lit (.bool true)], args := [d1, d2] }
  | _ => none }
def wordRefsRow : OpenClaim := { program := "ytlabfkllndmjhaadoor", sum := "189bc8d6b776489e45e6125e14d5219057f1df21619c57e0ebbe3544eb77b6eb", func := "chandlery/chandlerylaw01.WordRefs", spec := "wordRefs", named := ["chandlery/word.fields"], apart := false, laid := [("chandlery/word.fields", laid_chandlery_word_fields)] }
def WordRefsSaid : Prop := wordRefsRow.holds Tryd.pinned (OpenSpec.ofChange wordRefsSpec)

/-- ITS FALSE NEIGHBOUR: 'it returns false'. Refute it at one input. -/
def wordRefsWrong : ChangeSpec := { name := "wordRefs", fn := fun _ => fun
  | [d1, d2] => { results := [.lit (.bool false)], args := [d1, d2] }
  | _ => none }
def WordRefsWrongFalsely : Prop := wordRefsRow.holds Tryd.pinned (OpenSpec.ofChange wordRefsWrong)

/-- 'chandlerylaw01.WordTiles': WHATEVER THE INPUT: true; the input reads as it did. -/
def wordTilesSpec : ChangeSpec := { name := "wordTiles", fn := fun _ => fun
  | [d1, d2] => { results := [.lit (.bool true)], args := [d1, d2] }
  | _ => none }
def wordTilesRow : OpenClaim := { program := "ytlabfkllndmjhaadoor", sum := "189bc8d6b776489e45e6125e14d5219057f1df21619c57e0ebbe3544eb77b6eb", func := "chandlery/chandlerylaw01.WordTiles", spec := "wordTiles", named := ["chandlery/word.fields"], apart := false, laid := [("chandlery/word.fields", laid_chandlery_word_fields)] }
def WordTilesSaid : Prop := wordTilesRow.holds Tryd.pinned (OpenSpec.ofChange wordTilesSpec)

/-- ITS FALSE NEIGHBOUR: 'it returns false'. Refute it at one input. -/
def wordTilesWrong : ChangeSpec := { name := "wordTiles", fn := fun _ => fun
  | [d1, d2] => { results := [.lit (.bool false)], args := [d1, d2] }
  | _ => none }
def WordTilesWrongFalsely : Prop := wordTilesRow.holds Tryd.pinned (OpenSpec.ofChange wordTilesWrong)

/-- 'chandlerylaw01.WordSigns': WHATEVER THE INPUT: true; the input reads as it did. -/
def wordSignsSpec : ChangeSpec := { name := "wordSigns", fn := fun _ => fun
  | [d1, d2] => { results := [.lit (.bool true)], args := [d1, d2] }
  | _ => none }
def wordSignsRow : OpenClaim := { program := "ytlabfkllndmjhaadoor", sum := "189bc8d6b776489e45e6125e14d5219057f1df21619c57e0ebbe3544eb77b6eb", func := "chandlery/chandlerylaw01.WordSigns", spec := "wordSigns", named := ["chandlery/word.fields"], apart := false, laid := [("chandlery/word.fields", laid_chandlery_word_fields)] }
def WordSignsSaid : Prop := wordSignsRow.holds Tryd.pinned (OpenSpec.ofChange wordSignsSpec)

/-- ITS FALSE NEIGHBOUR: 'it returns false'. Refute it at one input. -/
def wordSignsWrong : ChangeSpec := { name := "wordSigns", fn := fun _ => fun
  | [d1, d2] => { results := [.lit (.bool false)], args := [d1, d2] }
  | _ => none }
def WordSignsWrongFalsely : Prop := wordSignsRow.holds Tryd.pinned (OpenSpec.ofChange wordSignsWrong)

/- THE SECOND FORM. 'bulk': how many values and letters a reading holds, each counted each time it is reached (what is shared counts as often as it is met; a slice's spare places count too). A statement '..UptoSaid' is the law's where the arguments, and the package variables that the reading takes, are together of bulk at most 1048576: NARROWER than '..Said'. Prove '..Said' where nothing that the law and all that it calls make is longer than what came in: it says more and counts as full. Else prove '..UptoSaid'. A law counts once. -/
mutual
def uptoBulk {H : Type} : DataW H → Nat
  | .lit (.string bytes) => bytes.length + 1
  | .lit _ => 1
  | .nil => 1
  | .ptr d => uptoBulk d + 1
  | .slice elems spare => uptoBulkAll elems + uptoBulkAll spare + 1
  | .agg parts => uptoBulkAll parts + 1
  | .iface _ d => uptoBulk d + 1
  | .map entries => uptoBulkEntries entries + 1
  | .held _ => 1
def uptoBulkAll {H : Type} : List (DataW H) → Nat
  | [] => 0
  | d :: r => uptoBulk d + uptoBulkAll r
def uptoBulkEntries {H : Type} : List (Lit × DataW H) → Nat
  | [] => 0
  | x :: r => uptoBulkEntry x + uptoBulkEntries r
def uptoBulkEntry {H : Type} : Lit × DataW H → Nat
  | (.string bytes, d) => bytes.length + uptoBulk d + 1
  | (_, d) => uptoBulk d + 1
 end
def uptoSmall : (H : Type) → List (DataW H) → Bool := fun _ ds => decide (uptoBulkAll ds ≤ 1048576)
def OpenSpec.upto (s : _root_.Go.ChangeSpec) : _root_.Go.OpenSpec := { _root_.Go.OpenSpec.ofChange s with cond := some uptoSmall }

/-- 'chandlerylaw01.WordFields', WHERE WHAT IT READS IS OF BULK AT MOST 1048576: true; the input reads as it did. -/
def wordFieldsUptoRow : OpenClaim := { program := "ytlabfkllndmjhaadoor", sum := "189bc8d6b776489e45e6125e14d5219057f1df21619c57e0ebbe3544eb77b6eb", func := "chandlery/chandlerylaw01.WordFields", spec := "wordFields", named := ["chandlery/word.fields"], apart := false, laid := [("chandlery/word.fields", laid_chandlery_word_fields)], narrowed := true }
def WordFieldsUptoSaid : Prop := wordFieldsUptoRow.holds Tryd.pinned (OpenSpec.upto wordFieldsSpec)

/-- 'chandlerylaw01.WordPuts', WHERE WHAT IT READS IS OF BULK AT MOST 1048576: true; the input reads as it did. -/
def wordPutsUptoRow : OpenClaim := { program := "ytlabfkllndmjhaadoor", sum := "189bc8d6b776489e45e6125e14d5219057f1df21619c57e0ebbe3544eb77b6eb", func := "chandlery/chandlerylaw01.WordPuts", spec := "wordPuts", named := ["chandlery/word.fields"], apart := false, laid := [("chandlery/word.fields", laid_chandlery_word_fields)], narrowed := true }
def WordPutsUptoSaid : Prop := wordPutsUptoRow.holds Tryd.pinned (OpenSpec.upto wordPutsSpec)

/-- 'chandlerylaw01.WordApart', WHERE WHAT IT READS IS OF BULK AT MOST 1048576: true; the input reads as it did. -/
def wordApartUptoRow : OpenClaim := { program := "ytlabfkllndmjhaadoor", sum := "189bc8d6b776489e45e6125e14d5219057f1df21619c57e0ebbe3544eb77b6eb", func := "chandlery/chandlerylaw01.WordApart", spec := "wordApart", named := ["chandlery/word.fields"], apart := false, laid := [("chandlery/word.fields", laid_chandlery_word_fields)], narrowed := true }
def WordApartUptoSaid : Prop := wordApartUptoRow.holds Tryd.pinned (OpenSpec.upto wordApartSpec)

/-- 'chandlerylaw01.WordRefs', WHERE WHAT IT READS IS OF BULK AT MOST 1048576: true; the input reads as it did. -/
def wordRefsUptoRow : OpenClaim := { program := "ytlabfkllndmjhaadoor", sum := "189bc8d6b776489e45e6125e14d5219057f1df21619c57e0ebbe3544eb77b6eb", func := "chandlery/chandlerylaw01.WordRefs", spec := "wordRefs", named := ["chandlery/word.fields"], apart := false, laid := [("chandlery/word.fields", laid_chandlery_word_fields)], narrowed := true }
def WordRefsUptoSaid : Prop := wordRefsUptoRow.holds Tryd.pinned (OpenSpec.upto wordRefsSpec)

/-- 'chandlerylaw01.WordTiles', WHERE WHAT IT READS IS OF BULK AT MOST 1048576: true; the input reads as it did. -/
def wordTilesUptoRow : OpenClaim := { program := "ytlabfkllndmjhaadoor", sum := "189bc8d6b776489e45e6125e14d5219057f1df21619c57e0ebbe3544eb77b6eb", func := "chandlery/chandlerylaw01.WordTiles", spec := "wordTiles", named := ["chandlery/word.fields"], apart := false, laid := [("chandlery/word.fields", laid_chandlery_word_fields)], narrowed := true }
def WordTilesUptoSaid : Prop := wordTilesUptoRow.holds Tryd.pinned (OpenSpec.upto wordTilesSpec)

/-- 'chandlerylaw01.WordSigns', WHERE WHAT IT READS IS OF BULK AT MOST 1048576: true; the input reads as it did. -/
def wordSignsUptoRow : OpenClaim := { program := "ytlabfkllndmjhaadoor", sum := "189bc8d6b776489e45e6125e14d5219057f1df21619c57e0ebbe3544eb77b6eb", func := "chandlery/chandlerylaw01.WordSigns", spec := "wordSigns", named := ["chandlery/word.fields"], apart := false, laid := [("chandlery/word.fields", laid_chandlery_word_fields)], narrowed := true }
def WordSignsUptoSaid : Prop := wordSignsUptoRow.holds Tryd.pinned (OpenSpec.upto wordSignsSpec)

end Rows
end Go.Proofs.YtlabfkllndmjhaaDoor
