/-
  NARROWER THAN 'FOR EVERY INPUT', by the rows' own cells (each row's printed sentence says how): HallSums: laid · HallBounds: laid · HallOrders: laid · HallAlone: laid · HallOne: laid · HallTwo: laid.
  DERIVED. THE GIVEN ROWS OF THIS SEAT. 6 by the template 'for every input the law returns true; each argument reads behind the call as it read before'; 0 by the template 'total and deterministic' (their statements: YtnheodgffackoaaDoorTotals.lean).
  GIVEN WITH THE SEED: the statements are not yours to turn. If you find one false, say at which input.
  Laid BY PROGRAM, IN A SANDBOX (cutbox-rows.mjs): the forced cells as the released guide's own fill.sh prints them over the translation 2f7de08b59240779… (all of the seat's roots in one cut). By AI agents, Wed Nov 11 2026. No macro, syntax, notation, axiom, sorry.
-/
import Derived.Test.YtnheodgffackoaaDoorChecked
import GoSem.Claim
import GoSem.ClaimJoined
import GoSem.ClaimMapViews
import Derived.JoinedTies
import Derived.KernelRfl
namespace Go.Proofs.YtnheodgffackoaaDoor
/- THE CELL 'sum', in the pinned program and in every row, IS THE sha256 OF THE DUMP (.gsa) THAT YtnheodgffackoaaDoorProg.lean LOADS. Nothing in Lean hashes anything: it is a label: what it is worth is what the hold of that sum in a sandbox is worth. -/
noncomputable def Tryd.pinned : Pinned := { name := "ytnheodgffackoaadoor", sum := "2f7de08b59240779b583aeff1a5e2a38ea0b096ac616041f995860813f9e8538", checked := Tryd.checked }
namespace Rows
def none {H : Type} : Left H := { results := [], args := [] }

/- WHAT THE LISTED PACKAGE-LEVEL VARIABLES READ AS WHEN THE CALL BEGINS. Each datum BY PROGRAM (the guide's laid-datum.mjs) off the statement by which the dump's own 'gosem.cut.vars' lays the variable. In a bare row this is a premise. The card (YtnheodgffackoaaDoorCards.lean) ties it to the program's text. -/
def laid_chandlery_word_fields {H : Type} : DataW H := .agg [.agg [.lit (.int .i64 0), .lit (.int .i64 8)], .agg [.lit (.int .i64 8), .lit (.int .i64 8)], .agg [.lit (.int .i64 16), .lit (.int .i64 32)], .agg [.lit (.int .i64 63), .lit (.int .i64 1)]]

/-- 'chandlerylaw10.HallSums': WHATEVER THE INPUT: true; the input reads as it did. -/
def hallSumsSpec : ChangeSpec := { name := "hallSums", fn := fun _ => fun
  | [d] => { results := [.lit (.bool true)], args := [d] }
  | _ => none }
def hallSumsRow : OpenClaim := { program := "ytnheodgffackoaadoor", sum := "2f7de08b59240779b583aeff1a5e2a38ea0b096ac616041f995860813f9e8538", func := "chandlery/chandlerylaw10.HallSums", spec := "hallSums", unfollowed := true, recurses := true, named := ["chandlery/word.fields"], apart := false, laid := [("chandlery/word.fields", laid_chandlery_word_fields)] }
def HallSumsSaid : Prop := hallSumsRow.holds Tryd.pinned (OpenSpec.ofChange hallSumsSpec)

/-- ITS FALSE NEIGHBOUR: 'it returns false'. Refute it at one input. -/
def hallSumsWrong : ChangeSpec := { name := "hallSums", fn := fun _ => fun
  | [d] => { results := [.lit (.bool false)], args := [d] }
  | _ => none }
def HallSumsWrongFalsely : Prop := hallSumsRow.holds Tryd.pinned (OpenSpec.ofChange hallSumsWrong)

/-- 'chandlerylaw10.HallBounds': WHATEVER THE INPUT: true; the input reads as it did. -/
def hallBoundsSpec : ChangeSpec := { name := "hallBounds", fn := fun _ => fun
  | [d] => { results := [.lit (.bool true)], args := [d] }
  | _ => none }
def hallBoundsRow : OpenClaim := { program := "ytnheodgffackoaadoor", sum := "2f7de08b59240779b583aeff1a5e2a38ea0b096ac616041f995860813f9e8538", func := "chandlery/chandlerylaw10.HallBounds", spec := "hallBounds", unfollowed := true, recurses := true, named := ["chandlery/word.fields"], apart := false, laid := [("chandlery/word.fields", laid_chandlery_word_fields)] }
def HallBoundsSaid : Prop := hallBoundsRow.holds Tryd.pinned (OpenSpec.ofChange hallBoundsSpec)

/-- ITS FALSE NEIGHBOUR: 'it returns false'. Refute it at one input. -/
def hallBoundsWrong : ChangeSpec := { name := "hallBounds", fn := fun _ => fun
  | [d] => { results := [.lit (.bool false)], args := [d] }
  | _ => none }
def HallBoundsWrongFalsely : Prop := hallBoundsRow.holds Tryd.pinned (OpenSpec.ofChange hallBoundsWrong)

/-- 'chandlerylaw10.HallOrders': WHATEVER THE INPUT: true; the input reads as it did. -/
def hallOrdersSpec : ChangeSpec := { name := "hallOrders", fn := fun _ => fun
  | [d] => { results := [.lit (.bool true)], args := [d] }
  | _ => none }
def hallOrdersRow : OpenClaim := { program := "ytnheodgffackoaadoor", sum := "2f7de08b59240779b583aeff1a5e2a38ea0b096ac616041f995860813f9e8538", func := "chandlery/chandlerylaw10.HallOrders", spec := "hallOrders", unfollowed := true, recurses := true, named := ["chandlery/word.fields"], apart := false, laid := [("chandlery/word.fields", laid_chandlery_word_fields)] }
def HallOrdersSaid : Prop := hallOrdersRow.holds Tryd.pinned (OpenSpec.ofChange hallOrdersSpec)

/-- ITS FALSE NEIGHBOUR: 'it returns false'. Refute it at one input. -/
def hallOrdersWrong : ChangeSpec := { name := "hallOrders", fn := fun _ => fun
  | [d] => { results := [.lit (.bool false)], args := [d] }
  | _ => none }
def HallOrdersWrongFalsely : Prop := hallOrdersRow.holds Tryd.pinned (OpenSpec.ofChange hallOrdersWrong)

/-- 'chandlerylaw10.HallAlone': WHATEVER THE INPUT: true; the input reads as it did. -/
def hallAloneSpec : ChangeSpec := { name := "hallAlone", fn := fun _ => fun
  | [d1, d2] => { results := [.lit (.bool true)], args := [d1, d2] }
  | _ => none }
def hallAloneRow : OpenClaim := { program := "ytnheodgffackoaadoor", sum := "2f7de08b59240779b583aeff1a5e2a38ea0b096ac616041f995860813f9e8538", func := "chandlery/chandlerylaw10.HallAlone", spec := "hallAlone", unfollowed := true, recurses := true, named := ["chandlery/word.fields"], apart := false, laid := [("chandlery/word.fields", laid_chandlery_word_fields)] }
def HallAloneSaid : Prop := hallAloneRow.holds Tryd.pinned (OpenSpec.ofChange hallAloneSpec)

/-- ITS FALSE NEIGHBOUR: 'it returns false'. Refute it at one input. -/
def hallAloneWrong : ChangeSpec := { name := "hallAlone", fn := fun _ => fun
  | [d1, d2] => { results := [.lit (.bool false)], args := [d1, d2] }
  | _ => none }
def HallAloneWrongFalsely : Prop := hallAloneRow.holds Tryd.pinned (OpenSpec.ofChange hallAloneWrong)

/-- 'chandlerylaw10.HallOne': WHATEVER THE INPUT: true; the input reads as it did. -/
def hallOneSpec : ChangeSpec := { name := "hallOne", fn := fun _ => fun
  | [d1, d2, d3] => { results := [.lit (.bool true)], args := [d1, d2, d3] }
  | _ => none }
def hallOneRow : OpenClaim := { program := "ytnheodgffackoaadoor", sum := "2f7de08b59240779b583aeff1a5e2a38ea0b096ac616041f995860813f9e8538", func := "chandlery/chandlerylaw10.HallOne", spec := "hallOne", unfollowed := true, recurses := true, named := ["chandlery/word.fields"], apart := false, laid := [("chandlery/word.fields", laid_chandlery_word_fields)] }
def HallOneSaid : Prop := hallOneRow.holds Tryd.pinned (OpenSpec.ofChange hallOneSpec)

/-- ITS FALSE NEIGHBOUR: 'it returns false'. Refute it at one input. -/
def hallOneWrong : ChangeSpec := { name := "hallOne", fn := fun _ => fun
  | [d1, d2, d3] => { results := [.lit (.bool false)], args := [d1, d2, d3] }
  | _ => none }
def HallOneWrongFalsely : Prop := hallOneRow.holds Tryd.pinned (OpenSpec.ofChange hallOneWrong)

/-- 'chandlerylaw10.HallTwo': WHATEVER THE INPUT: true; the input reads as it did. -/
def hallTwoSpec : ChangeSpec := { name := "hallTwo", fn := fun _ => fun
  | [d] => { results := [.lit (.bool true)], args := [d] }
  | _ => none }
def hallTwoRow : OpenClaim := { program := "ytnheodgffackoaadoor", sum := "2f7de08b59240779b583aeff1a5e2a38ea0b096ac616041f995860813f9e8538", func := "chandlery/chandlerylaw10.HallTwo", spec := "hallTwo", unfollowed := true, recurses := true, named := ["chandlery/word.fields"], apart := false, laid := [("chandlery/word.fields", laid_chandlery_word_fields)] }
def HallTwoSaid : Prop := hallTwoRow.holds Tryd.pinned (OpenSpec.ofChange hallTwoSpec)

/-- ITS FALSE NEIGHBOUR: 'it returns false'. Refute it at one input. -/
def hallTwoWrong : ChangeSpec := { name := "hallTwo", fn := fun _ => fun
  | [d] => { results := [.lit (.bool false)], args := [d] }
  | _ => none }
def HallTwoWrongFalsely : Prop := hallTwoRow.holds Tryd.pinned (OpenSpec.ofChange hallTwoWrong)

/- THE SECOND FORM. 'bulk': how many values and letters a reading holds, each counted each time it is reached (what is shared counts as often as it is met; a slice's spare places count too). A statement '..UptoSaid' is the law's where the arguments, and the package variables that the reading takes, are together of bulk at most 1048576: NARROWER than '..Said'. Prove '..Said' where nothing that the law and all that it calls make is longer than what came in: it says more and counts as full. Else prove '..UptoSaid'. A law counts once. -/
mutual
def uptoBulk {H : Type} : DataW H → Nat
  | .lit (.string bytes) => bytes.length + 1
  | .lit _ => 1
  | .nil => 1
  | .ptr d => uptoBulk d + 1
  | .slice elems spare => uptoBulkAll elems + uptoBulkAll spare + 1
  | .agg parts => uptoBulkAll parts + 1
  | .iface _ d => uptoBulk d + 1
  | .map entries => uptoBulkEntries entries + 1
  | .held _ => 1
def uptoBulkAll {H : Type} : List (DataW H) → Nat
  | [] => 0
  | d :: r => uptoBulk d + uptoBulkAll r
def uptoBulkEntries {H : Type} : List (Lit × DataW H) → Nat
  | [] => 0
  | x :: r => uptoBulkEntry x + uptoBulkEntries r
def uptoBulkEntry {H : Type} : Lit × DataW H → Nat
  | (.string bytes, d) => bytes.length + uptoBulk d + 1
  | (_, d) => uptoBulk d + 1
 end
def uptoSmall : (H : Type) → List (DataW H) → Bool := fun _ ds => decide (uptoBulkAll ds ≤ 1048576)
def OpenSpec.upto (s : _root_.Go.ChangeSpec) : _root_.Go.OpenSpec := { _root_.Go.OpenSpec.ofChange s with cond := some uptoSmall }

/-- 'chandlerylaw10.HallSums', WHERE WHAT IT READS IS OF BULK AT MOST 1048576: true; the input reads as it did. -/
def hallSumsUptoRow : OpenClaim := { program := "ytnheodgffackoaadoor", sum := "2f7de08b59240779b583aeff1a5e2a38ea0b096ac616041f995860813f9e8538", func := "chandlery/chandlerylaw10.HallSums", spec := "hallSums", unfollowed := true, recurses := true, named := ["chandlery/word.fields"], apart := false, laid := [("chandlery/word.fields", laid_chandlery_word_fields)], narrowed := true }
def HallSumsUptoSaid : Prop := hallSumsUptoRow.holds Tryd.pinned (OpenSpec.upto hallSumsSpec)

/-- 'chandlerylaw10.HallBounds', WHERE WHAT IT READS IS OF BULK AT MOST 1048576: true; the input reads as it did. -/
def hallBoundsUptoRow : OpenClaim := { program := "ytnheodgffackoaadoor", sum := "2f7de08b59240779b583aeff1a5e2a38ea0b096ac616041f995860813f9e8538", func := "chandlery/chandlerylaw10.HallBounds", spec := "hallBounds", unfollowed := true, recurses := true, named := ["chandlery/word.fields"], apart := false, laid := [("chandlery/word.fields", laid_chandlery_word_fields)], narrowed := true }
def HallBoundsUptoSaid : Prop := hallBoundsUptoRow.holds Tryd.pinned (OpenSpec.upto hallBoundsSpec)

/-- 'chandlerylaw10.HallOrders', WHERE WHAT IT READS IS OF BULK AT MOST 1048576: true; the input reads as it did. -/
def hallOrdersUptoRow : OpenClaim := { program := "ytnheodgffackoaadoor", sum := "2f7de08b59240779b583aeff1a5e2a38ea0b096ac616041f995860813f9e8538", func := "chandlery/chandlerylaw10.HallOrders", spec := "hallOrders", unfollowed := true, recurses := true, named := ["chandlery/word.fields"], apart := false, laid := [("chandlery/word.fields", laid_chandlery_word_fields)], narrowed := true }
def HallOrdersUptoSaid : Prop := hallOrdersUptoRow.holds Tryd.pinned (OpenSpec.upto hallOrdersSpec)

/-- 'chandlerylaw10.HallAlone', WHERE WHAT IT READS IS OF BULK AT MOST 1048576: true; the input reads as it did. -/
def hallAloneUptoRow : OpenClaim := { program := "ytnheodgffackoaadoor", sum := "2f7de08b59240779b583aeff1a5e2a38ea0b096ac616041f995860813f9e8538", func := "chandlery/chandlerylaw10.HallAlone", spec := "hallAlone", unfollowed := true, recurses := true, named := ["chandlery/word.fields"], apart := false, laid := [("chandlery/word.fields", laid_chandlery_word_fields)], narrowed := true }
def HallAloneUptoSaid : Prop := hallAloneUptoRow.holds Tryd.pinned (OpenSpec.upto hallAloneSpec)

/-- 'chandlerylaw10.HallOne', WHERE WHAT IT READS IS OF BULK AT MOST 1048576: true; the input reads as it did. -/
def hallOneUptoRow : OpenClaim := { program := "ytnheodgffackoaadoor", sum := "2f7de08b59240779b583aeff1a5e2a38ea0b096ac616041f995860813f9e8538", func := "chandlery/chandlerylaw10.HallOne", spec := "hallOne", unfollowed := true, recurses := true, named := ["chandlery/word.fields"], apart := false, laid := [("chandlery/word.fields", laid_chandlery_word_fields)], narrowed := true }
def HallOneUptoSaid : Prop := hallOneUptoRow.holds Tryd.pinned (OpenSpec.upto hallOneSpec)

/-- 'chandlerylaw10.HallTwo', WHERE WHAT IT READS IS OF BULK AT MOST 1048576: true; the input reads as it did. -/
def hallTwoUptoRow : OpenClaim := { program := "ytnheodgffackoaadoor", sum := "2f7de08b59240779b583aeff1a5e2a38ea0b096ac616041f995860813f9e8538", func := "chandlery/chandlerylaw10.HallTwo", spec := "hallTwo", unfollowed := true, recurses := true, named := ["chandlery/word.fields"], apart := false, laid := [("chandlery/word.fields", laid_chandlery_word_fields)], narrowed := true }
def HallTwoUptoSaid : Prop := hallTwoUptoRow.holds Tryd.pinned (OpenSpec.upto hallTwoSpec)

end Rows
end Go.Proofs.YtnheodgffackoaaDoor
