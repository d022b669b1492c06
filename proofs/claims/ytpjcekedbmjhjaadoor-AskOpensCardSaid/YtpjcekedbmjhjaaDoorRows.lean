/-
  NARROWER THAN 'FOR EVERY INPUT', by the rows' own cells (each row's printed sentence says how): AskOpens: laid.
  DERIVED. THE GIVEN ROWS OF THIS SEAT. 1 by the template 'for every input the law returns true; each argument reads behind the call as it read before'; 0 by the template 'total and deterministic' (their statements: YtpjcekedbmjhjaaDoorTotals.lean).
  GIVEN WITH THE SEED: the statements are not yours to turn. If you find one false, say at which input.
  Laid BY PROGRAM, IN A SANDBOX (cutbox-rows.mjs): the forced cells as the released guide's own fill.sh prints them over the translation c76a479dfa28ae8d… (all of the seat's roots in one cut). By AI agents, Wed Nov 11 2026. No macro, syntax, notation, axiom, sorry.
-/
import Derived.Test.YtpjcekedbmjhjaaDoorChecked
import GoSem.Claim
import GoSem.ClaimJoined
import GoSem.ClaimMapViews
import Derived.JoinedTies
import Derived.KernelRfl
namespace Go.Proofs.YtpjcekedbmjhjaaDoor
/- THE CELL 'sum', in the pinned program and in every row, IS THE sha256 OF THE DUMP (.gsa) THAT YtpjcekedbmjhjaaDoorProg.lean LOADS. Nothing in Lean hashes anything: it is a label: what it is worth is what the hold of that sum in a sandbox is worth. -/
noncomputable def Tryd.pinned : Pinned := { name := "ytpjcekedbmjhjaadoor", sum := "c76a479dfa28ae8dbff758589c8585f30a7f6fb2bc045b450fcc42a7dbcbeb53", checked := Tryd.checked }
namespace Rows
def none {H : Type} : Left H := { results := [], args := [] }

/- WHAT THE LISTED PACKAGE-LEVEL VARIABLES READ AS WHEN THE CALL BEGINS. Each datum BY PROGRAM (the guide's laid-datum.mjs) off the statement by which the dump's own 'gosem.cut.vars' lays the variable. In a bare row this is a premise. The card (YtpjcekedbmjhjaaDoorCards.lean) ties it to the program's text. -/
def laid_chandlery_word_fields {H : Type} : DataW H := .agg [.agg [.lit (.int .i64 0), .lit (.int .i64 8)], .agg [.lit (.int .i64 8), .lit (.int .i64 8)], .agg [.lit (.int .i64 16), .lit (.int .i64 32)], .agg [.lit (.int .i64 63), .lit (.int .i64 1)]]
def laid_chandlery_heart_kinds {H : Type} : DataW H := .agg [.agg [.lit (.int .i64 0), .lit (.int .i64 8)], .agg [.lit (.int .i64 8), .lit (.int .i64 8)]]
def laid_chandlery_live_kind {H : Type} : DataW H := .agg [.lit (.int .i64 0), .lit (.int .i64 8)]
def laid_chandlery_live_number {H : Type} : DataW H := .agg [.lit (.int .i64 8), .lit (.int .i64 16)]

/-- 'chandlerylaw14.AskOpens': WHATEVER THE INPUT: true; the input reads as it did. -/
def askOpensSpec : ChangeSpec := { name := "askOpens", fn := fun _ => fun
  | [d1, d2] => { results := [.lit (.bool true)], args := [d1, d2] }
  | _ => none }
def askOpensRow : OpenClaim := { program := "ytpjcekedbmjhjaadoor", sum := "c76a479dfa28ae8dbff758589c8585f30a7f6fb2bc045b450fcc42a7dbcbeb53", func := "chandlery/chandlerylaw14.AskOpens", spec := "askOpens", unfollowed := true, recurses := true, named := ["chandlery/word.fields", "chandlery/live.number", "chandlery/live.kind", "chandlery/heart.kinds"], apart := false, laid := [("chandlery/word.fields", laid_chandlery_word_fields), ("chandlery/heart.kinds", laid_chandlery_heart_kinds), ("chandlery/live.kind", laid_chandlery_live_kind), ("chandlery/live.number", laid_chandlery_live_number)] }
def AskOpensSaid : Prop := askOpensRow.holds Tryd.pinned (OpenSpec.ofChange askOpensSpec)

/-- ITS FALSE NEIGHBOUR: 'it returns false'. Refute it at one input. -/
def askOpensWrong : ChangeSpec := { name := "askOpens", fn := fun _ => fun
  | [d1, d2] => { results := [.lit (.bool false)], args := [d1, d2] }
  | _ => none }
def AskOpensWrongFalsely : Prop := askOpensRow.holds Tryd.pinned (OpenSpec.ofChange askOpensWrong)

/- THE SECOND FORM. 'bulk': how many values and letters a reading holds, each counted each time it is reached (what is shared counts as often as it is met; a slice's spare places count too). A statement '..UptoSaid' is the law's where the arguments, and the package variables that the reading takes, are together of bulk at most 1048576: NARROWER than '..Said'. Prove '..Said' where nothing that the law and all that it calls make is longer than what came in: it says more and counts as full. Else prove '..UptoSaid'. A law counts once. -/
mutual
def uptoBulk {H : Type} : DataW H → Nat
  | .lit (.string bytes) => bytes.length + 1
  | .lit _ => 1
  | .nil => 1
  | .ptr d => uptoBulk d + 1
  | .slice elems spare => uptoBulkAll elems + uptoBulkAll spare + 1
  | .agg parts => uptoBulkAll parts + 1
  | .iface _ d => uptoBulk d + 1
  | .map entries => uptoBulkEntries entries + 1
  | .held _ => 1
def uptoBulkAll {H : Type} : List (DataW H) → Nat
  | [] => 0
  | d :: r => uptoBulk d + uptoBulkAll r
def uptoBulkEntries {H : Type} : List (Lit × DataW H) → Nat
  | [] => 0
  | x :: r => uptoBulkEntry x + uptoBulkEntries r
def uptoBulkEntry {H : Type} : Lit × DataW H → Nat
  | (.string bytes, d) => bytes.length + uptoBulk d + 1
  | (_, d) => uptoBulk d + 1
 end
def uptoSmall : (H : Type) → List (DataW H) → Bool := fun _ ds => decide (uptoBulkAll ds ≤ 1048576)
def OpenSpec.upto (s : _root_.Go.ChangeSpec) : _root_.Go.OpenSpec := { _root_.Go.OpenSpec.ofChange s with cond := some uptoSmall }

/-- 'chandlerylaw14.AskOpens', WHERE WHAT IT READS IS OF BULK AT MOST 1048576: true; the input reads as it did. -/
def askOpensUptoRow : OpenClaim := { program := "ytpjcekedbmjhjaadoor", sum := "c76a479dfa28ae8dbff758589c8585f30a7f6fb2bc045b450fcc42a7dbcbeb53", func := "chandlery/chandlerylaw14.AskOpens", spec := "askOpens", unfollowed := true, recurses := true, named := ["chandlery/word.fields", "chandlery/live.number", "chandlery/live.kind", "chandlery/heart.kinds"], apart := false, laid := [("chandlery/word.fields", laid_chandlery_word_fields), ("chandlery/heart.kinds", laid_chandlery_heart_kinds), ("chandlery/live.kind", laid_chandlery_live_kind), ("chandlery/live.number", laid_chandlery_live_number)], narrowed := true }
def AskOpensUptoSaid : Prop := askOpensUptoRow.holds Tryd.pinned (OpenSpec.upto askOpensSpec)

end Rows
end Go.Proofs.YtpjcekedbmjhjaaDoor
