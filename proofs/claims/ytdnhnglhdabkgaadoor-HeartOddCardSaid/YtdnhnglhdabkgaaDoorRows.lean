/-
  NARROWER THAN 'FOR EVERY INPUT', by the rows' own cells (each row's printed sentence says how): HeartRuns: laid · HeartDoes: laid · HeartOdd: laid · HeartBack: laid · HeartKeeps: laid.
  DERIVED. THE GIVEN ROWS OF THIS SEAT. 5 by the template 'for every input the law returns true; each argument reads behind the call as it read before'; 0 by the template 'total and deterministic' (their statements: YtdnhnglhdabkgaaDoorTotals.lean).
  GIVEN WITH THE SEED: the statements are not yours to turn. If you find one false, say at which input.
  Laid BY PROGRAM, IN A SANDBOX (cutbox-rows.mjs): the forced cells as the released guide's own fill.sh prints them over the translation 88bcf04437fa6286… (all of the seat's roots in one cut). By AI agents, Wed Nov 11 2026. No macro, syntax, notation, axiom, sorry.
-/
import Derived.Test.YtdnhnglhdabkgaaDoorChecked
import GoSem.Claim
import GoSem.ClaimJoined
import GoSem.ClaimMapViews
import Derived.JoinedTies
import Derived.KernelRfl
namespace Go.Proofs.YtdnhnglhdabkgaaDoor
/- THE CELL 'sum', in the pinned program and in every row, IS THE sha256 OF THE DUMP (.gsa) THAT YtdnhnglhdabkgaaDoorProg.lean LOADS. Nothing in Lean hashes anything: it is a label: what it is worth is what the hold of that sum in a sandbox is worth. -/
noncomputable def Tryd.pinned : Pinned := { name := "ytdnhnglhdabkgaadoor", sum := "88bcf04437fa62860c9adfd596ce153754cf6b9bdfecace16dc995baad79188b", checked := Tryd.checked }
namespace Rows
def none {H : Type} : Left H := { results := [], args := [] }

/- WHAT THE LISTED PACKAGE-LEVEL VARIABLES READ AS WHEN THE CALL BEGINS. Each datum BY PROGRAM (the guide's laid-datum.mjs) off the statement by which the dump's own 'gosem.cut.vars' lays the variable. In a bare row this is a premise. The card (YtdnhnglhdabkgaaDoorCards.lean) ties it to the program's text. -/
def laid_chandlery_heart_asks {H : Type} : DataW H := .agg [.agg [.lit (.int .i64 0), .lit (.int .i64 8)], .agg [.lit (.int .i64 8), .lit (.int .i64 32)]]
def laid_chandlery_heart_kinds {H : Type} : DataW H := .agg [.agg [.lit (.int .i64 0), .lit (.int .i64 8)], .agg [.lit (.int .i64 8), .lit (.int .i64 8)]]

/-- 'chandlerylaw11.HeartRuns': WHATEVER THE INPUT: true; the input reads as it did. -/
def heartRunsSpec : ChangeSpec := { name := "heartRuns", fn := fun _ => fun
  | [d1, d2, d3] => { results := [.lit (.bool true)], args := [d1, d2, d3] }
  | _ => none }
def heartRunsRow : OpenClaim := { program := "ytdnhnglhdabkgaadoor", sum := "88bcf04437fa62860c9adfd596ce153754cf6b9bdfecace16dc995baad79188b", func := "chandlery/chandlerylaw11.HeartRuns", spec := "heartRuns", named := ["chandlery/heart.asks", "chandlery/heart.kinds"], apart := false, laid := [("chandlery/heart.asks", laid_chandlery_heart_asks), ("chandlery/heart.kinds", laid_chandlery_heart_kinds)] }
def HeartRunsSaid : Prop := heartRunsRow.holds Tryd.pinned (OpenSpec.ofChange heartRunsSpec)

/-- ITS FALSE NEIGHBOUR: 'it returns false'. Refute it at one input. -/
def heartRunsWrong : ChangeSpec := { name := "heartRuns", fn := fun _ => fun
  | [d1, d2, d3] => { results := [.lit (.bool false)], args := [d1, d2, d3] }
  | _ => none }
def HeartRunsWrongFalsely : Prop := heartRunsRow.holds Tryd.pinned (OpenSpec.ofChange heartRunsWrong)

/-- 'chandlerylaw11.HeartDoes': WHATEVER THE INPUT: true; the input reads as it did. -/
def heartDoesSpec : ChangeSpec := { name := "heartDoes", fn := fun _ => fun
  | [d1, d2] => { results := [.lit (.bool true)], args := [d1, d2] }
  | _ => none }
def heartDoesRow : OpenClaim := { program := "ytdnhnglhdabkgaadoor", sum := "88bcf04437fa62860c9adfd596ce153754cf6b9bdfecace16dc995baad79188b", func := "chandlery/chandlerylaw11.HeartDoes", spec := "heartDoes", named := ["chandlery/heart.asks", "chandlery/heart.kinds"], apart := false, laid := [("chandlery/heart.asks", laid_chandlery_heart_asks), ("chandlery/heart.kinds", laid_chandlery_heart_kinds)] }
def HeartDoesSaid : Prop := heartDoesRow.holds Tryd.pinned (OpenSpec.ofChange heartDoesSpec)

/-- ITS FALSE NEIGHBOUR: 'it returns false'. Refute it at one input. -/
def heartDoesWrong : ChangeSpec := { name := "heartDoes", fn := fun _ => fun
  | [d1, d2] => { results := [.lit (.bool false)], args := [d1, d2] }
  | _ => none }
def HeartDoesWrongFalsely : Prop := heartDoesRow.holds Tryd.pinned (OpenSpec.ofChange heartDoesWrong)

/-- 'chandlerylaw11.HeartOdd': WHATEVER THE INPUT: true; the input reads as it did. -/
def heartOddSpec : ChangeSpec := { name := "heartOdd", fn := fun _ => fun
  | [d1, d2, d3] => { results := [.lit (.bool true)], args := [d1, d2, d3] }
  | _ => none }
def heartOddRow : OpenClaim := { program := "ytdnhnglhdabkgaadoor", sum := "88bcf04437fa62860c9adfd596ce153754cf6b9bdfecace16dc995baad79188b", func := "chandlery/chandlerylaw11.HeartOdd", spec := "heartOdd", named := ["chandlery/heart.asks", "chandlery/heart.kinds"], apart := false, laid := [("chandlery/heart.asks", laid_chandlery_heart_asks), ("chandlery/heart.kinds", laid_chandlery_heart_kinds)] }
def HeartOddSaid : Prop := heartOddRow.holds Tryd.pinned (OpenSpec.ofChange heartOddSpec)

/-- ITS FALSE NEIGHBOUR: 'it returns false'. Refute it at one input. -/
def heartOddWrong : ChangeSpec := { name := "heartOdd", fn := fun _ => fun
  | [d1, d2, d3] => { results := [.lit (.bool false)], args := [d1, d2, d3] }
  | _ => none }
def HeartOddWrongFalsely : Prop := heartOddRow.holds Tryd.pinned (OpenSpec.ofChange heartOddWrong)

/-- 'chandlerylaw11.HeartBack': WHATEVER THE INPUT: true; the input reads as it did. -/
def heartBackSpec : ChangeSpec := { name := "heartBack", fn := fun _ => fun
  | [d1, d2] => { results := [.lit (.bool true)], args := [d1, d2] }
  | _ => none }
def heartBackRow : OpenClaim := { program := "ytdnhnglhdabkgaadoor", sum := "88bcf04437fa62860c9adfd596ce153754cf6b9bdfecace16dc995baad79188b", func := "chandlery/chandlerylaw11.HeartBack", spec := "heartBack", named := ["chandlery/heart.asks", "chandlery/heart.kinds"], apart := false, laid := [("chandlery/heart.asks", laid_chandlery_heart_asks), ("chandlery/heart.kinds", laid_chandlery_heart_kinds)] }
def HeartBackSaid : Prop := heartBackRow.holds Tryd.pinned (OpenSpec.ofChange heartBackSpec)

/-- ITS FALSE NEIGHBOUR: 'it returns false'. Refute it at one input. -/
def heartBackWrong : ChangeSpec := { name := "heartBack", fn := fun _ => fun
  | [d1, d2] => { results := [.lit (.bool false)], args := [d1, d2] }
  | _ => none }
def HeartBackWrongFalsely : Prop := heartBackRow.holds Tryd.pinned (OpenSpec.ofChange heartBackWrong)

/-- 'chandlerylaw11.HeartKeeps': WHATEVER THE INPUT: true; the input reads as it did. -/
def heartKeepsSpec : ChangeSpec := { name := "heartKeeps", fn := fun _ => fun
  | [d1, d2] => { results := [.lit (.bool true)], args := [d1, d2] }
  | _ => none }
def heartKeepsRow : OpenClaim := { program := "ytdnhnglhdabkgaadoor", sum := "88bcf04437fa62860c9adfd596ce153754cf6b9bdfecace16dc995baad79188b", func := "chandlery/chandlerylaw11.HeartKeeps", spec := "heartKeeps", named := ["chandlery/heart.asks", "chandlery/heart.kinds"], apart := false, laid := [("chandlery/heart.asks", laid_chandlery_heart_asks), ("chandlery/heart.kinds", laid_chandlery_heart_kinds)] }
def HeartKeepsSaid : Prop := heartKeepsRow.holds Tryd.pinned (OpenSpec.ofChange heartKeepsSpec)

/-- ITS FALSE NEIGHBOUR: 'it returns false'. Refute it at one input. -/
def heartKeepsWrong : ChangeSpec := { name := "heartKeeps", fn := fun _ => fun
  | [d1, d2] => { results := [.lit (.bool false)], args := [d1, d2] }
  | _ => none }
def HeartKeepsWrongFalsely : Prop := heartKeepsRow.holds Tryd.pinned (OpenSpec.ofChange heartKeepsWrong)

/- THE SECOND FORM. 'bulk': how many values and letters a reading holds, each counted each time it is reached (what is shared counts as often as it is met; a slice's spare places count too). A statement '..UptoSaid' is the law's where the arguments, and the package variables that the reading takes, are together of bulk at most 1048576: NARROWER than '..Said'. Prove '..Said' where nothing that the law and all that it calls make is longer than what came in: it says more and counts as full. Else prove '..UptoSaid'. A law counts once. -/
mutual
def uptoBulk {H : Type} : DataW H → Nat
  | .lit (.string bytes) => bytes.length + 1
  | .lit _ => 1
  | .nil => 1
  | .ptr d => uptoBulk d + 1
  | .slice elems spare => uptoBulkAll elems + uptoBulkAll spare + 1
  | .agg parts => uptoBulkAll parts + 1
  | .iface _ d => uptoBulk d + 1
  | .map entries => uptoBulkEntries entries + 1
  | .held _ => 1
def uptoBulkAll {H : Type} : List (DataW H) → Nat
  | [] => 0
  | d :: r => uptoBulk d + uptoBulkAll r
def uptoBulkEntries {H : Type} : List (Lit × DataW H) → Nat
  | [] => 0
  | x :: r => uptoBulkEntry x + uptoBulkEntries r
def uptoBulkEntry {H : Type} : Lit × DataW H → Nat
  | (.string bytes, d) => bytes.length + uptoBulk d + 1
  | (_, d) => uptoBulk d + 1
 end
def uptoSmall : (H : Type) → List (DataW H) → Bool := fun _ ds => decide (uptoBulkAll ds ≤ 1048576)
def OpenSpec.upto (s : _root_.Go.ChangeSpec) : _root_.Go.OpenSpec := { _root_.Go.OpenSpec.ofChange s with cond := some uptoSmall }

/-- 'chandlerylaw11.HeartRuns', WHERE WHAT IT READS IS OF BULK AT MOST 1048576: true; the input reads as it did. -/
def heartRunsUptoRow : OpenClaim := { program := "ytdnhnglhdabkgaadoor", sum := "88bcf04437fa62860c9adfd596ce153754cf6b9bdfecace16dc995baad79188b", func := "chandlery/chandlerylaw11.HeartRuns", spec := "heartRuns", named := ["chandlery/heart.asks", "chandlery/heart.kinds"], apart := false, laid := [("chandlery/heart.asks", laid_chandlery_heart_asks), ("chandlery/heart.kinds", laid_chandlery_heart_kinds)], narrowed := true }
def HeartRunsUptoSaid : Prop := heartRunsUptoRow.holds Tryd.pinned (OpenSpec.upto heartRunsSpec)

/-- 'chandlerylaw11.HeartDoes', WHERE WHAT IT READS IS OF BULK AT MOST 1048576: true; the input reads as it did. -/
def heartDoesUptoRow : OpenClaim := { program := "ytdnhnglhdabkgaadoor", sum := "88bcf04437fa62860c9adfd596ce153754cf6b9bdfecace16dc995baad79188b", func := "chandlery/chandlerylaw11.HeartDoes", spec := "heartDoes", named := ["chandlery/heart.asks", "chandlery/heart.kinds"], apart := false, laid := [("chandlery/heart.asks", laid_chandlery_heart_asks), ("chandlery/heart.kinds", laid_chandlery_heart_kinds)], narrowed := true }
def HeartDoesUptoSaid : Prop := heartDoesUptoRow.holds Tryd.pinned (OpenSpec.upto heartDoesSpec)

/-- 'chandlerylaw11.HeartOdd', WHERE WHAT IT READS IS OF BULK AT MOST 1048576: true; the input reads as it did. -/
def heartOddUptoRow : OpenClaim := { program := "ytdnhnglhdabkgaadoor", sum := "88bcf04437fa62860c9adfd596ce153754cf6b9bdfecace16dc995baad79188b", func := "chandlery/chandlerylaw11.HeartOdd", spec := "heartOdd", named := ["chandlery/heart.asks", "chandlery/heart.kinds"], apart := false, laid := [("chandlery/heart.asks", laid_chandlery_heart_asks), ("chandlery/heart.kinds", laid_chandlery_heart_kinds)], narrowed := true }
def HeartOddUptoSaid : Prop := heartOddUptoRow.holds Tryd.pinned (OpenSpec.upto heartOddSpec)

/-- 'chandlerylaw11.HeartBack', WHERE WHAT IT READS IS OF BULK AT MOST 1048576: true; the input reads as it did. -/
def heartBackUptoRow : OpenClaim := { program := "ytdnhnglhdabkgaadoor", sum := "88bcf04437fa62860c9adfd596ce153754cf6b9bdfecace16dc995baad79188b", func := "chandlery/chandlerylaw11.HeartBack", spec := "heartBack", named := ["chandlery/heart.asks", "chandlery/heart.kinds"], apart := false, laid := [("chandlery/heart.asks", laid_chandlery_heart_asks), ("chandlery/heart.kinds", laid_chandlery_heart_kinds)], narrowed := true }
def HeartBackUptoSaid : Prop := heartBackUptoRow.holds Tryd.pinned (OpenSpec.upto heartBackSpec)

/-- 'chandlerylaw11.HeartKeeps', WHERE WHAT IT READS IS OF BULK AT MOST 1048576: true; the input reads as it did. -/
def heartKeepsUptoRow : OpenClaim := { program := "ytdnhnglhdabkgaadoor", sum := "88bcf04437fa62860c9adfd596ce153754cf6b9bdfecace16dc995baad79188b", func := "chandlery/chandlerylaw11.HeartKeeps", spec := "heartKeeps", named := ["chandlery/heart.asks", "chandlery/heart.kinds"], apart := false, laid := [("chandlery/heart.asks", laid_chandlery_heart_asks), ("chandlery/heart.kinds", laid_chandlery_heart_kinds)], narrowed := true }
def HeartKeepsUptoSaid : Prop := heartKeepsUptoRow.holds Tryd.pinned (OpenSpec.upto heartKeepsSpec)

end Rows
end Go.Proofs.YtdnhnglhdabkgaaDoor
