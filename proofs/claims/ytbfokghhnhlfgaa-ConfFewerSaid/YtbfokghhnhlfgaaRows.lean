/-
  No cell of these rows narrows 'for every input' (looked for: loops, veiled, ifaces, maps, wideKeys, modest, calm, conditions, laid).
  DERIVED. THE GIVEN ROWS OF THIS SEAT. 5 by the template 'for every input the law returns true; each argument reads behind the call as it read before'; 0 by the template 'total and deterministic' (their statements: YtbfokghhnhlfgaaTotals.lean).
  GIVEN WITH THE SEED: the statements are not yours to turn. If you find one false, say at which input.
  Laid BY PROGRAM, IN A SANDBOX (cutbox-rows.mjs): the forced cells as the released guide's own fill.sh prints them over the translation 4eb870dccaf9a090… (all of the seat's roots in one cut). By AI agents, Wed Nov 11 2026. No macro, syntax, notation, axiom, sorry.
-/
import Derived.Test.YtbfokghhnhlfgaaChecked
import GoSem.Claim
import GoSem.ClaimJoined
import GoSem.ClaimMapViews
import Derived.JoinedTies
import Derived.KernelRfl
namespace Go.Proofs.Ytbfokghhnhlfgaa
/- THE CELL 'sum', in the pinned program and in every row, IS THE sha256 OF THE DUMP (.gsa) THAT YtbfokghhnhlfgaaProg.lean LOADS. Nothing in Lean hashes anything: it is a label: what it is worth is what the hold of that sum in a sandbox is worth. -/
noncomputable def Try.pinned : Pinned := { name := "ytbfokghhnhlfgaa", sum := "4eb870dccaf9a09007abbdc8c936c0b12a762e9650272782d7c384b8f4fbc7be", checked := Try.checked }
namespace Rows
def none {H : Type} : Left H := { results := [], args := [] }

/-- 'chandlerylaw04.ConfChecks': WHATEVER THE INPUT: true; the input reads as it did. -/
def confChecksSpec : ChangeSpec := { name := "confChecks", fn := fun _ => fun
  | [d] => { results := [.lit (.bool true)], args := [d] }
  | _ => none }
def confChecksRow : OpenClaim := { program := "ytbfokghhnhlfgaa", sum := "4eb870dccaf9a09007abbdc8c936c0b12a762e9650272782d7c384b8f4fbc7be", func := "chandlery/chandlerylaw04.ConfChecks", spec := "confChecks", apart := false }
def ConfChecksSaid : Prop := confChecksRow.holds Try.pinned (OpenSpec.ofChange confChecksSpec)

/-- ITS FALSE NEIGHBOUR: 'it returns false'. Refute it at one input. -/
def confChecksWrong : ChangeSpec := { name := "confChecks", fn := fun _ => fun
  | [d] => { results := [.lit (.bool false)], args := [d] }
  | _ => none }
def ConfChecksWrongFalsely : Prop := confChecksRow.holds Try.pinned (OpenSpec.ofChange confChecksWrong)

/-- 'chandlerylaw04.ConfBounds': WHATEVER THE INPUT: true; the input reads as it did. -/
def confBoundsSpec : ChangeSpec := { name := "confBounds", fn := fun _ => fun
  | [d] => { results := [.lit (.bool true)], args := [d] }
  | _ => none }
def confBoundsRow : OpenClaim := { program := "ytbfokghhnhlfgaa", sum := "4eb870dccaf9a09007abbdc8c936c0b12a762e9650272782d7c384b8f4fbc7be", func := "chandlery/chandlerylaw04.ConfBounds", spec := "confBounds", apart := false }
def ConfBoundsSaid : Prop := confBoundsRow.holds Try.pinned (OpenSpec.ofChange confBoundsSpec)

/-- ITS FALSE NEIGHBOUR: 'it returns false'. Refute it at one input. -/
def confBoundsWrong : ChangeSpec := { name := "confBounds", fn := fun _ => fun
  | [d] => { results := [.lit (.bool false)], args := [d] }
  | _ => none }
def ConfBoundsWrongFalsely : Prop := confBoundsRow.holds Try.pinned (OpenSpec.ofChange confBoundsWrong)

/-- 'chandlerylaw04.ConfCalls': WHATEVER THE INPUT: true; the input reads as it did. -/
def confCallsSpec : ChangeSpec := { name := "confCalls", fn := fun _ => fun
  | [d1, d2, d3] => { results := [.lit (.bool true)], args := [d1, d2, d3] }
  | _ => none }
def confCallsRow : OpenClaim := { program := "ytbfokghhnhlfgaa", sum := "4eb870dccaf9a09007abbdc8c936c0b12a762e9650272782d7c384b8f4fbc7be", func := "chandlery/chandlerylaw04.ConfCalls", spec := "confCalls", apart := false }
def ConfCallsSaid : Prop := confCallsRow.holds Try.pinned (OpenSpec.ofChange confCallsSpec)

/-- ITS FALSE NEIGHBOUR: 'it returns false'. Refute it at one input. -/
def confCallsWrong : ChangeSpec := { name := "confCalls", fn := fun _ => fun
  | [d1, d2, d3] => { results := [.lit (.bool false)], args := [d1, d2, d3] }
  | _ => none }
def ConfCallsWrongFalsely : Prop := confCallsRow.holds Try.pinned (OpenSpec.ofChange confCallsWrong)

/-- 'chandlerylaw04.ConfOwn': WHATEVER THE INPUT: true; the input reads as it did. -/
def confOwnSpec : ChangeSpec := { name := "confOwn", fn := fun _ => fun
  | [d1, d2] => { results := [.lit (.bool true)], args := [d1, d2] }
  | _ => none }
def confOwnRow : OpenClaim := { program := "ytbfokghhnhlfgaa", sum := "4eb870dccaf9a09007abbdc8c936c0b12a762e9650272782d7c384b8f4fbc7be", func := "chandlery/chandlerylaw04.ConfOwn", spec := "confOwn", apart := false }
def ConfOwnSaid : Prop := confOwnRow.holds Try.pinned (OpenSpec.ofChange confOwnSpec)

/-- ITS FALSE NEIGHBOUR: 'it returns false'. Refute it at one input. -/
def confOwnWrong : ChangeSpec := { name := "confOwn", fn := fun _ => fun
  | [d1, d2] => { results := [.lit (.bool false)], args := [d1, d2] }
  | _ => none }
def ConfOwnWrongFalsely : Prop := confOwnRow.holds Try.pinned (OpenSpec.ofChange confOwnWrong)

/-- 'chandlerylaw04.ConfFewer': WHATEVER THE INPUT: true; the input reads as it did. -/
def confFewerSpec : ChangeSpec := { name := "confFewer", fn := fun _ => fun
  | [d1, d2] => { results := [.lit (.bool true)], args := [d1, d2] }
  | _ => none }
def confFewerRow : OpenClaim := { program := "ytbfokghhnhlfgaa", sum := "4eb870dccaf9a09007abbdc8c936c0b12a762e9650272782d7c384b8f4fbc7be", func := "chandlery/chandlerylaw04.ConfFewer", spec := "confFewer", apart := false }
def ConfFewerSaid : Prop := confFewerRow.holds Try.pinned (OpenSpec.ofChange confFewerSpec)

/-- ITS FALSE NEIGHBOUR: 'it returns false'. Refute it at one input. -/
def confFewerWrong : ChangeSpec := { name := "confFewer", fn := fun _ => fun
  | [d1, d2] => { results := [.lit (.bool false)], args := [d1, d2] }
  | _ => none }
def ConfFewerWrongFalsely : Prop := confFewerRow.holds Try.pinned (OpenSpec.ofChange confFewerWrong)

/- THE SECOND FORM. 'bulk': how many values and letters a reading holds, each counted each time it is reached (what is shared counts as often as it is met; a slice's spare places count too). A statement '..UptoSaid' is the law's where the arguments, and the package variables that the reading takes, are together of bulk at most 1048576: NARROWER than '..Said'. Prove '..Said' where nothing that the law and all that it calls make is longer than what came in: it says more and counts as full. Else prove '..UptoSaid'. A law counts once. -/
mutual
def uptoBulk {H : Type} : DataW H → Nat
  | .lit (.string bytes) => bytes.length + 1
  | .lit _ => 1
  | .nil => 1
  | .ptr d => uptoBulk d + 1
  | .slice elems spare => uptoBulkAll elems + uptoBulkAll spare + 1
  | .agg parts => uptoBulkAll parts + 1
  | .iface _ d => uptoBulk d + 1
  | .map entries => uptoBulkEntries entries + 1
  | .held _ => 1
def uptoBulkAll {H : Type} : List (DataW H) → Nat
  | [] => 0
  | d :: r => uptoBulk d + uptoBulkAll r
def uptoBulkEntries {H : Type} : List (Lit × DataW H) → Nat
  | [] => 0
  | x :: r => uptoBulkEntry x + uptoBulkEntries r
def uptoBulkEntry {H : Type} : Lit × DataW H → Nat
  | (.string bytes, d) => bytes.length + uptoBulk d + 1
  | (_, d) => uptoBulk d + 1
 end
def uptoSmall : (H : Type) → List (DataW H) → Bool := fun _ ds => decide (uptoBulkAll ds ≤ 1048576)
def OpenSpec.upto (s : _root_.Go.ChangeSpec) : _root_.Go.OpenSpec := { _root_.Go.OpenSpec.ofChange s with cond := some uptoSmall }

/-- 'chandlerylaw04.ConfChecks', WHERE WHAT IT READS IS OF BULK AT MOST 1048576: true; the input reads as it did. -/
def confChecksUptoRow : OpenClaim := { program := "ytbfokghhnhlfgaa", sum := "4eb870dccaf9a09007abbdc8c936c0b12a762e9650272782d7c384b8f4fbc7be", func := "chandlery/chandlerylaw04.ConfChecks", spec := "confChecks", apart := false, narrowed := true }
def ConfChecksUptoSaid : Prop := confChecksUptoRow.holds Try.pinned (OpenSpec.upto confChecksSpec)

/-- 'chandlerylaw04.ConfBounds', WHERE WHAT IT READS IS OF BULK AT MOST 1048576: true; the input reads as it did. -/
def confBoundsUptoRow : OpenClaim := { program := "ytbfokghhnhlfgaa", sum := "4eb870dccaf9a09007abbdc8c936c0b12a762e9650272782d7c384b8f4fbc7be", func := "chandlery/chandlerylaw04.ConfBounds", spec := "confBounds", apart := false, narrowed := true }
def ConfBoundsUptoSaid : Prop := confBoundsUptoRow.holds Try.pinned (OpenSpec.upto confBoundsSpec)

/-- 'chandlerylaw04.ConfCalls', WHERE WHAT IT READS IS OF BULK AT MOST 1048576: true; the input reads as it did. -/
def confCallsUptoRow : OpenClaim := { program := "ytbfokghhnhlfgaa", sum := "4eb870dccaf9a09007abbdc8c936c0b12a762e9650272782d7c384b8f4fbc7be", func := "chandlery/chandlerylaw04.ConfCalls", spec := "confCalls", apart := false, narrowed := true }
def ConfCallsUptoSaid : Prop := confCallsUptoRow.holds Try.pinned (OpenSpec.upto confCallsSpec)

/-- 'chandlerylaw04.ConfOwn', WHERE WHAT IT READS IS OF BULK AT MOST 1048576: true; the input reads as it did. -/
def confOwnUptoRow : OpenClaim := { program := "ytbfokghhnhlfgaa", sum := "4eb870dccaf9a09007abbdc8c936c0b12a762e9650272782d7c384b8f4fbc7be", func := "chandlery/chandlerylaw04.ConfOwn", spec := "confOwn", apart := false, narrowed := true }
def ConfOwnUptoSaid : Prop := confOwnUptoRow.holds Try.pinned (OpenSpec.upto confOwnSpec)

/-- 'chandlerylaw04.ConfFewer', WHERE WHAT IT READS IS OF BULK AT MOST 1048576: true; the input reads as it did. -/
def confFewerUptoRow : OpenClaim := { program := "ytbfokghhnhlfgaa", sum := "4eb870dccaf9a09007abbdc8c936c0b12a762e9650272782d7c384b8f4fbc7be", func := "chandlery/chandlerylaw04.ConfFewer", spec := "confFewer", apart := false, narrowed := true }
def ConfFewerUptoSaid : Prop := confFewerUptoRow.holds Try.pinned (OpenSpec.upto confFewerSpec)

end Rows
end Go.Proofs.Ytbfokghhnhlfgaa
