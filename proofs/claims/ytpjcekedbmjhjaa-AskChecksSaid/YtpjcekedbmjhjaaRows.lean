/-
  No cell of these rows narrows 'for every input' (looked for: loops, veiled, ifaces, maps, wideKeys, modest, calm, conditions, laid).
  DERIVED. THE GIVEN ROWS OF THIS SEAT. 3 by the template 'for every input the law returns true; each argument reads behind the call as it read before'; 0 by the template 'total and deterministic' (their statements: YtpjcekedbmjhjaaTotals.lean).
  GIVEN WITH THE SEED: the statements are not yours to turn. If you find one false, say at which input.
  Laid BY PROGRAM, IN A SANDBOX (cutbox-rows.mjs): the forced cells as the released guide's own fill.sh prints them over the translation ddda5cc8b78b6793… (all of the seat's roots in one cut). By AI agents, Wed Nov 11 2026. No macro, syntax, notation, axiom, sorry.
-/
import Derived.Test.YtpjcekedbmjhjaaChecked
import GoSem.Claim
import GoSem.ClaimJoined
import GoSem.ClaimMapViews
import Derived.JoinedTies
import Derived.KernelRfl
namespace Go.Proofs.Ytpjcekedbmjhjaa
/- THE CELL 'sum', in the pinned program and in every row, IS THE sha256 OF THE DUMP (.gsa) THAT YtpjcekedbmjhjaaProg.lean LOADS. Nothing in Lean hashes anything: it is a label: what it is worth is what the hold of that sum in a sandbox is worth. -/
noncomputable def Try.pinned : Pinned := { name := "ytpjcekedbmjhjaa", sum := "ddda5cc8b78b679393844f8d51f32c5d365c3992935867ab8f6a34fcdd4e0f8f", checked := Try.checked }
namespace Rows
def none {H : Type} : Left H := { results := [], args := [] }

/-- 'chandlerylaw14.AskChecks': WHATEVER THE INPUT: true; the input reads as it did. -/
def askChecksSpec : ChangeSpec := { name := "askChecks", fn := fun _ => fun
  | [d1, d2] => { results := [.lit (.bool true)], args := [d1, d2] }
  | _ => none }
def askChecksRow : OpenClaim := { program := "ytpjcekedbmjhjaa", sum := "ddda5cc8b78b679393844f8d51f32c5d365c3992935867ab8f6a34fcdd4e0f8f", func := "chandlery/chandlerylaw14.AskChecks", spec := "askChecks", apart := false }
def AskChecksSaid : Prop := askChecksRow.holds Try.pinned (OpenSpec.ofChange askChecksSpec)

/-- ITS FALSE NEIGHBOUR: 'it returns false'. Refute it at one input. -/
def askChecksWrong : ChangeSpec := { name := "askChecks", fn := fun _ => fun
  | [d1, d2] => { results := [.lit (.bool false)], args := [d1, d2] }
  | _ => none }
def AskChecksWrongFalsely : Prop := askChecksRow.holds Try.pinned (OpenSpec.ofChange askChecksWrong)

/-- 'chandlerylaw14.AskFits': WHATEVER THE INPUT: true; the input reads as it did. -/
def askFitsSpec : ChangeSpec := { name := "askFits", fn := fun _ => fun
  | [d1, d2] => { results := [.lit (.bool true)], args := [d1, d2] }
  | _ => none }
def askFitsRow : OpenClaim := { program := "ytpjcekedbmjhjaa", sum := "ddda5cc8b78b679393844f8d51f32c5d365c3992935867ab8f6a34fcdd4e0f8f", func := "chandlery/chandlerylaw14.AskFits", spec := "askFits", apart := false }
def AskFitsSaid : Prop := askFitsRow.holds Try.pinned (OpenSpec.ofChange askFitsSpec)

/-- ITS FALSE NEIGHBOUR: 'it returns false'. Refute it at one input. -/
def askFitsWrong : ChangeSpec := { name := "askFits", fn := fun _ => fun
  | [d1, d2] => { results := [.lit (.bool false)], args := [d1, d2] }
  | _ => none }
def AskFitsWrongFalsely : Prop := askFitsRow.holds Try.pinned (OpenSpec.ofChange askFitsWrong)

/-- 'chandlerylaw14.AskRises': WHATEVER THE INPUT: true; the input reads as it did. -/
def askRisesSpec : ChangeSpec := { name := "askRises", fn := fun _ => fun
  | [d1, d2, d3] => { results := [.lit (.bool true)], args := [d1, d2, d3] }
  | _ => none }
def askRisesRow : OpenClaim := { program := "ytpjcekedbmjhjaa", sum := "ddda5cc8b78b679393844f8d51f32c5d365c3992935867ab8f6a34fcdd4e0f8f", func := "chandlery/chandlerylaw14.AskRises", spec := "askRises", apart := false }
def AskRisesSaid : Prop := askRisesRow.holds Try.pinned (OpenSpec.ofChange askRisesSpec)

/-- ITS FALSE NEIGHBOUR: 'it returns false'. Refute it at one input. -/
def askRisesWrong : ChangeSpec := { name := "askRises", fn := fun _ => fun
  | [d1, d2, d3] => { results := [.lit (.bool false)], args := [d1, d2, d3] }
  | _ => none }
def AskRisesWrongFalsely : Prop := askRisesRow.holds Try.pinned (OpenSpec.ofChange askRisesWrong)

/- THE SECOND FORM. 'bulk': how many values and letters a reading holds, each counted each time it is reached (what is shared counts as often as it is met; a slice's spare places count too). A statement '..UptoSaid' is the law's where the arguments, and the package variables that the reading takes, are together of bulk at most 1048576: NARROWER than '..Said'. Prove '..Said' where nothing that the law and all that it calls make is longer than what came in: it says more and counts as full. Else prove '..UptoSaid'. A law counts once. -/
mutual
def uptoBulk {H : Type} : DataW H → Nat
  | .lit (.string bytes) => bytes.length + 1
  | .lit _ => 1
  | .nil => 1
  | .ptr d => uptoBulk d + 1
  | .slice elems spare => uptoBulkAll elems + uptoBulkAll spare + 1
  | .agg parts => uptoBulkAll parts + 1
  | .iface _ d => uptoBulk d + 1
  | .map entries => uptoBulkEntries entries + 1
  | .held _ => 1
def uptoBulkAll {H : Type} : List (DataW H) → Nat
  | [] => 0
  | d :: r => uptoBulk d + uptoBulkAll r
def uptoBulkEntries {H : Type} : List (Lit × DataW H) → Nat
  | [] => 0
  | x :: r => uptoBulkEntry x + uptoBulkEntries r
def uptoBulkEntry {H : Type} : Lit × DataW H → Nat
  | (.string bytes, d) => bytes.length + uptoBulk d + 1
  | (_, d) => uptoBulk d + 1
 end
def uptoSmall : (H : Type) → List (DataW H) → Bool := fun _ ds => decide (uptoBulkAll ds ≤ 1048576)
def OpenSpec.upto (s : _root_.Go.ChangeSpec) : _root_.Go.OpenSpec := { _root_.Go.OpenSpec.ofChange s with cond := some uptoSmall }

/-- 'chandlerylaw14.AskChecks', WHERE WHAT IT READS IS OF BULK AT MOST 1048576: true; the input reads as it did. -/
def askChecksUptoRow : OpenClaim := { program := "ytpjcekedbmjhjaa", sum := "ddda5cc8b78b679393844f8d51f32c5d365c3992935867ab8f6a34fcdd4e0f8f", func := "chandlery/chandlerylaw14.AskChecks", spec := "askChecks", apart := false, narrowed := true }
def AskChecksUptoSaid : Prop := askChecksUptoRow.holds Try.pinned (OpenSpec.upto askChecksSpec)

/-- 'chandlerylaw14.AskFits', WHERE WHAT IT READS IS OF BULK AT MOST 1048576: true; the input reads as it did. -/
def askFitsUptoRow : OpenClaim := { program := "ytpjcekedbmjhjaa", sum := "ddda5cc8b78b679393844f8d51f32c5d365c3992935867ab8f6a34fcdd4e0f8f", func := "chandlery/chandlerylaw14.AskFits", spec := "askFits", apart := false, narrowed := true }
def AskFitsUptoSaid : Prop := askFitsUptoRow.holds Try.pinned (OpenSpec.upto askFitsSpec)

/-- 'chandlerylaw14.AskRises', WHERE WHAT IT READS IS OF BULK AT MOST 1048576: true; the input reads as it did. -/
def askRisesUptoRow : OpenClaim := { program := "ytpjcekedbmjhjaa", sum := "ddda5cc8b78b679393844f8d51f32c5d365c3992935867ab8f6a34fcdd4e0f8f", func := "chandlery/chandlerylaw14.AskRises", spec := "askRises", apart := false, narrowed := true }
def AskRisesUptoSaid : Prop := askRisesUptoRow.holds Try.pinned (OpenSpec.upto askRisesSpec)

end Rows
end Go.Proofs.Ytpjcekedbmjhjaa
