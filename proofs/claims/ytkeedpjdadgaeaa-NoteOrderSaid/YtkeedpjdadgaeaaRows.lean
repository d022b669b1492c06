/-
  No cell of these rows narrows 'for every input' (looked for: loops, veiled, ifaces, maps, wideKeys, modest, calm, conditions, laid).
  DERIVED. THE GIVEN ROWS OF THIS SEAT. 4 by the template 'for every input the law returns true; each argument reads behind the call as it read before'; 0 by the template 'total and deterministic' (their statements: YtkeedpjdadgaeaaTotals.lean).
  GIVEN WITH THE SEED: the statements are not yours to turn. If you find one false, say at which input.
  Laid BY PROGRAM, IN A SANDBOX (cutbox-rows.mjs): the forced cells as the released guide's own fill.sh prints them over the translation 4323e94f55733f64… (all of the seat's roots in one cut). By AI agents, Wed Nov 11 2026. No macro, syntax, notation, axiom, sorry.
-/
import Derived.Test.YtkeedpjdadgaeaaChecked
import GoSem.Claim
import GoSem.ClaimJoined
import GoSem.ClaimMapViews
import Derived.JoinedTies
import Derived.KernelRfl
namespace Go.Proofs.Ytkeedpjdadgaeaa
/- THE CELL 'sum', in the pinned program and in every row, IS THE sha256 OF THE DUMP (.gsa) THAT YtkeedpjdadgaeaaProg.lean LOADS. Nothing in Lean hashes anything: it is a label: what it is worth is what the hold of that sum in a sandbox is worth. -/
noncomputable def Try.pinned : Pinned := { name := "ytkeedpjdadgaeaa", sum := "4323e94f55733f645cfa6642ad07424a41c4cbee371477d936566164a9d2bb2d", checked := Try.checked }
namespace Rows
def none {H : Type} : Left H := { results := [], args := [] }

/-- 'chandlerylaw18.NoteOwn': WHATEVER THE INPUT: true; the input reads as it did. -/
def noteOwnSpec : ChangeSpec := { name := "noteOwn", fn := fun _ => fun
  | [d] => { results := [.lit (.bool true)], args := [d] }
  | _ => none }
def noteOwnRow : OpenClaim := { program := "ytkeedpjdadgaeaa", sum := "4323e94f55733f645cfa6642ad07424a41c4cbee371477d936566164a9d2bb2d", func := "chandlery/chandlerylaw18.NoteOwn", spec := "noteOwn", apart := false }
def NoteOwnSaid : Prop := noteOwnRow.holds Try.pinned (OpenSpec.ofChange noteOwnSpec)

/-- ITS FALSE NEIGHBOUR: 'it returns false'. Refute it at one input. -/
def noteOwnWrong : ChangeSpec := { name := "noteOwn", fn := fun _ => fun
  | [d] => { results := [.lit (.bool false)], args := [d] }
  | _ => none }
def NoteOwnWrongFalsely : Prop := noteOwnRow.holds Try.pinned (OpenSpec.ofChange noteOwnWrong)

/-- 'chandlerylaw18.NoteOrder': WHATEVER THE INPUT: true; the input reads as it did. -/
def noteOrderSpec : ChangeSpec := { name := "noteOrder", fn := fun _ => fun
  | [d] => { results := [.lit (.bool true)], args := [d] }
  | _ => none }
def noteOrderRow : OpenClaim := { program := "ytkeedpjdadgaeaa", sum := "4323e94f55733f645cfa6642ad07424a41c4cbee371477d936566164a9d2bb2d", func := "chandlery/chandlerylaw18.NoteOrder", spec := "noteOrder", apart := false }
def NoteOrderSaid : Prop := noteOrderRow.holds Try.pinned (OpenSpec.ofChange noteOrderSpec)

/-- ITS FALSE NEIGHBOUR: 'it returns false'. Refute it at one input. -/
def noteOrderWrong : ChangeSpec := { name := "noteOrder", fn := fun _ => fun
  | [d] => { results := [.lit (.bool false)], args := [d] }
  | _ => none }
def NoteOrderWrongFalsely : Prop := noteOrderRow.holds Try.pinned (OpenSpec.ofChange noteOrderWrong)

/-- 'chandlerylaw18.NoteApart': WHATEVER THE INPUT: true; the input reads as it did. -/
def noteApartSpec : ChangeSpec := { name := "noteApart", fn := fun _ => fun
  | [d1, d2] => { results := [.lit (.bool true)], args := [d1, d2] }
  | _ => none }
def noteApartRow : OpenClaim := { program := "ytkeedpjdadgaeaa", sum := "4323e94f55733f645cfa6642ad07424a41c4cbee371477d936566164a9d2bb2d", func := "chandlery/chandlerylaw18.NoteApart", spec := "noteApart", apart := false }
def NoteApartSaid : Prop := noteApartRow.holds Try.pinned (OpenSpec.ofChange noteApartSpec)

/-- ITS FALSE NEIGHBOUR: 'it returns false'. Refute it at one input. -/
def noteApartWrong : ChangeSpec := { name := "noteApart", fn := fun _ => fun
  | [d1, d2] => { results := [.lit (.bool false)], args := [d1, d2] }
  | _ => none }
def NoteApartWrongFalsely : Prop := noteApartRow.holds Try.pinned (OpenSpec.ofChange noteApartWrong)

/-- 'chandlerylaw18.NoteDoes': WHATEVER THE INPUT: true; the input reads as it did. -/
def noteDoesSpec : ChangeSpec := { name := "noteDoes", fn := fun _ => fun
  | [d] => { results := [.lit (.bool true)], args := [d] }
  | _ => none }
def noteDoesRow : OpenClaim := { program := "ytkeedpjdadgaeaa", sum := "4323e94f55733f645cfa6642ad07424a41c4cbee371477d936566164a9d2bb2d", func := "chandlery/chandlerylaw18.NoteDoes", spec := "noteDoes", apart := false }
def NoteDoesSaid : Prop := noteDoesRow.holds Try.pinned (OpenSpec.ofChange noteDoesSpec)

/-- ITS FALSE NEIGHBOUR: 'it returns false'. Refute it at one input. -/
def noteDoesWrong : ChangeSpec := { name := "noteDoes", fn := fun _ => fun
  | [d] => { results := [.lit (.bool false)], args := [d] }
  | _ => none }
def NoteDoesWrongFalsely : Prop := noteDoesRow.holds Try.pinned (OpenSpec.ofChange noteDoesWrong)

/- THE SECOND FORM. 'bulk': how many values and letters a reading holds, each counted each time it is reached (what is shared counts as often as it is met; a slice's spare places count too). A statement '..UptoSaid' is the law's where the arguments, and the package variables that the reading takes, are together of bulk at most 1048576: NARROWER than '..Said'. Prove '..Said' where nothing that the law and all that it calls make is longer than what came in: it says more and counts as full. Else prove '..UptoSaid'. A law counts once. -/
mutual
def uptoBulk {H : Type} : DataW H → Nat
  | .lit (.string bytes) => bytes.length + 1
  | .lit _ => 1
  | .nil => 1
  | .ptr d => uptoBulk d + 1
  | .slice elems spare => uptoBulkAll elems + uptoBulkAll spare + 1
  | .agg parts => uptoBulkAll parts + 1
  | .iface _ d => uptoBulk d + 1
  | .map entries => uptoBulkEntries entries + 1
  | .held _ => 1
def uptoBulkAll {H : Type} : List (DataW H) → Nat
  | [] => 0
  | d :: r => uptoBulk d + uptoBulkAll r
def uptoBulkEntries {H : Type} : List (Lit × DataW H) → Nat
  | [] => 0
  | x :: r => uptoBulkEntry x + uptoBulkEntries r
def uptoBulkEntry {H : Type} : Lit × DataW H → Nat
  | (.string bytes, d) => bytes.length + uptoBulk d + 1
  | (_, d) => uptoBulk d + 1
 end
def uptoSmall : (H : Type) → List (DataW H) → Bool := fun _ ds => decide (uptoBulkAll ds ≤ 1048576)
def OpenSpec.upto (s : _root_.Go.ChangeSpec) : _root_.Go.OpenSpec := { _root_.Go.OpenSpec.ofChange s with cond := some uptoSmall }

/-- 'chandlerylaw18.NoteOwn', WHERE WHAT IT READS IS OF BULK AT MOST 1048576: true; the input reads as it did. -/
def noteOwnUptoRow : OpenClaim := { program := "ytkeedpjdadgaeaa", sum := "4323e94f55733f645cfa6642ad07424a41c4cbee371477d936566164a9d2bb2d", func := "chandlery/chandlerylaw18.NoteOwn", spec := "noteOwn", apart := false, narrowed := true }
def NoteOwnUptoSaid : Prop := noteOwnUptoRow.holds Try.pinned (OpenSpec.upto noteOwnSpec)

/-- 'chandlerylaw18.NoteOrder', WHERE WHAT IT READS IS OF BULK AT MOST 1048576: true; the input reads as it did. -/
def noteOrderUptoRow : OpenClaim := { program := "ytkeedpjdadgaeaa", sum := "4323e94f55733f645cfa6642ad07424a41c4cbee371477d936566164a9d2bb2d", func := "chandlery/chandlerylaw18.NoteOrder", spec := "noteOrder", apart := false, narrowed := true }
def NoteOrderUptoSaid : Prop := noteOrderUptoRow.holds Try.pinned (OpenSpec.upto noteOrderSpec)

/-- 'chandlerylaw18.NoteApart', WHERE WHAT IT READS IS OF BULK AT MOST 1048576: true; the input reads as it did. -/
def noteApartUptoRow : OpenClaim := { program := "ytkeedpjdadgaeaa", sum := "4323e94f55733f645cfa6642ad07424a41c4cbee371477d936566164a9d2bb2d", func := "chandlery/chandlerylaw18.NoteApart", spec := "noteApart", apart := false, narrowed := true }
def NoteApartUptoSaid : Prop := noteApartUptoRow.holds Try.pinned (OpenSpec.upto noteApartSpec)

/-- 'chandlerylaw18.NoteDoes', WHERE WHAT IT READS IS OF BULK AT MOST 1048576: true; the input reads as it did. -/
def noteDoesUptoRow : OpenClaim := { program := "ytkeedpjdadgaeaa", sum := "4323e94f55733f645cfa6642ad07424a41c4cbee371477d936566164a9d2bb2d", func := "chandlery/chandlerylaw18.NoteDoes", spec := "noteDoes", apart := false, narrowed := true }
def NoteDoesUptoSaid : Prop := noteDoesUptoRow.holds Try.pinned (OpenSpec.upto noteDoesSpec)

end Rows
end Go.Proofs.Ytkeedpjdadgaeaa
