/-
  No cell of these rows narrows 'for every input' (looked for: loops, veiled, ifaces, maps, wideKeys, modest, calm, conditions, laid).
  DERIVED. THE GIVEN ROWS OF THIS SEAT. 6 by the template 'for every input the law returns true; each argument reads behind the call as it read before'; 0 by the template 'total and deterministic' (their statements: YtlmoifbklpflaaaTotals.lean).
  GIVEN WITH THE SEED: the statements are not yours to turn. If you find one false, say at which input.
  Laid BY PROGRAM, IN A SANDBOX (cutbox-rows.mjs): the forced cells as the released guide's own fill.sh prints them over the translation a2d19f550d745f84… (all of the seat's roots in one cut). By AI agents, Wed Nov 11 2026. No macro, syntax, notation, axiom, sorry.
-/
import Derived.Test.YtlmoifbklpflaaaChecked
import GoSem.Claim
import GoSem.ClaimJoined
import GoSem.ClaimMapViews
import Derived.JoinedTies
import Derived.KernelRfl
namespace Go.Proofs.Ytlmoifbklpflaaa
/- THE CELL 'sum', in the pinned program and in every row, IS THE sha256 OF THE DUMP (.gsa) THAT YtlmoifbklpflaaaProg.lean LOADS. Nothing in Lean hashes anything: it is a label: what it is worth is what the hold of that sum in a sandbox is worth. -/
noncomputable def Try.pinned : Pinned := { name := "ytlmoifbklpflaaa", sum := "a2d19f550d745f8444f94c2ce32ba8fd8bf5f7f8ae14825ae33f5028c2c58783", checked := Try.checked }
namespace Rows
def none {H : Type} : Left H := { results := [], args := [] }

/-- 'chandlerylaw03.MemSwings': WHATEVER THE INPUT: true; the input reads as it did. -/
def memSwingsSpec : ChangeSpec := { name := "memSwings", fn := fun _ => fun
  | [d1, d2] => { results := [.lit (.bool true)], args := [d1, d2] }
  | _ => none }
def memSwingsRow : OpenClaim := { program := "ytlmoifbklpflaaa", sum := "a2d19f550d745f8444f94c2ce32ba8fd8bf5f7f8ae14825ae33f5028c2c58783", func := "chandlery/chandlerylaw03.MemSwings", spec := "memSwings", apart := false }
def MemSwingsSaid : Prop := memSwingsRow.holds Try.pinned (OpenSpec.ofChange memSwingsSpec)

/-- ITS FALSE NEIGHBOUR: 'it returns false'. Refute it at one input. -/
def memSwingsWrong : ChangeSpec := { name := "memSwings", fn := fun _ => fun
  | [d1, d2] => { results := [.lit (.bool false)], args := [d1, d2] }
  | _ => none }
def MemSwingsWrongFalsely : Prop := memSwingsRow.holds Try.pinned (OpenSpec.ofChange memSwingsWrong)

/-- 'chandlerylaw03.MemAdds': WHATEVER THE INPUT: true; the input reads as it did. -/
def memAddsSpec : ChangeSpec := { name := "memAdds", fn := fun _ => fun
  | [d] => { results := [.lit (.bool true)], args := [d] }
  | _ => none }
def memAddsRow : OpenClaim := { program := "ytlmoifbklpflaaa", sum := "a2d19f550d745f8444f94c2ce32ba8fd8bf5f7f8ae14825ae33f5028c2c58783", func := "chandlery/chandlerylaw03.MemAdds", spec := "memAdds", apart := false }
def MemAddsSaid : Prop := memAddsRow.holds Try.pinned (OpenSpec.ofChange memAddsSpec)

/-- ITS FALSE NEIGHBOUR: 'it returns false'. Refute it at one input. -/
def memAddsWrong : ChangeSpec := { name := "memAdds", fn := fun _ => fun
  | [d] => { results := [.lit (.bool false)], args := [d] }
  | _ => none }
def MemAddsWrongFalsely : Prop := memAddsRow.holds Try.pinned (OpenSpec.ofChange memAddsWrong)

/-- 'chandlerylaw03.MemOwn': WHATEVER THE INPUT: true; the input reads as it did. -/
def memOwnSpec : ChangeSpec := { name := "memOwn", fn := fun _ => fun
  | [d1, d2] => { results := [.lit (.bool true)], args := [d1, d2] }
  | _ => none }
def memOwnRow : OpenClaim := { program := "ytlmoifbklpflaaa", sum := "a2d19f550d745f8444f94c2ce32ba8fd8bf5f7f8ae14825ae33f5028c2c58783", func := "chandlery/chandlerylaw03.MemOwn", spec := "memOwn", apart := false }
def MemOwnSaid : Prop := memOwnRow.holds Try.pinned (OpenSpec.ofChange memOwnSpec)

/-- ITS FALSE NEIGHBOUR: 'it returns false'. Refute it at one input. -/
def memOwnWrong : ChangeSpec := { name := "memOwn", fn := fun _ => fun
  | [d1, d2] => { results := [.lit (.bool false)], args := [d1, d2] }
  | _ => none }
def MemOwnWrongFalsely : Prop := memOwnRow.holds Try.pinned (OpenSpec.ofChange memOwnWrong)

/-- 'chandlerylaw03.MemDoes': WHATEVER THE INPUT: true; the input reads as it did. -/
def memDoesSpec : ChangeSpec := { name := "memDoes", fn := fun _ => fun
  | [d1, d2] => { results := [.lit (.bool true)], args := [d1, d2] }
  | _ => none }
def memDoesRow : OpenClaim := { program := "ytlmoifbklpflaaa", sum := "a2d19f550d745f8444f94c2ce32ba8fd8bf5f7f8ae14825ae33f5028c2c58783", func := "chandlery/chandlerylaw03.MemDoes", spec := "memDoes", apart := false }
def MemDoesSaid : Prop := memDoesRow.holds Try.pinned (OpenSpec.ofChange memDoesSpec)

/-- ITS FALSE NEIGHBOUR: 'it returns false'. Refute it at one input. -/
def memDoesWrong : ChangeSpec := { name := "memDoes", fn := fun _ => fun
  | [d1, d2] => { results := [.lit (.bool false)], args := [d1, d2] }
  | _ => none }
def MemDoesWrongFalsely : Prop := memDoesRow.holds Try.pinned (OpenSpec.ofChange memDoesWrong)

/-- 'chandlerylaw03.MemOne': WHATEVER THE INPUT: true; the input reads as it did. -/
def memOneSpec : ChangeSpec := { name := "memOne", fn := fun _ => fun
  | [d1, d2] => { results := [.lit (.bool true)], args := [d1, d2] }
  | _ => none }
def memOneRow : OpenClaim := { program := "ytlmoifbklpflaaa", sum := "a2d19f550d745f8444f94c2ce32ba8fd8bf5f7f8ae14825ae33f5028c2c58783", func := "chandlery/chandlerylaw03.MemOne", spec := "memOne", apart := false }
def MemOneSaid : Prop := memOneRow.holds Try.pinned (OpenSpec.ofChange memOneSpec)

/-- ITS FALSE NEIGHBOUR: 'it returns false'. Refute it at one input. -/
def memOneWrong : ChangeSpec := { name := "memOne", fn := fun _ => fun
  | [d1, d2] => { results := [.lit (.bool false)], args := [d1, d2] }
  | _ => none }
def MemOneWrongFalsely : Prop := memOneRow.holds Try.pinned (OpenSpec.ofChange memOneWrong)

/-- 'chandlerylaw03.MemOuter': WHATEVER THE INPUT: true; the input reads as it did. -/
def memOuterSpec : ChangeSpec := { name := "memOuter", fn := fun _ => fun
  | [d1, d2, d3] => { results := [.lit (.bool true)], args := [d1, d2, d3] }
  | _ => none }
def memOuterRow : OpenClaim := { program := "ytlmoifbklpflaaa", sum := "a2d19f550d745f8444f94c2ce32ba8fd8bf5f7f8ae14825ae33f5028c2c58783", func := "chandlery/chandlerylaw03.MemOuter", spec := "memOuter", apart := false }
def MemOuterSaid : Prop := memOuterRow.holds Try.pinned (OpenSpec.ofChange memOuterSpec)

/-- ITS FALSE NEIGHBOUR: 'it returns false'. Refute it at one input. -/
def memOuterWrong : ChangeSpec := { name := "memOuter", fn := fun _ => fun
  | [d1, d2, d3] => { results := [.lit (.bool false)], args := [d1, d2, d3] }
  | _ => none }
def MemOuterWrongFalsely : Prop := memOuterRow.holds Try.pinned (OpenSpec.ofChange memOuterWrong)

/- THE SECOND FORM. 'bulk': how many values and letters a reading holds, each counted each time it is reached (what is shared counts as often as it is met; a slice's spare places count too). A statement '..UptoSaid' is the law's where the arguments, and the package variables that the reading takes, are together of bulk at most 1048576: NARROWER than '..Said'. Prove '..Said' where nothing that the law and all that it calls make is longer than what came in: it says more and counts as full. Else prove '..UptoSaid'. A law counts once. -/
mutual
def uptoBulk {H : Type} : DataW H → Nat
  | .lit (.string bytes) => bytes.length + 1
  | .lit _ => 1
  | .nil => 1
  | .ptr d => uptoBulk d + 1
  | .slice elems spare => uptoBulkAll elems + uptoBulkAll spare + 1
  | .agg parts => uptoBulkAll parts + 1
  | .iface _ d => uptoBulk d + 1
  | .map entries => uptoBulkEntries entries + 1
  | .held _ => 1
def uptoBulkAll {H : Type} : List (DataW H) → Nat
  | [] => 0
  | d :: r => uptoBulk d + uptoBulkAll r
def uptoBulkEntries {H : Type} : List (Lit × DataW H) → Nat
  | [] => 0
  | x :: r => uptoBulkEntry x + uptoBulkEntries r
def uptoBulkEntry {H : Type} : Lit × DataW H → Nat
  | (.string bytes, d) => bytes.length + uptoBulk d + 1
  | (_, d) => uptoBulk d + 1
 end
def uptoSmall : (H : Type) → List (DataW H) → Bool := fun _ ds => decide (uptoBulkAll ds ≤ 1048576)
def OpenSpec.upto (s : _root_.Go.ChangeSpec) : _root_.Go.OpenSpec := { _root_.Go.OpenSpec.ofChange s with cond := some uptoSmall }

/-- 'chandlerylaw03.MemSwings', WHERE WHAT IT READS IS OF BULK AT MOST 1048576: true; the input reads as it did. -/
def memSwingsUptoRow : OpenClaim := { program := "ytlmoifbklpflaaa", sum := "a2d19f550d745f8444f94c2ce32ba8fd8bf5f7f8ae14825ae33f5028c2c58783", func := "chandlery/chandlerylaw03.MemSwings", spec := "memSwings", apart := false, narrowed := true }
def MemSwingsUptoSaid : Prop := memSwingsUptoRow.holds Try.pinned (OpenSpec.upto memSwingsSpec)

/-- 'chandlerylaw03.MemAdds', WHERE WHAT IT READS IS OF BULK AT MOST 1048576: true; the input reads as it did. -/
def memAddsUptoRow : OpenClaim := { program := "ytlmoifbklpflaaa", sum := "a2d19f550d745f8444f94c2ce32ba8fd8bf5f7f8ae14825ae33f5028c2c58783", func := "chandlery/chandlerylaw03.MemAdds", spec := "memAdds", apart := false, narrowed := true }
def MemAddsUptoSaid : Prop := memAddsUptoRow.holds Try.pinned (OpenSpec.upto memAddsSpec)

/-- 'chandlerylaw03.MemOwn', WHERE WHAT IT READS IS OF BULK AT MOST 1048576: true; the input reads as it did. -/
def memOwnUptoRow : OpenClaim := { program := "ytlmoifbklpflaaa", sum := "a2d19f550d745f8444f94c2ce32ba8fd8bf5f7f8ae14825ae33f5028c2c58783", func := "chandlery/chandlerylaw03.MemOwn", spec := "memOwn", apart := false, narrowed := true }
def MemOwnUptoSaid : Prop := memOwnUptoRow.holds Try.pinned (OpenSpec.upto memOwnSpec)

/-- 'chandlerylaw03.MemDoes', WHERE WHAT IT READS IS OF BULK AT MOST 1048576: true; the input reads as it did. -/
def memDoesUptoRow : OpenClaim := { program := "ytlmoifbklpflaaa", sum := "a2d19f550d745f8444f94c2ce32ba8fd8bf5f7f8ae14825ae33f5028c2c58783", func := "chandlery/chandlerylaw03.MemDoes", spec := "memDoes", apart := false, narrowed := true }
def MemDoesUptoSaid : Prop := memDoesUptoRow.holds Try.pinned (OpenSpec.upto memDoesSpec)

/-- 'chandlerylaw03.MemOne', WHERE WHAT IT READS IS OF BULK AT MOST 1048576: true; the input reads as it did. -/
def memOneUptoRow : OpenClaim := { program := "ytlmoifbklpflaaa", sum := "a2d19f550d745f8444f94c2ce32ba8fd8bf5f7f8ae14825ae33f5028c2c58783", func := "chandlery/chandlerylaw03.MemOne", spec := "memOne", apart := false, narrowed := true }
def MemOneUptoSaid : Prop := memOneUptoRow.holds Try.pinned (OpenSpec.upto memOneSpec)

/-- 'chandlerylaw03.MemOuter', WHERE WHAT IT READS IS OF BULK AT MOST 1048576: true; the input reads as it did. -/
def memOuterUptoRow : OpenClaim := { program := "ytlmoifbklpflaaa", sum := "a2d19f550d745f8444f94c2ce32ba8fd8bf5f7f8ae14825ae33f5028c2c58783", func := "chandlery/chandlerylaw03.MemOuter", spec := "memOuter", apart := false, narrowed := true }
def MemOuterUptoSaid : Prop := memOuterUptoRow.holds Try.pinned (OpenSpec.upto memOuterSpec)

end Rows
end Go.Proofs.Ytlmoifbklpflaaa
