/-
  No cell of these rows narrows 'for every input' (looked for: loops, veiled, ifaces, maps, wideKeys, modest, calm, conditions, laid).
  DERIVED. THE GIVEN ROWS OF THIS SEAT. 3 by the template 'for every input the law returns true; each argument reads behind the call as it read before'; 0 by the template 'total and deterministic' (their statements: YtcicfbccdgkfhaaTotals.lean).
  GIVEN WITH THE SEED: the statements are not yours to turn. If you find one false, say at which input.
  Laid BY PROGRAM, IN A SANDBOX (cutbox-rows.mjs): the forced cells as the released guide's own fill.sh prints them over the translation 2897fc5c1e0be22c… (all of the seat's roots in one cut). By AI agents, Wed Nov 11 2026. No macro, syntax, notation, axiom, sorry.
-/
import Derived.Test.YtcicfbccdgkfhaaChecked
import GoSem.Claim
import GoSem.ClaimJoined
import GoSem.ClaimMapViews
import Derived.JoinedTies
import Derived.KernelRfl
namespace Go.Proofs.Ytcicfbccdgkfhaa
/- THE CELL 'sum', in the pinned program and in every row, IS THE sha256 OF THE DUMP (.gsa) THAT YtcicfbccdgkfhaaProg.lean LOADS. Nothing in Lean hashes anything: it is a label: what it is worth is what the hold of that sum in a sandbox is worth. -/
noncomputable def Try.pinned : Pinned := { name := "ytcicfbccdgkfhaa", sum := "2897fc5c1e0be22c5593e59c55ba3d711b668c329712badefac3ce15c3a9f489", checked := Try.checked }
namespace Rows
def none {H : Type} : Left H := { results := [], args := [] }

/-- 'chandlerytop.WholeSets': WHATEVER THE INPUT: true; the input reads as it did. -/
def wholeSetsSpec : ChangeSpec := { name := "wholeSets", fn := fun _ => fun
  | [d1, d2, d3] => { results := [.lit (.bool true)], args := [d1, d2, d3] }
  | _ => none }
def wholeSetsRow : OpenClaim := { program := "ytcicfbccdgkfhaa", sum := "2897fc5c1e0be22c5593e59c55ba3d711b668c329712badefac3ce15c3a9f489", func := "chandlery/chandlerytop.WholeSets", spec := "wholeSets", apart := false }
def WholeSetsSaid : Prop := wholeSetsRow.holds Try.pinned (OpenSpec.ofChange wholeSetsSpec)

/-- ITS FALSE NEIGHBOUR: 'it returns false'. Refute it at one input. -/
def wholeSetsWrong : ChangeSpec := { name := "wholeSets", fn := fun _ => fun
  | [d1, d2, d3] => { results := [.lit (.bool false)], args := [d1, d2, d3] }
  | _ => none }
def WholeSetsWrongFalsely : Prop := wholeSetsRow.holds Try.pinned (OpenSpec.ofChange wholeSetsWrong)

/-- 'chandlerytop.WholeRoom': WHATEVER THE INPUT: true; the input reads as it did. -/
def wholeRoomSpec : ChangeSpec := { name := "wholeRoom", fn := fun _ => fun
  | [d1, d2] => { results := [.lit (.bool true)], args := [d1, d2] }
  | _ => none }
def wholeRoomRow : OpenClaim := { program := "ytcicfbccdgkfhaa", sum := "2897fc5c1e0be22c5593e59c55ba3d711b668c329712badefac3ce15c3a9f489", func := "chandlery/chandlerytop.WholeRoom", spec := "wholeRoom", apart := false }
def WholeRoomSaid : Prop := wholeRoomRow.holds Try.pinned (OpenSpec.ofChange wholeRoomSpec)

/-- ITS FALSE NEIGHBOUR: 'it returns false'. Refute it at one input. -/
def wholeRoomWrong : ChangeSpec := { name := "wholeRoom", fn := fun _ => fun
  | [d1, d2] => { results := [.lit (.bool false)], args := [d1, d2] }
  | _ => none }
def WholeRoomWrongFalsely : Prop := wholeRoomRow.holds Try.pinned (OpenSpec.ofChange wholeRoomWrong)

/-- 'chandlerytop.WholeTiles': WHATEVER THE INPUT: true; the input reads as it did. -/
def wholeTilesSpec : ChangeSpec := { name := "wholeTiles", fn := fun _ => fun
  | [d1, d2] => { results := [.lit (.bool true)], args := [d1, d2] }
  | _ => none }
def wholeTilesRow : OpenClaim := { program := "ytcicfbccdgkfhaa", sum := "2897fc5c1e0be22c5593e59c55ba3d711b668c329712badefac3ce15c3a9f489", func := "chandlery/chandlerytop.WholeTiles", spec := "wholeTiles", inPlace := ["slices.overlaps[chandlery/api.Interval]"], unfollowed := true, recurses := true, apart := false }
def WholeTilesSaid : Prop := wholeTilesRow.holds Try.pinned (OpenSpec.ofChange wholeTilesSpec)

/-- ITS FALSE NEIGHBOUR: 'it returns false'. Refute it at one input. -/
def wholeTilesWrong : ChangeSpec := { name := "wholeTiles", fn := fun _ => fun
  | [d1, d2] => { results := [.lit (.bool false)], args := [d1, d2] }
  | _ => none }
def WholeTilesWrongFalsely : Prop := wholeTilesRow.holds Try.pinned (OpenSpec.ofChange wholeTilesWrong)

/- THE SECOND FORM. 'bulk': how many values and letters a reading holds, each counted each time it is reached (what is shared counts as often as it is met; a slice's spare places count too). A statement '..UptoSaid' is the law's where the arguments, and the package variables that the reading takes, are together of bulk at most 1048576: NARROWER than '..Said'. Prove '..Said' where nothing that the law and all that it calls make is longer than what came in: it says more and counts as full. Else prove '..UptoSaid'. A law counts once. -/
mutual
def uptoBulk {H : Type} : DataW H → Nat
  | .lit (.string bytes) => bytes.length + 1
  | .lit _ => 1
  | .nil => 1
  | .ptr d => uptoBulk d + 1
  | .slice elems spare => uptoBulkAll elems + uptoBulkAll spare + 1
  | .agg parts => uptoBulkAll parts + 1
  | .iface _ d => uptoBulk d + 1
  | .map entries => uptoBulkEntries entries + 1
  | .held _ => 1
def uptoBulkAll {H : Type} : List (DataW H) → Nat
  | [] => 0
  | d :: r => uptoBulk d + uptoBulkAll r
def uptoBulkEntries {H : Type} : List (Lit × DataW H) → Nat
  | [] => 0
  | x :: r => uptoBulkEntry x + uptoBulkEntries r
def uptoBulkEntry {H : Type} : Lit × DataW H → Nat
  | (.string bytes, d) => bytes.length + uptoBulk d + 1
  | (_, d) => uptoBulk d + 1
 end
def uptoSmall : (H : Type) → List (DataW H) → Bool := fun _ ds => decide (uptoBulkAll ds ≤ 1048576)
def OpenSpec.upto (s : _root_.Go.ChangeSpec) : _root_.Go.OpenSpec := { _root_.Go.OpenSpec.ofChange s with cond := some uptoSmall }

/-- 'chandlerytop.WholeSets', WHERE WHAT IT READS IS OF BULK AT MOST 1048576: true; the input reads as it did. -/
def wholeSetsUptoRow : OpenClaim := { program := "ytcicfbccdgkfhaa", sum := "2897fc5c1e0be22c5593e59c55ba3d711b668c329712badefac3ce15c3a9f489", func := "chandlery/chandlerytop.WholeSets", spec := "wholeSets", apart := false, narrowed := true }
def WholeSetsUptoSaid : Prop := wholeSetsUptoRow.holds Try.pinned (OpenSpec.upto wholeSetsSpec)

/-- 'chandlerytop.WholeRoom', WHERE WHAT IT READS IS OF BULK AT MOST 1048576: true; the input reads as it did. -/
def wholeRoomUptoRow : OpenClaim := { program := "ytcicfbccdgkfhaa", sum := "2897fc5c1e0be22c5593e59c55ba3d711b668c329712badefac3ce15c3a9f489", func := "chandlery/chandlerytop.WholeRoom", spec := "wholeRoom", apart := false, narrowed := true }
def WholeRoomUptoSaid : Prop := wholeRoomUptoRow.holds Try.pinned (OpenSpec.upto wholeRoomSpec)

/-- 'chandlerytop.WholeTiles', WHERE WHAT IT READS IS OF BULK AT MOST 1048576: true; the input reads as it did. -/
def wholeTilesUptoRow : OpenClaim := { program := "ytcicfbccdgkfhaa", sum := "2897fc5c1e0be22c5593e59c55ba3d711b668c329712badefac3ce15c3a9f489", func := "chandlery/chandlerytop.WholeTiles", spec := "wholeTiles", inPlace := ["slices.overlaps[chandlery/api.Interval]"], unfollowed := true, recurses := true, apart := false, narrowed := true }
def WholeTilesUptoSaid : Prop := wholeTilesUptoRow.holds Try.pinned (OpenSpec.upto wholeTilesSpec)

end Rows
end Go.Proofs.Ytcicfbccdgkfhaa
