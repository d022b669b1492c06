/-
  NARROWER THAN 'FOR EVERY INPUT', by the rows' own cells (each row's printed sentence says how): WholeTags: laid · WholeShops: laid · WholeFlow: laid · WholeStill: laid.
  DERIVED. THE GIVEN ROWS OF THIS SEAT. 4 by the template 'for every input the law returns true; each argument reads behind the call as it read before'; 0 by the template 'total and deterministic' (their statements: YtcicfbccdgkfhaaDoorTotals.lean).
  GIVEN WITH THE SEED: the statements are not yours to turn. If you find one false, say at which input.
  Laid BY PROGRAM, IN A SANDBOX (cutbox-rows.mjs): the forced cells as the released guide's own fill.sh prints them over the translation fca5d4b11fc3415d… (all of the seat's roots in one cut). By AI agents, Wed Nov 11 2026. No macro, syntax, notation, axiom, sorry.
-/
import Derived.Test.YtcicfbccdgkfhaaDoorChecked
import GoSem.Claim
import GoSem.ClaimJoined
import GoSem.ClaimMapViews
import Derived.JoinedTies
import Derived.KernelRfl
namespace Go.Proofs.YtcicfbccdgkfhaaDoor
/- THE CELL 'sum', in the pinned program and in every row, IS THE sha256 OF THE DUMP (.gsa) THAT YtcicfbccdgkfhaaDoorProg.lean LOADS. Nothing in Lean hashes anything: it is a label: what it is worth is what the hold of that sum in a sandbox is worth. -/
noncomputable def Tryd.pinned : Pinned := { name := "ytcicfbccdgkfhaadoor", sum := "fca5d4b11fc3415de88afbc693ed0605596a6095d9f6d88f4f60efec3824c4e8", checked := Tryd.checked }
namespace Rows
def none {H : Type} : Left H := { results := [], args := [] }

/- WHAT THE LISTED PACKAGE-LEVEL VARIABLES READ AS WHEN THE CALL BEGINS. Each datum BY PROGRAM (the guide's laid-datum.mjs) off the statement by which the dump's own 'gosem.cut.vars' lays the variable. In a bare row this is a premise. The card (YtcicfbccdgkfhaaDoorCards.lean) ties it to the program's text. -/
def laid_chandlery_word_fields {H : Type} : DataW H := .agg [.agg [.lit (.int .i64 0), .lit (.int .i64 8)], .agg [.lit (.int .i64 8), .lit (.int .i64 8)], .agg [.lit (.int .i64 16), .lit (.int .i64 32)], .agg [.lit (.int .i64 63), .lit (.int .i64 1)]]
def laid_chandlery_heart_kinds {H : Type} : DataW H := .agg [.agg [.lit (.int .i64 0), .lit (.int .i64 8)], .agg [.lit (.int .i64 8), .lit (.int .i64 8)]]
def laid_chandlery_live_kind {H : Type} : DataW H := .agg [.lit (.int .i64 0), .lit (.int .i64 8)]
def laid_chandlery_live_number {H : Type} : DataW H := .agg [.lit (.int .i64 8), .lit (.int .i64 16)]
def laid_math_bits_deBruijn64tab {H : Type} : DataW H := .agg [.lit (.int .u8 0), .lit (.int .u8 1), .lit (.int .u8 56), .lit (.int .u8 2), .lit (.int .u8 57), .lit (.int .u8 49), .lit (.int .u8 28), .lit (.int .u8 3), .lit (.int .u8 61), .lit (.int .u8 58), .lit (.int .u8 42), .lit (.int .u8 50), .lit (.int .u8 38), .lit (.int .u8 29), .lit (.int .u8 17), .lit (.int .u8 4), .lit (.int .u8 62), .lit (.int .u8 47), .lit (.int .u8 59), .lit (.int .u8 36), .lit (.int .u8 45), .lit (.int .u8 43), .lit (.int .u8 51), .lit (.int .u8 22), .lit (.int .u8 53), .lit (.int .u8 39), .lit (.int .u8 33), .lit (.int .u8 30), .lit (.int .u8 24), .lit (.int .u8 18), .lit (.int .u8 12), .lit (.int .u8 5), .lit (.int .u8 63), .lit (.int .u8 55), .lit (.int .u8 48), .lit (.int .u8 27), .lit (.int .u8 60), .lit (.int .u8 41), .lit (.int .u8 37), .lit (.int .u8 16), .lit (.int .u8 46), .lit (.int .u8 35), .lit (.int .u8 44), .lit (.int .u8 21), .lit (.int .u8 52), .lit (.int .u8 32), .lit (.int .u8 23), .lit (.int .u8 11), .lit (.int .u8 54), .lit (.int .u8 26), .lit (.int .u8 40), .lit (.int .u8 15), .lit (.int .u8 34), .lit (.int .u8 20), .lit (.int .u8 31), .lit (.int .u8 10), .lit (.int .u8 25), .lit (.int .u8 14), .lit (.int .u8 19), .lit (.int .u8 9), .lit (.int .u8 13), .lit (.int .u8 8), .lit (.int .u8 7), .lit (.int .u8 6)]
def laid_chandlery_heart_asks {H : Type} : DataW H := .agg [.agg [.lit (.int .i64 0), .lit (.int .i64 8)], .agg [.lit (.int .i64 8), .lit (.int .i64 32)]]

/-- 'chandlerytop.WholeTags': WHATEVER THE INPUT: true; the input reads as it did. -/
def wholeTagsSpec : ChangeSpec := { name := "wholeTags", fn := fun _ => fun
  | [d1, d2] => { results := [.lit (.bool true)], args := [d1, d2] }
  | _ => none }
def wholeTagsRow : OpenClaim := { program := "ytcicfbccdgkfhaadoor", sum := "fca5d4b11fc3415de88afbc693ed0605596a6095d9f6d88f4f60efec3824c4e8", func := "chandlery/chandlerytop.WholeTags", spec := "wholeTags", named := ["chandlery/word.fields"], plainKeys := false, apart := false, laid := [("chandlery/word.fields", laid_chandlery_word_fields)] }
def WholeTagsSaid : Prop := wholeTagsRow.holds Tryd.pinned (OpenSpec.ofChange wholeTagsSpec)

/-- ITS FALSE NEIGHBOUR: 'it returns false'. Refute it at one input. -/
def wholeTagsWrong : ChangeSpec := { name := "wholeTags", fn := fun _ => fun
  | [d1, d2] => { results := [.lit (.bool false)], args := [d1, d2] }
  | _ => none }
def WholeTagsWrongFalsely : Prop := wholeTagsRow.holds Tryd.pinned (OpenSpec.ofChange wholeTagsWrong)

/-- 'chandlerytop.WholeShops': WHATEVER THE INPUT: true; the input reads as it did. -/
def wholeShopsSpec : ChangeSpec := { name := "wholeShops", fn := fun _ => fun
  | [d1, d2, d3] => { results := [.lit (.bool true)], args := [d1, d2, d3] }
  | _ => none }
def wholeShopsRow : OpenClaim := { program := "ytcicfbccdgkfhaadoor", sum := "fca5d4b11fc3415de88afbc693ed0605596a6095d9f6d88f4f60efec3824c4e8", func := "chandlery/chandlerytop.WholeShops", spec := "wholeShops", unfollowed := true, recurses := true, named := ["chandlery/word.fields", "chandlery/live.kind", "chandlery/live.number", "chandlery/heart.kinds"], plainKeys := false, apart := false, laid := [("chandlery/word.fields", laid_chandlery_word_fields), ("chandlery/heart.kinds", laid_chandlery_heart_kinds), ("chandlery/live.kind", laid_chandlery_live_kind), ("chandlery/live.number", laid_chandlery_live_number)] }
def WholeShopsSaid : Prop := wholeShopsRow.holds Tryd.pinned (OpenSpec.ofChange wholeShopsSpec)

/-- ITS FALSE NEIGHBOUR: 'it returns false'. Refute it at one input. -/
def wholeShopsWrong : ChangeSpec := { name := "wholeShops", fn := fun _ => fun
  | [d1, d2, d3] => { results := [.lit (.bool false)], args := [d1, d2, d3] }
  | _ => none }
def WholeShopsWrongFalsely : Prop := wholeShopsRow.holds Tryd.pinned (OpenSpec.ofChange wholeShopsWrong)

/-- 'chandlerytop.WholeFlow': WHATEVER THE INPUT: true; the input reads as it did. -/
def wholeFlowSpec : ChangeSpec := { name := "wholeFlow", fn := fun _ => fun
  | [d1, d2, d3] => { results := [.lit (.bool true)], args := [d1, d2, d3] }
  | _ => none }
def wholeFlowRow : OpenClaim := { program := "ytcicfbccdgkfhaadoor", sum := "fca5d4b11fc3415de88afbc693ed0605596a6095d9f6d88f4f60efec3824c4e8", func := "chandlery/chandlerytop.WholeFlow", spec := "wholeFlow", unfollowed := true, recurses := true, named := ["chandlery/heart.asks", "chandlery/heart.kinds", "math/bits.deBruijn64tab"], plainKeys := false, apart := false, laid := [("math/bits.deBruijn64tab", laid_math_bits_deBruijn64tab), ("chandlery/heart.asks", laid_chandlery_heart_asks), ("chandlery/heart.kinds", laid_chandlery_heart_kinds)] }
def WholeFlowSaid : Prop := wholeFlowRow.holds Tryd.pinned (OpenSpec.ofChange wholeFlowSpec)

/-- ITS FALSE NEIGHBOUR: 'it returns false'. Refute it at one input. -/
def wholeFlowWrong : ChangeSpec := { name := "wholeFlow", fn := fun _ => fun
  | [d1, d2, d3] => { results := [.lit (.bool false)], args := [d1, d2, d3] }
  | _ => none }
def WholeFlowWrongFalsely : Prop := wholeFlowRow.holds Tryd.pinned (OpenSpec.ofChange wholeFlowWrong)

/-- 'chandlerytop.WholeStill': WHATEVER THE INPUT: true; the input reads as it did. -/
def wholeStillSpec : ChangeSpec := { name := "wholeStill", fn := fun _ => fun
  | [d1, d2] => { results := [.lit (.bool true)], args := [d1, d2] }
  | _ => none }
def wholeStillRow : OpenClaim := { program := "ytcicfbccdgkfhaadoor", sum := "fca5d4b11fc3415de88afbc693ed0605596a6095d9f6d88f4f60efec3824c4e8", func := "chandlery/chandlerytop.WholeStill", spec := "wholeStill", unfollowed := true, recurses := true, named := ["chandlery/word.fields"], plainKeys := false, apart := false, laid := [("chandlery/word.fields", laid_chandlery_word_fields)] }
def WholeStillSaid : Prop := wholeStillRow.holds Tryd.pinned (OpenSpec.ofChange wholeStillSpec)

/-- ITS FALSE NEIGHBOUR: 'it returns false'. Refute it at one input. -/
def wholeStillWrong : ChangeSpec := { name := "wholeStill", fn := fun _ => fun
  | [d1, d2] => { results := [.lit (.bool false)], args := [d1, d2] }
  | _ => none }
def WholeStillWrongFalsely : Prop := wholeStillRow.holds Tryd.pinned (OpenSpec.ofChange wholeStillWrong)

/- THE SECOND FORM. 'bulk': how many values and letters a reading holds, each counted each time it is reached (what is shared counts as often as it is met; a slice's spare places count too). A statement '..UptoSaid' is the law's where the arguments, and the package variables that the reading takes, are together of bulk at most 1048576: NARROWER than '..Said'. Prove '..Said' where nothing that the law and all that it calls make is longer than what came in: it says more and counts as full. Else prove '..UptoSaid'. A law counts once. -/
mutual
def uptoBulk {H : Type} : DataW H → Nat
  | .lit (.string bytes) => bytes.length + 1
  | .lit _ => 1
  | .nil => 1
  | .ptr d => uptoBulk d + 1
  | .slice elems spare => uptoBulkAll elems + uptoBulkAll spare + 1
  | .agg parts => uptoBulkAll parts + 1
  | .iface _ d => uptoBulk d + 1
  | .map entries => uptoBulkEntries entries + 1
  | .held _ => 1
def uptoBulkAll {H : Type} : List (DataW H) → Nat
  | [] => 0
  | d :: r => uptoBulk d + uptoBulkAll r
def uptoBulkEntries {H : Type} : List (Lit × DataW H) → Nat
  | [] => 0
  | x :: r => uptoBulkEntry x + uptoBulkEntries r
def uptoBulkEntry {H : Type} : Lit × DataW H → Nat
  | (.string bytes, d) => bytes.length + uptoBulk d + 1
  | (_, d) => uptoBulk d + 1
 end
def uptoSmall : (H : Type) → List (DataW H) → Bool := fun _ ds => decide (uptoBulkAll ds ≤ 1048576)
def OpenSpec.upto (s : _root_.Go.ChangeSpec) : _root_.Go.OpenSpec := { _root_.Go.OpenSpec.ofChange s with cond := some uptoSmall }

/-- 'chandlerytop.WholeTags', WHERE WHAT IT READS IS OF BULK AT MOST 1048576: true; the input reads as it did. -/
def wholeTagsUptoRow : OpenClaim := { program := "ytcicfbccdgkfhaadoor", sum := "fca5d4b11fc3415de88afbc693ed0605596a6095d9f6d88f4f60efec3824c4e8", func := "chandlery/chandlerytop.WholeTags", spec := "wholeTags", named := ["chandlery/word.fields"], plainKeys := false, apart := false, laid := [("chandlery/word.fields", laid_chandlery_word_fields)], narrowed := true }
def WholeTagsUptoSaid : Prop := wholeTagsUptoRow.holds Tryd.pinned (OpenSpec.upto wholeTagsSpec)

/-- 'chandlerytop.WholeShops', WHERE WHAT IT READS IS OF BULK AT MOST 1048576: true; the input reads as it did. -/
def wholeShopsUptoRow : OpenClaim := { program := "ytcicfbccdgkfhaadoor", sum := "fca5d4b11fc3415de88afbc693ed0605596a6095d9f6d88f4f60efec3824c4e8", func := "chandlery/chandlerytop.WholeShops", spec := "wholeShops", unfollowed := true, recurses := true, named := ["chandlery/word.fields", "chandlery/live.kind", "chandlery/live.number", "chandlery/heart.kinds"], plainKeys := false, apart := false, laid := [("chandlery/word.fields", laid_chandlery_word_fields), ("chandlery/heart.kinds", laid_chandlery_heart_kinds), ("chandlery/live.kind", laid_chandlery_live_kind), ("chandlery/live.number", laid_chandlery_live_number)], narrowed := true }
def WholeShopsUptoSaid : Prop := wholeShopsUptoRow.holds Tryd.pinned (OpenSpec.upto wholeShopsSpec)

/-- 'chandlerytop.WholeFlow', WHERE WHAT IT READS IS OF BULK AT MOST 1048576: true; the input reads as it did. -/
def wholeFlowUptoRow : OpenClaim := { program := "ytcicfbccdgkfhaadoor", sum := "fca5d4b11fc3415de88afbc693ed0605596a6095d9f6d88f4f60efec3824c4e8", func := "chandlery/chandlerytop.WholeFlow", spec := "wholeFlow", unfollowed := true, recurses := true, named := ["chandlery/heart.asks", "chandlery/heart.kinds", "math/bits.deBruijn64tab"], plainKeys := false, apart := false, laid := [("math/bits.deBruijn64tab", laid_math_bits_deBruijn64tab), ("chandlery/heart.asks", laid_chandlery_heart_asks), ("chandlery/heart.kinds", laid_chandlery_heart_kinds)], narrowed := true }
def WholeFlowUptoSaid : Prop := wholeFlowUptoRow.holds Tryd.pinned (OpenSpec.upto wholeFlowSpec)

/-- 'chandlerytop.WholeStill', WHERE WHAT IT READS IS OF BULK AT MOST 1048576: true; the input reads as it did. -/
def wholeStillUptoRow : OpenClaim := { program := "ytcicfbccdgkfhaadoor", sum := "fca5d4b11fc3415de88afbc693ed0605596a6095d9f6d88f4f60efec3824c4e8", func := "chandlery/chandlerytop.WholeStill", spec := "wholeStill", unfollowed := true, recurses := true, named := ["chandlery/word.fields"], plainKeys := false, apart := false, laid := [("chandlery/word.fields", laid_chandlery_word_fields)], narrowed := true }
def WholeStillUptoSaid : Prop := wholeStillUptoRow.holds Tryd.pinned (OpenSpec.upto wholeStillSpec)

end Rows
end Go.Proofs.YtcicfbccdgkfhaaDoor
