/- ObjUndoes: the row: for every input the law returns true and leaves its arguments as they were; no condition. -/
import Derived.Test.YtcebgfmeabbdpaaRows
import Derived.Test.YtcebgfmeabbdpaaL09c
import Derived.WalkKit
import Derived.ProofKit
import Derived.OpenShut
import Derived.ShutString
import Derived.ChangeOld
import Derived.Below
import Derived.SizedLaws
namespace Go.Proofs.Ytcebgfmeabbdpaa.objUndoes
open Go.ChangeShapes Go.WideShapes Go.ChangeAt Go.RowKit
set_option linter.unusedVariables false
theorem own : ownKnob Try.prog.godebug = none := by kernel_rfl
theorem laidOut : laidOutB Try.prog = true := by kernel_rfl
theorem shape1 : E.shape Try.prog 20 22 = some (.slice (.pair (.int .u64) (.pair (.int .u64) .unit))) := by kernel_rfl
set_option maxRecDepth 100000 in
theorem lifted (os : Os) (started : os.Started) (H : Type) (enc : TypeId × Value → H) :
    ReturnsInHanded {} Try.checked os 6 .any (Rows.objUndoesSpec.pre6 enc Try.prog Try.f6 Rows.objUndoesRow.domain false) (Rows.objUndoesSpec.post enc Try.prog Try.f6 false true false false) := by
  refine returnsInHanded_of_change_sized (C := Try.checked) own started (by kernel_rfl) Try.func6
    (ChangeSpec.witness6 (enc := enc) (C := Try.checked) false ⟨#[], #[.int .u8 0, .slice none 0 0, .int .u64 0], []⟩ 8 (by kernel_rfl) (by kernel_rfl) (by kernel_rfl) (by kernel_rfl)) ?_
  intro W base args ds gs before hval0 hW hcnd hsz0 _
  have hval : ∀ (j : Nat) t v, Try.f6.params[j]? = some t → args[j]? = some v → Value.okWide Try.prog W .any base t v := hval0
  have hW' := hW
  obtain ⟨p, q, hA0, hV, rfl, hfz, hnd⟩ := hW
  have hA : DataW.TrodAll enc Try.prog W 0 (fun _ => true) true Try.f6.params.toList args.toList ds p := hA0
  rw [Try.params6] at hA hval
  obtain ⟨v0, vs0, d0, ds0, p0, q0, hargs, rfl, rfl, h0, r0⟩ := trodAll_cons hA
  obtain ⟨v1, vs1, d1, ds1, p1, q1, rfl, rfl, rfl, h1, r1⟩ := trodAll_cons r0
  obtain ⟨v2, vs2, d2, ds2, p2, q2, rfl, rfl, rfl, h2, r2⟩ := trodAll_cons r1
  obtain ⟨rfl, rfl, rfl⟩ := trodAll_nil r2
  obtain rfl : args = #[v0, v1, v2] := by cases args; simp_all
  obtain ⟨rfl, rfl⟩ := trodVars_none hV
  obtain ⟨a0, rfl, rfl, rfl, w0⟩ := open_int Try.underlying5 (hval 0 5 v0 rfl rfl) h0
  obtain ⟨a1, len1, cap1, rfl⟩ := okWide_slice Try.underlying22 (hval 1 22 v1 rfl rfl)
  have k1 := h1
  have lt1 : ∀ x ∈ p1, x.block < W.heap.size := by obtain ⟨m, hm⟩ := k1; exact DataW.trod_lt m _ _ _ hm
  have w1 := (by obtain ⟨m, hm⟩ := k1; exact E.shape_fit (fun _ => rfl) 20 22 _ shape1 m _ _ hm : E.Fit W (.slice (.pair (.int .u64) (.pair (.int .u64) .unit))) [.slice a1 len1 cap1])
  obtain ⟨a2, rfl, rfl, rfl, w2⟩ := open_int Try.underlying29 (hval 2 29 v2 rfl rfl) h2
  clear hA0 hval0 hsz0
  refine (E.law_walk (E := E.En) (f := 6) (W := W) (ss := [(false, (.int .u8)), (false, (.slice (.pair (.int .u64) (.pair (.int .u64) .unit)))), (false, (.int .u64))]) (vs := [.int .u8 a0, .slice a1 len1 cap1, .int .u64 a2]) rfl ⟨_, _, rfl, ⟨a0, rfl, w0⟩, ⟨_, _, rfl, w1, ⟨_, _, rfl, ⟨a2, rfl, w2⟩, rfl⟩⟩⟩ (E.relG_nil _ _) fun d hd => E.ObjUndoes_law d hd).mono fun e W' ⟨he, bel⟩ => ?_
  subst he
  exact ⟨_, rfl, _, _, _, [], _, [], hW', trodAll_mk1 (shut_bool Try.underlying4 _), (trodAll_cons_mk (shut_int Try.underlying5 w0) (trodAll_cons_mk (Below.trod laidOut (by kernel_rfl) (of_decide_eq_true (by kernel_rfl)) k1 bel lt1) (trodAll_cons_mk (shut_int Try.underlying29 w2) trodAll_mk0))), rfl, bel.frame _, fun h => by cases h⟩
theorem over : Rows.objUndoesRow.holds Try.pinned (OpenSpec.ofChange Rows.objUndoesSpec) :=
  OpenClaim.holds_of_wide 6 Try.f6 rfl rfl rfl rfl rfl rfl rfl ⟨rfl, rfl, rfl, rfl, rfl⟩ rfl rfl rfl rfl rfl (by kernel_rfl) Try.func6 (by kernel_rfl)
    (of_decide_eq_true (by kernel_rfl)) (by unfold Func.isWrapper; first | (rw [if_pos (by decide +kernel)]; kernel_rfl) | (rw [if_neg (by decide +kernel)]; exact ⟨rfl, rfl⟩))
    (fun os started H enc _ => lifted os started H enc)
theorem proved : Rows.ObjUndoesSaid := over
#print axioms proved
end Go.Proofs.Ytcebgfmeabbdpaa.objUndoes
namespace Go.Proofs.Ytcebgfmeabbdpaa
/-- The row, under a short name, for the claim. -/
theorem objUndoes_holds : Rows.ObjUndoesSaid := objUndoes.proved
end Go.Proofs.Ytcebgfmeabbdpaa
