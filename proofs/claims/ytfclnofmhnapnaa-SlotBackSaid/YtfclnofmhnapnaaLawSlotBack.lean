/- SlotBack: the row: for every input the law returns true and leaves its arguments as they were; no condition. -/
import Derived.Test.YtfclnofmhnapnaaRows
import Derived.Test.YtfclnofmhnapnaaL08d
import Derived.WalkKit
import Derived.ProofKit
import Derived.OpenShut
import Derived.ShutString
import Derived.ChangeOld
import Derived.Below
import Derived.SizedLaws
namespace Go.Proofs.Ytfclnofmhnapnaa.slotBack
open Go.ChangeShapes Go.WideShapes Go.ChangeAt Go.RowKit
set_option linter.unusedVariables false
theorem own : ownKnob Try.prog.godebug = none := by kernel_rfl
theorem laidOut : laidOutB Try.prog = true := by kernel_rfl
theorem shape0 : E.shape Try.prog 20 46 = some (.pair (E.Sh.rep (.int .u8) 2) (.pair (.slice (.int .u64)) (.pair (.slice (.int .u64)) (.pair .bool .unit)))) := by kernel_rfl
set_option maxRecDepth 100000 in
theorem lifted (os : Os) (started : os.Started) (H : Type) (enc : TypeId × Value → H) :
    ReturnsInHanded {} Try.checked os 6 .any (Rows.slotBackSpec.pre6 enc Try.prog Try.f6 Rows.slotBackRow.domain false) (Rows.slotBackSpec.post enc Try.prog Try.f6 false true false false) := by
  refine returnsInHanded_of_change_sized (C := Try.checked) own started (by kernel_rfl) Try.func6
    (ChangeSpec.witness6 (enc := enc) (C := Try.checked) false ⟨#[], #[.agg #[.int .u8 0, .int .u8 0, .slice none 0 0, .slice none 0 0, .bool false]], []⟩ 8 (by kernel_rfl) (by kernel_rfl) (by kernel_rfl) (by kernel_rfl)) ?_
  intro W base args ds gs before hval0 hW hcnd hsz0 _
  have hval : ∀ (j : Nat) t v, Try.f6.params[j]? = some t → args[j]? = some v → Value.okWide Try.prog W .any base t v := hval0
  have hW' := hW
  obtain ⟨p, q, hA0, hV, rfl, hfz, hnd⟩ := hW
  have hA : DataW.TrodAll enc Try.prog W 0 (fun _ => true) true Try.f6.params.toList args.toList ds p := hA0
  rw [Try.params6] at hA hval
  obtain ⟨v0, vs0, d0, ds0, p0, q0, hargs, rfl, rfl, h0, r0⟩ := trodAll_cons hA
  obtain ⟨rfl, rfl, rfl⟩ := trodAll_nil r0
  obtain rfl : args = #[v0] := by cases args; simp_all
  obtain ⟨rfl, rfl⟩ := trodVars_none hV
  obtain ⟨c0, rfl, sz0⟩ := okWide_struct Try.underlying46 (hval 0 46 v0 rfl rfl)
  have k0 := h0
  have lt0 : ∀ x ∈ p0, x.block < W.heap.size := by obtain ⟨m, hm⟩ := k0; exact DataW.trod_lt m _ _ _ hm
  have w0 := (by obtain ⟨m, hm⟩ := k0; exact E.shape_fit (fun _ => rfl) 20 46 _ shape0 m _ _ hm : E.Fit W (.pair (E.Sh.rep (.int .u8) 2) (.pair (.slice (.int .u64)) (.pair (.slice (.int .u64)) (.pair .bool .unit)))) c0.toList)
  clear hA0 hval0 hsz0
  refine (E.law_walk (E := E.En) (f := 6) (W := W) (ss := [(true, (.pair (E.Sh.rep (.int .u8) 2) (.pair (.slice (.int .u64)) (.pair (.slice (.int .u64)) (.pair .bool .unit)))))]) (vs := [.agg c0]) rfl ⟨_, _, rfl, w0, rfl⟩ (E.relG_nil _ _) fun d hd => E.SlotBack_law d hd).mono fun e W' ⟨he, bel⟩ => ?_
  subst he
  exact ⟨_, rfl, _, _, _, [], _, [], hW', trodAll_mk1 (shut_bool Try.underlying4 _), (trodAll_cons_mk (Below.trod laidOut (by kernel_rfl) (of_decide_eq_true (by kernel_rfl)) k0 bel lt0) trodAll_mk0), rfl, bel.frame _, fun h => by cases h⟩
theorem over : Rows.slotBackRow.holds Try.pinned (OpenSpec.ofChange Rows.slotBackSpec) :=
  OpenClaim.holds_of_wide 6 Try.f6 rfl rfl rfl rfl rfl rfl rfl ⟨rfl, rfl, rfl, rfl, rfl⟩ rfl rfl rfl rfl rfl (by kernel_rfl) Try.func6 (by kernel_rfl)
    (of_decide_eq_true (by kernel_rfl)) (by unfold Func.isWrapper; first | (rw [if_pos (by decide +kernel)]; kernel_rfl) | (rw [if_neg (by decide +kernel)]; exact ⟨rfl, rfl⟩))
    (fun os started H enc _ => lifted os started H enc)
theorem proved : Rows.SlotBackSaid := over
#print axioms proved
end Go.Proofs.Ytfclnofmhnapnaa.slotBack
namespace Go.Proofs.Ytfclnofmhnapnaa
/-- The row, under a short name, for the claim. -/
theorem slotBack_holds : Rows.SlotBackSaid := slotBack.proved
end Go.Proofs.Ytfclnofmhnapnaa
