/- HallSums: the row: for every input the law returns true and leaves its arguments as they were; no condition. -/
import Derived.Test.YtnheodgffackoaaDoorRows
import Derived.Test.YtnheodgffackoaaDoorEv
import Derived.Test.YtnheodgffackoaaDoorTie
import Derived.Test.YtnheodgffackoaaDoorCards
import Derived.Test.YtnheodgffackoaaDoorLhwz
import Derived.WalkKit
import Derived.ProofKit
import Derived.OpenShut
import Derived.ShutString
import Derived.ChangeOld
import Derived.Below
import Derived.SizedLaws
import Derived.LaidMore
import Derived.LaidLaws
import Derived.Stop.Joined
import Derived.SevenTiedAt
namespace Go.Proofs.YtnheodgffackoaaDoor.hallSums
open Go.ChangeShapes Go.WideShapes Go.ChangeAt Go.RowKit
set_option linter.unusedVariables false
theorem own : ownKnob Tryd.prog.godebug = none := by kernel_rfl
theorem laidOut : laidOutB Tryd.prog = true := by kernel_rfl
theorem shape0 : E.shape Tryd.prog 20 24 = some (.pair (.int .u8) (.pair (.int .u8) (.pair (.slice (.int .u8)) (.pair (.slice (.int .u8)) .unit)))) := by kernel_rfl
def laid : List (String × DataW Unit) := [("chandlery/word.fields", Rows.laid_chandlery_word_fields)]
theorem gc_eq : E.gcA Tryd.prog (laid.filter fun x => x.2.handleName?.isNone) = E.En.gc := by kernel_rfl
theorem door_met (os : Os) (args : Array Value) : laidMetH Tryd.prog laid ((World.doorLaid Tryd.prog 400 os).forCall (fun _ _ => 0) ⟨#[], args, []⟩).memory :=
  laidMetH_of_parts3 (fuel := 8) (laidMet_of_run' 8 (by kernel_rfl) (by kernel_rfl)) (by kernel_rfl) (by kernel_rfl)
set_option maxRecDepth 100000 in
theorem lifted (os : Os) (started : os.Started) (H : Type) (enc : TypeId × Value → H) :
    ReturnsInHanded {} Tryd.checked os 3 .any (fun w args => (Rows.hallSumsSpec.pre enc Tryd.prog Tryd.f3 [] false w args ∧ laidMetH Tryd.prog laid w) ∧ sizedMet enc Tryd.prog Tryd.f3 (OpenSpec.ofChange Rows.hallSumsSpec) false w args) (Rows.hallSumsSpec.post enc Tryd.prog Tryd.f3 false true false false) := by
  refine returnsInHanded_of_change_and (C := Tryd.checked) (X := fun w _ => laidMetH Tryd.prog laid w) (fun _ _ _ hh h => h.of_heap hh) own started (by kernel_rfl) Tryd.func3
    (ChangeSpec.witness_shaped (enc := enc) (C := Tryd.checked) (os := os) (X := fun w _ => laidMetH Tryd.prog laid w) false (World.doorLaid Tryd.prog 400 os) #[.agg #[.int .u8 0, .int .u8 0, .slice none 0 0, .slice none 0 0]] 8 rfl (World.shaped_of_RefB (by kernel_rfl) (by kernel_rfl)) (by kernel_rfl) (by kernel_rfl) (by kernel_rfl) (door_met os _)) ?_
  intro W base args ds gs before hval0 hW hcnd hsz0 hL _
  have hG : E.RelG E.En.gc W.heap.size W := by have := E.relG_laid hL; rwa [gc_eq] at this
  have hval : ∀ (j : Nat) t v, Tryd.f3.params[j]? = some t → args[j]? = some v → Value.okWide Tryd.prog W .any base t v := hval0
  have hW' := hW
  obtain ⟨p, q, hA0, hV, rfl, hfz, hnd⟩ := hW
  have hA : DataW.TrodAll enc Tryd.prog W 0 (fun _ => true) true Tryd.f3.params.toList args.toList ds p := hA0
  rw [Tryd.params3] at hA hval
  obtain ⟨v0, vs0, d0, ds0, p0, q0, hargs, rfl, rfl, h0, r0⟩ := trodAll_cons hA
  obtain ⟨rfl, rfl, rfl⟩ := trodAll_nil r0
  obtain rfl : args = #[v0] := by cases args; simp_all
  obtain ⟨rfl, rfl⟩ := trodVars_none hV
  obtain ⟨c0, rfl, sz0⟩ := okWide_struct Tryd.underlying24 (hval 0 24 v0 rfl rfl)
  have k0 := h0
  have lt0 : ∀ x ∈ p0, x.block < W.heap.size := by obtain ⟨m, hm⟩ := k0; exact DataW.trod_lt m _ _ _ hm
  have w0 := (by obtain ⟨m, hm⟩ := k0; exact E.shape_fit (fun _ => rfl) 20 24 _ shape0 m _ _ hm : E.Fit W (.pair (.int .u8) (.pair (.int .u8) (.pair (.slice (.int .u8)) (.pair (.slice (.int .u8)) .unit)))) c0.toList)
  clear hA0 hval0 hsz0
  refine (E.law_walk (E := E.En) (f := 3) (W := W) (ss := [(true, (.pair (.int .u8) (.pair (.int .u8) (.pair (.slice (.int .u8)) (.pair (.slice (.int .u8)) .unit)))))]) (vs := [.agg c0]) rfl ⟨_, _, rfl, w0, rfl⟩ hG fun d hd => E.HallSums_law d hd).mono fun e W' ⟨he, bel⟩ => ?_
  subst he
  exact ⟨_, rfl, _, _, _, [], _, [], hW', trodAll_mk1 (shut_bool Tryd.underlying4 _), (trodAll_cons_mk (Below.trod laidOut (by kernel_rfl) (of_decide_eq_true (by kernel_rfl)) k0 bel lt0) trodAll_mk0), rfl, bel.frame _, fun h => by cases h⟩
theorem over : Rows.hallSumsRow.holds Tryd.pinned (OpenSpec.ofChange Rows.hallSumsSpec) :=
  OpenClaim.holds_of_wide 3 Tryd.f3 rfl rfl rfl rfl rfl rfl rfl ⟨rfl, rfl, rfl, rfl, rfl⟩ rfl rfl rfl rfl rfl (by kernel_rfl) Tryd.func3 (by kernel_rfl)
    (of_decide_eq_true (by kernel_rfl)) (by unfold Func.isWrapper; first | (rw [if_pos (by decide +kernel)]; kernel_rfl) | (rw [if_neg (by decide +kernel)]; exact ⟨rfl, rfl⟩))
    (fun os started H enc _ => lifted os started H enc)
theorem proved : Rows.HallSumsSaid := over
#print axioms proved
end Go.Proofs.YtnheodgffackoaaDoor.hallSums
namespace Go.Proofs.YtnheodgffackoaaDoor
/-- The row, under a short name, for the claim. -/
theorem hallSums_holds : Rows.HallSumsCardSaid :=
  Claim7.holds_tied_plain_at .later [] [.wider] true (true, "caa388937c005aaaaa0e168f403c42c649ab2771adc2d8b6ebf6b1ed04a29fdd") false
    hallSums.proved (fun _ h => by cases h) (by kernel_rfl) (fun _ h => by cases h) hallSums_row_tie rfl ⟨rfl, rfl⟩ (by kernel_rfl) rfl
    (fun f fn hf hfn => by
      obtain rfl : f = 3 := Option.some.inj ((show Tryd.prog.funcNamed "chandlery/chandlerylaw10.HallSums" = some 3 by kernel_rfl).symm.trans hf) |>.symm
      obtain rfl : fn = Tryd.f3 := (Option.some.inj (Tryd.func3.symm.trans hfn)).symm
      exact ⟨by kernel_rfl, fun j t ht => by
        have ha : ([24] : List TypeId).all (fun t => !Tryd.prog.wantsStandIn t) = true := by kernel_rfl
        have hb := List.all_eq_true.1 ha t (by rw [Tryd.params3] at ht; simpa using Array.mem_of_getElem? ht)
        exact (by simpa using hb : Tryd.prog.wantsStandIn t = false)⟩)
    (by kernel_rfl)
#print axioms hallSums_holds
end Go.Proofs.YtnheodgffackoaaDoor
