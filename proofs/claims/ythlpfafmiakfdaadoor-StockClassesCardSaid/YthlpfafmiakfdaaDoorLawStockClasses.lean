/- StockClasses: the row: for every input the law returns true and leaves its arguments as they were; no condition. -/
import Derived.Test.YthlpfafmiakfdaaDoorRows
import Derived.Test.YthlpfafmiakfdaaDoorEv
import Derived.Test.YthlpfafmiakfdaaDoorTie
import Derived.Test.YthlpfafmiakfdaaDoorCards
import Derived.Test.YthlpfafmiakfdaaDoorL12q
import Derived.WalkKit
import Derived.ProofKit
import Derived.OpenShut
import Derived.ShutString
import Derived.ChangeOld
import Derived.Below
import Derived.SizedLaws
import Derived.LaidMore
import Derived.LaidLaws
import Derived.Stop.Joined
import Derived.SevenTiedAt
namespace Go.Proofs.YthlpfafmiakfdaaDoor.stockClasses
open Go.ChangeShapes Go.WideShapes Go.ChangeAt Go.RowKit
set_option linter.unusedVariables false
theorem own : ownKnob Tryd.prog.godebug = none := by kernel_rfl
theorem laidOut : laidOutB Tryd.prog = true := by kernel_rfl
theorem shape0 : E.shape Tryd.prog 20 24 = some (.pair (.int .i64) (.pair (.int .i64) (.pair (.int .i64) (.pair (.int .i64) (.pair (.slice (.int .i64)) .unit))))) := by kernel_rfl
theorem shape1 : E.shape Tryd.prog 20 25 = some (.slice (.pair (.int .i64) (.pair (.int .i64) (.pair (.pair (.int .i64) (.pair (.int .i64) .unit)) (.pair (.int .u64) .unit))))) := by kernel_rfl
def laid : List (String × DataW Unit) := [("math/bits.deBruijn64tab", Rows.laid_math_bits_deBruijn64tab)]
theorem gc_eq : E.gcA Tryd.prog (laid.filter fun x => x.2.handleName?.isNone) = E.En.gc := by kernel_rfl
theorem door_met (os : Os) (args : Array Value) : laidMetH Tryd.prog laid ((World.doorLaid Tryd.prog 400 os).forCall (fun _ _ => 0) ⟨#[], args, []⟩).memory :=
  laidMetH_of_parts3 (fuel := 8) (laidMet_of_run' 8 (by kernel_rfl) (by kernel_rfl)) (by kernel_rfl) (by kernel_rfl)
set_option maxRecDepth 100000 in
theorem lifted (os : Os) (started : os.Started) (H : Type) (enc : TypeId × Value → H) :
    ReturnsInHanded {} Tryd.checked os 6 .any (fun w args => (Rows.stockClassesSpec.pre enc Tryd.prog Tryd.f6 [] false w args ∧ laidMetH Tryd.prog laid w) ∧ sizedMet enc Tryd.prog Tryd.f6 (OpenSpec.ofChange Rows.stockClassesSpec) false w args) (Rows.stockClassesSpec.post enc Tryd.prog Tryd.f6 false true false false) := by
  refine returnsInHanded_of_change_and (C := Tryd.checked) (X := fun w _ => laidMetH Tryd.prog laid w) (fun _ _ _ hh h => h.of_heap hh) own started (by kernel_rfl) Tryd.func6
    (ChangeSpec.witness_shaped (enc := enc) (C := Tryd.checked) (os := os) (X := fun w _ => laidMetH Tryd.prog laid w) false (World.doorLaid Tryd.prog 400 os) #[.agg #[.int .i64 0, .int .i64 0, .int .i64 0, .int .i64 0, .slice none 0 0], .slice none 0 0, .int .i64 0] 8 rfl (World.shaped_of_RefB (by kernel_rfl) (by kernel_rfl)) (by kernel_rfl) (by kernel_rfl) (by kernel_rfl) (door_met os _)) ?_
  intro W base args ds gs before hval0 hW hcnd hsz0 hL _
  have hG : E.RelG E.En.gc W.heap.size W := by have := E.relG_laid hL; rwa [gc_eq] at this
  have hval : ∀ (j : Nat) t v, Tryd.f6.params[j]? = some t → args[j]? = some v → Value.okWide Tryd.prog W .any base t v := hval0
  have hW' := hW
  obtain ⟨p, q, hA0, hV, rfl, hfz, hnd⟩ := hW
  have hA : DataW.TrodAll enc Tryd.prog W 0 (fun _ => true) true Tryd.f6.params.toList args.toList ds p := hA0
  rw [Tryd.params6] at hA hval
  obtain ⟨v0, vs0, d0, ds0, p0, q0, hargs, rfl, rfl, h0, r0⟩ := trodAll_cons hA
  obtain ⟨v1, vs1, d1, ds1, p1, q1, rfl, rfl, rfl, h1, r1⟩ := trodAll_cons r0
  obtain ⟨v2, vs2, d2, ds2, p2, q2, rfl, rfl, rfl, h2, r2⟩ := trodAll_cons r1
  obtain ⟨rfl, rfl, rfl⟩ := trodAll_nil r2
  obtain rfl : args = #[v0, v1, v2] := by cases args; simp_all
  obtain ⟨rfl, rfl⟩ := trodVars_none hV
  obtain ⟨c0, rfl, sz0⟩ := okWide_struct Tryd.underlying24 (hval 0 24 v0 rfl rfl)
  have k0 := h0
  have lt0 : ∀ x ∈ p0, x.block < W.heap.size := by obtain ⟨m, hm⟩ := k0; exact DataW.trod_lt m _ _ _ hm
  have w0 := (by obtain ⟨m, hm⟩ := k0; exact E.shape_fit (fun _ => rfl) 20 24 _ shape0 m _ _ hm : E.Fit W (.pair (.int .i64) (.pair (.int .i64) (.pair (.int .i64) (.pair (.int .i64) (.pair (.slice (.int .i64)) .unit))))) c0.toList)
  obtain ⟨a1, len1, cap1, rfl⟩ := okWide_slice Tryd.underlying25 (hval 1 25 v1 rfl rfl)
  have k1 := h1
  have lt1 : ∀ x ∈ p1, x.block < W.heap.size := by obtain ⟨m, hm⟩ := k1; exact DataW.trod_lt m _ _ _ hm
  have w1 := (by obtain ⟨m, hm⟩ := k1; exact E.shape_fit (fun _ => rfl) 20 25 _ shape1 m _ _ hm : E.Fit W (.slice (.pair (.int .i64) (.pair (.int .i64) (.pair (.pair (.int .i64) (.pair (.int .i64) .unit)) (.pair (.int .u64) .unit))))) [.slice a1 len1 cap1])
  obtain ⟨a2, rfl, rfl, rfl, w2⟩ := open_int Tryd.underlying3 (hval 2 3 v2 rfl rfl) h2
  clear hA0 hval0 hsz0
  refine (E.law_walk (E := E.En) (f := 6) (W := W) (ss := [(true, (.pair (.int .i64) (.pair (.int .i64) (.pair (.int .i64) (.pair (.int .i64) (.pair (.slice (.int .i64)) .unit)))))), (false, (.slice (.pair (.int .i64) (.pair (.int .i64) (.pair (.pair (.int .i64) (.pair (.int .i64) .unit)) (.pair (.int .u64) .unit)))))), (false, (.int .i64))]) (vs := [.agg c0, .slice a1 len1 cap1, .int .i64 a2]) rfl ⟨_, _, rfl, w0, ⟨_, _, rfl, w1, ⟨_, _, rfl, ⟨a2, rfl, w2⟩, rfl⟩⟩⟩ hG fun d hd => E.StockClasses_law d hd).mono fun e W' ⟨he, bel⟩ => ?_
  subst he
  exact ⟨_, rfl, _, _, _, [], _, [], hW', trodAll_mk1 (shut_bool Tryd.underlying4 _), (trodAll_cons_mk (Below.trod laidOut (by kernel_rfl) (of_decide_eq_true (by kernel_rfl)) k0 bel lt0) (trodAll_cons_mk (Below.trod laidOut (by kernel_rfl) (of_decide_eq_true (by kernel_rfl)) k1 bel lt1) (trodAll_cons_mk (shut_int Tryd.underlying3 w2) trodAll_mk0))), rfl, bel.frame _, fun h => by cases h⟩
theorem over : Rows.stockClassesRow.holds Tryd.pinned (OpenSpec.ofChange Rows.stockClassesSpec) :=
  OpenClaim.holds_of_wide 6 Tryd.f6 rfl rfl rfl rfl rfl rfl rfl ⟨rfl, rfl, rfl, rfl, rfl⟩ rfl rfl rfl rfl rfl (by kernel_rfl) Tryd.func6 (by kernel_rfl)
    (of_decide_eq_true (by kernel_rfl)) (by unfold Func.isWrapper; first | (rw [if_pos (by decide +kernel)]; kernel_rfl) | (rw [if_neg (by decide +kernel)]; exact ⟨rfl, rfl⟩))
    (fun os started H enc _ => lifted os started H enc)
theorem proved : Rows.StockClassesSaid := over
#print axioms proved
end Go.Proofs.YthlpfafmiakfdaaDoor.stockClasses
namespace Go.Proofs.YthlpfafmiakfdaaDoor
/-- The row, under a short name, for the claim. -/
theorem stockClasses_holds : Rows.StockClassesCardSaid :=
  Claim7.holds_tied_plain_at .later [] [.data] true (true, "01949bdb0778f9b395d131844d03e9cda9444519601ad3afa2822558ec6e3c63") false
    stockClasses.proved (fun _ h => by cases h) (by kernel_rfl) (fun _ h => by cases h) stockClasses_row_tie rfl ⟨rfl, rfl⟩ (by kernel_rfl) rfl
    (fun f fn hf hfn => by
      obtain rfl : f = 6 := Option.some.inj ((show Tryd.prog.funcNamed "chandlery/chandlerylaw12.StockClasses" = some 6 by kernel_rfl).symm.trans hf) |>.symm
      obtain rfl : fn = Tryd.f6 := (Option.some.inj (Tryd.func6.symm.trans hfn)).symm
      exact ⟨by kernel_rfl, fun j t ht => by
        have ha : ([24, 25, 3] : List TypeId).all (fun t => !Tryd.prog.wantsStandIn t) = true := by kernel_rfl
        have hb := List.all_eq_true.1 ha t (by rw [Tryd.params6] at ht; simpa using Array.mem_of_getElem? ht)
        exact (by simpa using hb : Tryd.prog.wantsStandIn t = false)⟩)
    (by kernel_rfl)
#print axioms stockClasses_holds
end Go.Proofs.YthlpfafmiakfdaaDoor
