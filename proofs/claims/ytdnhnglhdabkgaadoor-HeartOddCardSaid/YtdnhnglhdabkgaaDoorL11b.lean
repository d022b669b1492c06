/- HeartDoes and its sisters: a block that is granted. -/
import Derived.Test.YtdnhnglhdabkgaaDoorL11a
namespace Go.Proofs.YtdnhnglhdabkgaaDoor.E
set_option linter.unusedSimpArgs false
set_option linter.unusedVariables false
open Go
set_option maxRecDepth 100000

def c1 : Cnf := ⟨1, 1, 1, 0, [512]⟩
theorem c1_ok : c1.Ok := ⟨⟨by decide, by decide, by decide, by decide, by decide, by decide, by decide, by decide⟩, by decide, by decide, ⟨by decide, trivial⟩⟩
def fS0 : SupF := fun _ => (0, 0, 0)
def fS1 : SupF := updS fS0 0 (1, 0, 2)
def fS2 : SupF := updS fS1 0 (1, 0, 0)
theorem allN1 : allN c1 0 = 3 := by decide +kernel
theorem least31 : leastN 3 1 = 1 := by decide +kernel
theorem least21 : leastN 2 1 = 2 := by decide +kernel
theorem hI1 : HInv c1 1 fS1 := fun i hi => by
  obtain rfl : i = 0 := by omega
  refine .blk 0 2 rfl (by decide) ?_ (by rw [allN1]; decide) (by omega)
  rw [allN1]
  intro i hi
  revert i
  decide +kernel
theorem hI2 : HInv c1 1 fS2 := fun i hi => by
  obtain rfl : i = 0 := by omega
  exact .blk 0 0 rfl (by decide) (fun i _ h => by simp at h) (by rw [allN1]; decide) (by omega)
set_option maxHeartbeats 8000000 in
theorem speaks_tri : Tri En 8 [] [] (.bl true) [] := by
  have hn := heart_new true c1 (by decide)
  have hw := heart_words true c1 c1_ok 1 rfl
  have e0 : hW 1 fS0 = [0, 0] := by decide +kernel
  have r0 := refill_yes true c1 c1_ok 1 rfl fS0 (HInv.zero c1 1) 0 (by decide)
  have q0 : refF c1 1 fS0 0 = some (0, 3) := by
    show some ((0 : Nat), allN c1 0) = _
    rw [allN1]
  rw [q0] at r0
  have r0 : Tri En 28 [cnfA 0 c1, .slice 1 0 (2 * 1), .int .i64 (0 : Nat)] [.tab true (.int .i64) c1.cl, .tab true (.int .u64) (hW 1 fS0)] (opA 1 1) [.tab true (.int .i64) c1.cl, .tab true (.int .u64) (hW 1 fS1)] := by
    have h := r0
    unfold refV refS at h
    simp only at h
    rw [show c1.b = 1 from rfl, least31] at h
    exact h
  have r1 := refill_yes true c1 c1_ok 1 rfl fS1 hI1 0 (by decide)
  have q1 : refF c1 1 fS1 0 = some (0, 2) := rfl
  rw [q1] at r1
  have r1 : Tri En 28 [cnfA 0 c1, .slice 1 0 (2 * 1), .int .i64 (0 : Nat)] [.tab true (.int .i64) c1.cl, .tab true (.int .u64) (hW 1 fS1)] (opA 1 2) [.tab true (.int .i64) c1.cl, .tab true (.int .u64) (hW 1 fS2)] := by
    have h := r1
    unfold refV refS at h
    simp only at h
    rw [show c1.b = 1 from rfl, least21] at h
    exact h
  have r2 := refill_yes true c1 c1_ok 1 rfl fS2 hI2 0 (by decide)
  have q2 : refF c1 1 fS2 0 = none := rfl
  rw [q2] at r2
  have r2 : Tri En 28 [cnfA 0 c1, .slice 1 0 (2 * 1), .int .i64 (0 : Nat)] [.tab true (.int .i64) c1.cl, .tab true (.int .u64) (hW 1 fS2)] (opA 0 0) [.tab true (.int .i64) c1.cl, .tab true (.int .u64) (hW 1 fS2)] := r2
  have a0 := apply_1 true c1 1 fS0 fS1 0 0 (by omega) 1 1 r0
  have a1 := apply_1 true c1 1 fS1 fS2 0 0 (by omega) 1 2 r1
  have a2 := apply_1 true c1 1 fS2 fS2 0 0 (by omega) 0 0 r2
  have ak := ask_refill 0 (by omega)
  have hat := at_1 true 1 (by omega) fS2 0 (by omega) 0 0 (by omega) rfl
  unfold TAp at a0 a1 a2
  rw [e0] at a0
  have hl1 := hW_len 1 fS1
  have hl2 := hW_len 1 fS2
  clear r0 r1 r2 q0 q1 q2
  unfold TAt at hat
  generalize hW 1 fS1 = W1 at *
  generalize hW 1 fS2 = W2 at *
  have ih : Goods ⟨En, 8, Tryd.f8.ntmps, [], .bl true, []⟩ ⟨.none, rg Tryd.f8 6, [(2, .slice 0 0 (2 * 1)), (3, .ptr 1 0 0), (4, .ptr 2 0 0), (5, .ptr 3 0 0)], hp [.tab true (.int .u64) W2, .cells [.int .u64 1, .int .u64 1], .cells [.int .u64 1, .int .u64 2], .cells [.int .u64 0, .int .u64 0]]⟩ := by
    clear a0 a1 a2 ak hn hw
    refine Goods.fin 2000 [.c (.of hat), .s 34 (some true) true true, .s 38 (some true) true true, .s 43 (some true) true true, .s 51 (some true) true true] mixed Tryd.func8 ?_
    show Yes _
    repeat' apply And.intro
    (all_goals first | rfl | assumption | trivial | omega | (simp [-List.getD_eq_getElem?_getD] <;> omega) | (simp (disch := omega) only [w64, wu64] <;> omega) | (simp (disch := omega) [-List.getD_eq_getElem?_getD, List.getD_cons_zero, List.getD_cons_succ, kCast_self, dfl_pair, dfl_int, w64, wu64] <;> omega) | (rw [Bool.eq_iff_iff]; simp (disch := omega) [-List.getD_eq_getElem?_getD, List.getD_cons_zero, List.getD_cons_succ, kCast_self, dfl_pair, dfl_int, w64, wu64] <;> omega) | (simp_all [-List.getD_eq_getElem?_getD] <;> omega))
  refine Tri.of Tryd.func8 rfl Tryd.call8 rfl ?_
  refine Goods.to 200000 [.c (.of hn), .c (.of hw), .b false, .k 17 (.of ak), .k 18 (.of a0), .k 21 (.of ak), .k 22 (.of a1), .k 25 (.of ak), .k 26 (.of a2), .upto 6] mixed ih (by kernel_rfl) ?_
  show Yes _
  repeat' apply And.intro
  all_goals first | rfl | assumption | trivial | omega
end Go.Proofs.YtdnhnglhdabkgaaDoor.E
