/- HeartDoes and its sisters: the law's own functions: same, speaks. -/
import Derived.Test.YtdnhnglhdabkgaaDoorPreflf
namespace Go.Proofs.YtdnhnglhdabkgaaDoor.E
set_option linter.unusedSimpArgs false
set_option linter.unusedVariables false
open Go
set_option maxRecDepth 100000

noncomputable abbrev gSm (n : Nat) (f : SupF) : Frm := ⟨En, 15, Tryd.f15.ntmps, [.tab true (.int .u64) (hW n f), rlT n f], .bl true, [.tab true (.int .u64) (hW n f), rlT n f]⟩
noncomputable abbrev smSt (n : Nat) (f : SupF) (i : Int) : Cfg := ⟨.none, lp Tryd.f15 0, [(0, .slice 0 0 (2 * n)), (1, .slice 1 0 n), (5, .int .i64 i)], hp [.tab true (.int .u64) (hW n f), rlT n f]⟩
theorem sm_last (n : Nat) (hn : n ≤ 64) (f : SupF) : Goods (gSm n f) (smSt n f (n + 1 : Nat)) := by
  have hl := rL_len n f
  refine Goods.fin 2000 [.b false] mixed Tryd.func15 ?_
  show Yes _
  repeat' apply And.intro
  (all_goals first | rfl | assumption | trivial | omega | (simp [-List.getD_eq_getElem?_getD] <;> omega) | (simp (disch := omega) only [w64, wu64] <;> omega) | (simp (disch := omega) [-List.getD_eq_getElem?_getD, List.getD_cons_zero, List.getD_cons_succ, kCast_self, dfl_pair, dfl_int, w64, wu64] <;> omega) | (rw [Bool.eq_iff_iff]; simp (disch := omega) [-List.getD_eq_getElem?_getD, List.getD_cons_zero, List.getD_cons_succ, kCast_self, dfl_pair, dfl_int, w64, wu64] <;> omega) | (simp_all [-List.getD_eq_getElem?_getD] <;> omega))
theorem sm_end (n : Nat) (hn : n ≤ 64) (f : SupF) (ih : Goods (gSm n f) (smSt n f (n + 1 : Nat))) : Goods (gSm n f) (smSt n f n) := by
  have hl := rL_len n f
  have hat := at_none true n hn f n (by omega)
  refine Goods.to 2000 [.b true, .c (.of hat), .s 24 (some true) true true, .s 29 (some false) true true, .l, .stop] mixed (ih) (by kernel_rfl) ?_
  show Yes _
  repeat' apply And.intro
  (all_goals first | rfl | assumption | trivial | omega | (simp [-List.getD_eq_getElem?_getD] <;> omega) | (simp (disch := omega) only [w64, wu64] <;> omega) | (simp (disch := omega) [-List.getD_eq_getElem?_getD, List.getD_cons_zero, List.getD_cons_succ, kCast_self, dfl_pair, dfl_int, w64, wu64] <;> omega) | (rw [Bool.eq_iff_iff]; simp (disch := omega) [-List.getD_eq_getElem?_getD, List.getD_cons_zero, List.getD_cons_succ, kCast_self, dfl_pair, dfl_int, w64, wu64] <;> omega) | (simp_all [-List.getD_eq_getElem?_getD] <;> omega))
theorem sm_first (n : Nat) (hn : n ≤ 64) (f : SupF) (ih : Goods (gSm n f) (smSt n f (0 : Nat))) : Goods (gSm n f) (smSt n f (-1)) := by
  have hl := rL_len n f
  have hat := at_none true n hn f (-1) (by omega)
  refine Goods.to 2000 [.b true, .c (.of hat), .s 24 (some false) true true, .l, .stop] mixed (ih) (by kernel_rfl) ?_
  show Yes _
  repeat' apply And.intro
  (all_goals first | rfl | assumption | trivial | omega | (simp [-List.getD_eq_getElem?_getD] <;> omega) | (simp (disch := omega) only [w64, wu64] <;> omega) | (simp (disch := omega) [-List.getD_eq_getElem?_getD, List.getD_cons_zero, List.getD_cons_succ, kCast_self, dfl_pair, dfl_int, w64, wu64] <;> omega) | (rw [Bool.eq_iff_iff]; simp (disch := omega) [-List.getD_eq_getElem?_getD, List.getD_cons_zero, List.getD_cons_succ, kCast_self, dfl_pair, dfl_int, w64, wu64] <;> omega) | (simp_all [-List.getD_eq_getElem?_getD] <;> omega))
theorem sm_0 (n : Nat) (hn : n ≤ 64) (f : SupF) (i a m : Nat) (hi : i < n) (hy : (rL n f).getD i (dfl SupK) = (((0 : Nat) : Int), ((0 : Nat) : Int), ((0 : Nat) : Int))) (hat : TAt true n f i supA0 true) (ih : Goods (gSm n f) (smSt n f (i + 1 : Nat))) : Goods (gSm n f) (smSt n f i) := by
  have hl := rL_len n f
  refine Goods.to 2000 [.b true, .c (.of hat), .s 24 (some true) true true, .s 29 (some true) true true, .s 40 (some true) true true, .b false, .b false, .b false, .b false, .l, .stop] mixed (ih) (by kernel_rfl) ?_
  show Yes _
  repeat' apply And.intro
  (all_goals first | rfl | assumption | trivial | omega | (simp [-List.getD_eq_getElem?_getD, hy] <;> omega) | (simp (disch := omega) only [w64, wu64] <;> omega) | (simp (disch := omega) [-List.getD_eq_getElem?_getD, List.getD_cons_zero, List.getD_cons_succ, kCast_self, dfl_pair, dfl_int, w64, wu64, hy] <;> omega) | (rw [Bool.eq_iff_iff]; simp (disch := omega) [-List.getD_eq_getElem?_getD, List.getD_cons_zero, List.getD_cons_succ, kCast_self, dfl_pair, dfl_int, w64, wu64, hy] <;> omega) | (simp_all [-List.getD_eq_getElem?_getD] <;> omega))
theorem sm_1 (n : Nat) (hn : n ≤ 64) (f : SupF) (i a m : Nat) (hi : i < n) (hy : (rL n f).getD i (dfl SupK) = (((1 : Nat) : Int), ((a : Nat) : Int), ((m : Nat) : Int))) (hat : TAt true n f i (supA1 a m) true) (ih : Goods (gSm n f) (smSt n f (i + 1 : Nat))) : Goods (gSm n f) (smSt n f i) := by
  have hl := rL_len n f
  refine Goods.to 2000 [.b true, .c (.of hat), .s 24 (some true) true true, .s 29 (some true) true true, .s 40 (some false) true true, .b true, .b false, .l, .stop] mixed (ih) (by kernel_rfl) ?_
  show Yes _
  repeat' apply And.intro
  (all_goals first | rfl | assumption | trivial | omega | (simp [-List.getD_eq_getElem?_getD, hy] <;> omega) | (simp (disch := omega) only [w64, wu64] <;> omega) | (simp (disch := omega) [-List.getD_eq_getElem?_getD, List.getD_cons_zero, List.getD_cons_succ, kCast_self, dfl_pair, dfl_int, w64, wu64, hy] <;> omega) | (rw [Bool.eq_iff_iff]; simp (disch := omega) [-List.getD_eq_getElem?_getD, List.getD_cons_zero, List.getD_cons_succ, kCast_self, dfl_pair, dfl_int, w64, wu64, hy] <;> omega) | (simp_all [-List.getD_eq_getElem?_getD] <;> omega))
theorem sm_2 (n : Nat) (hn : n ≤ 64) (f : SupF) (i a m : Nat) (hi : i < n) (hy : (rL n f).getD i (dfl SupK) = (((2 : Nat) : Int), ((a : Nat) : Int), ((0 : Nat) : Int))) (hat : TAt true n f i (supA2 a) true) (ih : Goods (gSm n f) (smSt n f (i + 1 : Nat))) : Goods (gSm n f) (smSt n f i) := by
  have hl := rL_len n f
  refine Goods.to 2000 [.b true, .c (.of hat), .s 24 (some true) true true, .s 29 (some true) true true, .s 40 (some false) true true, .b false, .b true, .b false, .l, .stop] mixed (ih) (by kernel_rfl) ?_
  show Yes _
  repeat' apply And.intro
  (all_goals first | rfl | assumption | trivial | omega | (simp [-List.getD_eq_getElem?_getD, hy] <;> omega) | (simp (disch := omega) only [w64, wu64] <;> omega) | (simp (disch := omega) [-List.getD_eq_getElem?_getD, List.getD_cons_zero, List.getD_cons_succ, kCast_self, dfl_pair, dfl_int, w64, wu64, hy] <;> omega) | (rw [Bool.eq_iff_iff]; simp (disch := omega) [-List.getD_eq_getElem?_getD, List.getD_cons_zero, List.getD_cons_succ, kCast_self, dfl_pair, dfl_int, w64, wu64, hy] <;> omega) | (simp_all [-List.getD_eq_getElem?_getD] <;> omega))
theorem sm_3 (n : Nat) (hn : n ≤ 64) (f : SupF) (i a m : Nat) (hi : i < n) (hy : (rL n f).getD i (dfl SupK) = (((3 : Nat) : Int), ((0 : Nat) : Int), ((0 : Nat) : Int))) (hat : TAt true n f i supA3 true) (ih : Goods (gSm n f) (smSt n f (i + 1 : Nat))) : Goods (gSm n f) (smSt n f i) := by
  have hl := rL_len n f
  refine Goods.to 2000 [.b true, .c (.of hat), .s 24 (some true) true true, .s 29 (some true) true true, .s 40 (some false) true true, .b false, .b false, .b true, .b false, .l, .stop] mixed (ih) (by kernel_rfl) ?_
  show Yes _
  repeat' apply And.intro
  (all_goals first | rfl | assumption | trivial | omega | (simp [-List.getD_eq_getElem?_getD, hy] <;> omega) | (simp (disch := omega) only [w64, wu64] <;> omega) | (simp (disch := omega) [-List.getD_eq_getElem?_getD, List.getD_cons_zero, List.getD_cons_succ, kCast_self, dfl_pair, dfl_int, w64, wu64, hy] <;> omega) | (rw [Bool.eq_iff_iff]; simp (disch := omega) [-List.getD_eq_getElem?_getD, List.getD_cons_zero, List.getD_cons_succ, kCast_self, dfl_pair, dfl_int, w64, wu64, hy] <;> omega) | (simp_all [-List.getD_eq_getElem?_getD] <;> omega))
theorem sm_all (c : Cnf) (hc : c.Ok) (n : Nat) (hn : n ≤ 64) (f : SupF) (hI : HInv c n f) : ∀ (j i : Nat), i + j = n → Goods (gSm n f) (smSt n f i)
  | 0, i, hi => by
    obtain rfl : i = n := by omega
    exact sm_end i hn f (sm_last i hn f)
  | j + 1, i, hi => by
    have l1 := hc.l1
    have ih := sm_all c hc n hn f hI j (i + 1) (by omega)
    have hin : i < n := by omega
    rcases hI i hin with e | ⟨a, m, e, ha, hs, hne, hm⟩ | ⟨a, e, h1, h2, h3⟩ | e
    · exact sm_0 n hn f i 0 0 hin (rL_at hin e) (at_0 true n hn f i hin 0 (by omega) e) ih
    · exact sm_1 n hn f i a m hin (rL_at hin e) (at_1 true n hn f i hin a m (by omega) e) ih
    · exact sm_2 n hn f i a 0 hin (rL_at hin e) (at_2 true n hn f i hin a (by omega) e) ih
    · exact sm_3 n hn f i 0 0 hin (rL_at hin e) (at_3 true n hn f i hin 0 (by omega) e) ih
theorem same_tri (c : Cnf) (hc : c.Ok) (n : Nat) (hn : n ≤ 64) (f : SupF) (hI : HInv c n f) : Tri En 15 [.slice 0 0 (2 * n), .slice 1 0 n] [.tab true (.int .u64) (hW n f), rlT n f] (.bl true) [.tab true (.int .u64) (hW n f), rlT n f] := by
  have ih := sm_first n hn f (sm_all c hc n hn f hI n 0 (by omega))
  refine Tri.of Tryd.func15 rfl Tryd.call15 rfl ?_
  refine Goods.to 2000 [.l, .stop] mixed (ih) (by kernel_rfl) ?_
  show Yes _
  repeat' apply And.intro
  (all_goals first | rfl | assumption | trivial | omega | (simp [-List.getD_eq_getElem?_getD] <;> omega) | (simp (disch := omega) only [w64, wu64] <;> omega) | (simp (disch := omega) [-List.getD_eq_getElem?_getD, List.getD_cons_zero, List.getD_cons_succ, kCast_self, dfl_pair, dfl_int, w64, wu64] <;> omega) | (rw [Bool.eq_iff_iff]; simp (disch := omega) [-List.getD_eq_getElem?_getD, List.getD_cons_zero, List.getD_cons_succ, kCast_self, dfl_pair, dfl_int, w64, wu64] <;> omega) | (simp_all [-List.getD_eq_getElem?_getD] <;> omega))
end Go.Proofs.YtdnhnglhdabkgaaDoor.E
