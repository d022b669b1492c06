/- AskChecks: a part of its cases. -/
import Derived.Test.YtpjcekedbmjhjaaL14aA
namespace Go.Proofs.Ytpjcekedbmjhjaa.E
open Go
set_option maxRecDepth 100000

theorem checks1b (c : Cnf) (h : c.Ok) (n : Int)(g1 : ¬ 65536 ≤ n) : Tri En 3 [cnfA 0 c, .agg [.int .i64 1, .int .i64 n]] [.tab false (.int .i64) c.cl] (.bl true) (gones 1) := by
  have s0 := h.s0
  have s1 := h.s1
  have hm := may_yes false c h
  refine Tri.of Try.func3 rfl Try.call3 rfl ?_
  rcases cls_cases c.cl n with ⟨i, hi⟩ | hn
  · have h1 := ask_class false c h n i hi
    have h2 := rclass_yes false c h.l1 n i hi
    have h3 := live_of i
    refine Goods.fin 2000 [.c (.of speaks_tri), .c (.of hm), .c (.of h1),.s 21 (some false) true true, .s 40 (some true) true true, .c (.of h2), .s 46 (some true) true true, .s 49 (some true) true true, .c (.of h2), .c (.of h3)] mixed Try.func3 ?_
    show Yes _
    repeat' apply And.intro
    (all_goals first | rfl | assumption | trivial | omega | (simp [-List.getD_eq_getElem?_getD] <;> omega) | (simp (disch := omega) only [w64, wu64] <;> omega) | (simp (disch := omega) [-List.getD_eq_getElem?_getD, List.getD_cons_zero, List.getD_cons_succ, kCast_self, dfl_pair, dfl_int, w64, wu64] <;> omega) | (rw [Bool.eq_iff_iff]; simp (disch := omega) [-List.getD_eq_getElem?_getD, List.getD_cons_zero, List.getD_cons_succ, kCast_self, dfl_pair, dfl_int, w64, wu64] <;> omega) | (simp_all [-List.getD_eq_getElem?_getD] <;> omega))
  · have h2 := rclass_no false c h.l1 n hn
    by_cases hr : 1 ≤ n ∧ n ≤ 1024 * c.s
    · have h1 := ask_run false c h n hn hr.1 hr.2
      have h3 := rrun_yes false c h n hn hr.1 hr.2
      have h4 := live_run (runN n)
      have hr : 0 < runN n := by unfold runN; omega
      refine Goods.fin 2000 [.c (.of speaks_tri), .c (.of hm), .c (.of h1),.s 21 (some false) true true, .s 40 (some true) true true, .c (.of h2), .s 46 (some false) true true, .s 62 (some true) true true, .c (.of h3), .s 68 (some true) true true, .s 71 (some true) true true, .c (.of h3), .c (.of h4)] mixed Try.func3 ?_
      show Yes _
      repeat' apply And.intro
      (all_goals first | rfl | assumption | trivial | omega | (simp [-List.getD_eq_getElem?_getD] <;> omega) | (simp (disch := omega) only [w64, wu64] <;> omega) | (simp (disch := omega) [-List.getD_eq_getElem?_getD, List.getD_cons_zero, List.getD_cons_succ, kCast_self, dfl_pair, dfl_int, w64, wu64] <;> omega) | (rw [Bool.eq_iff_iff]; simp (disch := omega) [-List.getD_eq_getElem?_getD, List.getD_cons_zero, List.getD_cons_succ, kCast_self, dfl_pair, dfl_int, w64, wu64] <;> omega) | (simp_all [-List.getD_eq_getElem?_getD] <;> omega))
    · have h1 := ask_none false c h n hn hr
      have h3 := rrun_no false c h n hn hr
      refine Goods.fin 2000 [.c (.of speaks_tri), .c (.of hm), .c (.of h1),.s 21 (some false) true true, .s 40 (some true) true true, .c (.of h2), .s 46 (some false) true true, .s 62 (some true) true true, .c (.of h3), .s 68 (some false) true true, .s 84 (some true) true true, .s 86 (some true) true true] mixed Try.func3 ?_
      show Yes _
      repeat' apply And.intro
      (all_goals first | rfl | assumption | trivial | omega | (simp [-List.getD_eq_getElem?_getD] <;> omega) | (simp (disch := omega) only [w64, wu64] <;> omega) | (simp (disch := omega) [-List.getD_eq_getElem?_getD, List.getD_cons_zero, List.getD_cons_succ, kCast_self, dfl_pair, dfl_int, w64, wu64] <;> omega) | (rw [Bool.eq_iff_iff]; simp (disch := omega) [-List.getD_eq_getElem?_getD, List.getD_cons_zero, List.getD_cons_succ, kCast_self, dfl_pair, dfl_int, w64, wu64] <;> omega) | (simp_all [-List.getD_eq_getElem?_getD] <;> omega))
theorem checks0b (c : Cnf) (h : c.Ok) (k n : Int) (k1 : k ≠ 1) (k2 : k ≠ 2) (k3 : k ≠ 3)(g1 : ¬ 65536 ≤ n) : Tri En 3 [cnfA 0 c, .agg [.int .i64 k, .int .i64 n]] [.tab false (.int .i64) c.cl] (.bl true) (gones 1) := by
  have s0 := h.s0
  have s1 := h.s1
  have hm := may_yes false c h
  have h1 := ask_else false c k n k1 k2 k3
  refine Tri.of Try.func3 rfl Try.call3 rfl ?_
  refine Goods.fin 2000 [.c (.of speaks_tri), .c (.of hm), .c (.of h1),.s 21 (some false) true true, .s 40 (some false) true true, .s 62 (some false) true true, .s 84 (some false) true true, .s 95 (some false) true true, .s 99 (some false) true true, .s 118 (some true) true true] mixed Try.func3 ?_
  show Yes _
  repeat' apply And.intro
  (all_goals first | rfl | assumption | trivial | omega | (simp [-List.getD_eq_getElem?_getD] <;> omega) | (simp (disch := omega) only [w64, wu64] <;> omega) | (simp (disch := omega) [-List.getD_eq_getElem?_getD, List.getD_cons_zero, List.getD_cons_succ, kCast_self, dfl_pair, dfl_int, w64, wu64] <;> omega) | (rw [Bool.eq_iff_iff]; simp (disch := omega) [-List.getD_eq_getElem?_getD, List.getD_cons_zero, List.getD_cons_succ, kCast_self, dfl_pair, dfl_int, w64, wu64] <;> omega) | (simp_all [-List.getD_eq_getElem?_getD] <;> omega))
end Go.Proofs.Ytpjcekedbmjhjaa.E
