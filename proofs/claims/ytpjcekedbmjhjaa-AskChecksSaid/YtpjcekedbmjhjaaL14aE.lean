/- AskChecks: a part of its cases. -/
import Derived.Test.YtpjcekedbmjhjaaL14aD
namespace Go.Proofs.Ytpjcekedbmjhjaa.E
open Go
set_option maxRecDepth 100000

theorem checks2a (c : Cnf) (h : c.Ok) (k n : Int) (hk : k = 2 ∨ k = 3) (g1 : 65536 ≤ n) (g2 : n < 65536 + 1024 * c.s) (g3 : Int.tmod n 16 = 0) : Tri En 3 [cnfA 0 c, .agg [.int .i64 k, .int .i64 n]] [.tab false (.int .i64) c.cl] (.bl true) (gones 1) := by
  have s0 := h.s0
  have s1 := h.s1
  have hm := may_yes false c h
  have h1 := ask_free false c h k n hk ⟨g1, g2, g3⟩
  refine Tri.of Try.func3 rfl Try.call3 rfl ?_
  by_cases k2 : k = 2
  · refine Goods.fin 2000 [.c (.of speaks_tri), .c (.of hm), .c (.of h1), .s 21 (some true) true true, .s 29 (some true) true true, .s 35 (some true) true true, .s 40 (some false) true true, .s 62 (some false) true true, .s 84 (some false) true true, .s 95 (some true) true true, .s 102 (some true) true true] mixed Try.func3 ?_
    show Yes _
    repeat' apply And.intro
    (all_goals first | rfl | assumption | trivial | omega | (simp [-List.getD_eq_getElem?_getD] <;> omega) | (simp (disch := omega) only [w64, wu64] <;> omega) | (simp (disch := omega) [-List.getD_eq_getElem?_getD, List.getD_cons_zero, List.getD_cons_succ, kCast_self, dfl_pair, dfl_int, w64, wu64] <;> omega) | (rw [Bool.eq_iff_iff]; simp (disch := omega) [-List.getD_eq_getElem?_getD, List.getD_cons_zero, List.getD_cons_succ, kCast_self, dfl_pair, dfl_int, w64, wu64] <;> omega) | (simp_all [-List.getD_eq_getElem?_getD] <;> omega))
  · refine Goods.fin 2000 [.c (.of speaks_tri), .c (.of hm), .c (.of h1), .s 21 (some true) true true, .s 29 (some true) true true, .s 35 (some true) true true, .s 40 (some false) true true, .s 62 (some false) true true, .s 84 (some false) true true, .s 95 (some false) true true, .s 99 (some true) true true, .s 102 (some true) true true] mixed Try.func3 ?_
    show Yes _
    repeat' apply And.intro
    (all_goals first | rfl | assumption | trivial | omega | (simp [-List.getD_eq_getElem?_getD] <;> omega) | (simp (disch := omega) only [w64, wu64] <;> omega) | (simp (disch := omega) [-List.getD_eq_getElem?_getD, List.getD_cons_zero, List.getD_cons_succ, kCast_self, dfl_pair, dfl_int, w64, wu64] <;> omega) | (rw [Bool.eq_iff_iff]; simp (disch := omega) [-List.getD_eq_getElem?_getD, List.getD_cons_zero, List.getD_cons_succ, kCast_self, dfl_pair, dfl_int, w64, wu64] <;> omega) | (simp_all [-List.getD_eq_getElem?_getD] <;> omega))
theorem checks2b (c : Cnf) (h : c.Ok) (k n : Int) (hk : k = 2 ∨ k = 3)(g1 : ¬ 65536 ≤ n) : Tri En 3 [cnfA 0 c, .agg [.int .i64 k, .int .i64 n]] [.tab false (.int .i64) c.cl] (.bl true) (gones 1) := by
  have s0 := h.s0
  have s1 := h.s1
  have hm := may_yes false c h
  have h1 := ask_nofree false c h k n hk (fun x => g1 x.1)
  refine Tri.of Try.func3 rfl Try.call3 rfl ?_
  by_cases k2 : k = 2
  · refine Goods.fin 2000 [.c (.of speaks_tri), .c (.of hm), .c (.of h1),.s 21 (some false) true true, .s 40 (some false) true true, .s 62 (some false) true true, .s 84 (some false) true true, .s 95 (some true) true true, .s 102 (some false) true true, .s 109 (some true) true true] mixed Try.func3 ?_
    show Yes _
    repeat' apply And.intro
    (all_goals first | rfl | assumption | trivial | omega | (simp [-List.getD_eq_getElem?_getD] <;> omega) | (simp (disch := omega) only [w64, wu64] <;> omega) | (simp (disch := omega) [-List.getD_eq_getElem?_getD, List.getD_cons_zero, List.getD_cons_succ, kCast_self, dfl_pair, dfl_int, w64, wu64] <;> omega) | (rw [Bool.eq_iff_iff]; simp (disch := omega) [-List.getD_eq_getElem?_getD, List.getD_cons_zero, List.getD_cons_succ, kCast_self, dfl_pair, dfl_int, w64, wu64] <;> omega) | (simp_all [-List.getD_eq_getElem?_getD] <;> omega))
  · refine Goods.fin 2000 [.c (.of speaks_tri), .c (.of hm), .c (.of h1),.s 21 (some false) true true, .s 40 (some false) true true, .s 62 (some false) true true, .s 84 (some false) true true, .s 95 (some false) true true, .s 99 (some true) true true, .s 102 (some false) true true, .s 109 (some true) true true] mixed Try.func3 ?_
    show Yes _
    repeat' apply And.intro
    (all_goals first | rfl | assumption | trivial | omega | (simp [-List.getD_eq_getElem?_getD] <;> omega) | (simp (disch := omega) only [w64, wu64] <;> omega) | (simp (disch := omega) [-List.getD_eq_getElem?_getD, List.getD_cons_zero, List.getD_cons_succ, kCast_self, dfl_pair, dfl_int, w64, wu64] <;> omega) | (rw [Bool.eq_iff_iff]; simp (disch := omega) [-List.getD_eq_getElem?_getD, List.getD_cons_zero, List.getD_cons_succ, kCast_self, dfl_pair, dfl_int, w64, wu64] <;> omega) | (simp_all [-List.getD_eq_getElem?_getD] <;> omega))
end Go.Proofs.Ytpjcekedbmjhjaa.E
