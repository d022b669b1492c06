/- Package live's things, and ask.Check. -/
import Derived.Test.YtokblanedeiegaaDoorParenb
namespace Go.Proofs.YtokblanedeiegaaDoor.E
open Go
set_option maxRecDepth 100000

theorem live_of (i : Int) : Tri En 12 [.int .i64 i] [] (.agg [.int .i64 i, .int .i64 0]) [] := by
  refine Tri.of Tryd.func12 rfl Tryd.call12 rfl ?_
  refine Goods.fin 2000 [] mixed Tryd.func12 ?_
  show Yes _
  repeat' apply And.intro
  (all_goals first | rfl | assumption | trivial | omega | (simp [-List.getD_eq_getElem?_getD] <;> omega) | (simp (disch := omega) only [w64, wu64] <;> omega) | (simp (disch := omega) [-List.getD_eq_getElem?_getD, List.getD_cons_zero, List.getD_cons_succ, kCast_self, dfl_pair, dfl_int, w64, wu64] <;> omega) | (rw [Bool.eq_iff_iff]; simp (disch := omega) [-List.getD_eq_getElem?_getD, List.getD_cons_zero, List.getD_cons_succ, kCast_self, dfl_pair, dfl_int, w64, wu64] <;> omega) | (simp_all [-List.getD_eq_getElem?_getD] <;> omega))
theorem live_run (r : Int) : Tri En 13 [.int .i64 r] [] (.agg [.int .i64 (-1), .int .i64 r]) [] := by
  refine Tri.of Tryd.func13 rfl Tryd.call13 rfl ?_
  refine Goods.fin 2000 [] mixed Tryd.func13 ?_
  show Yes _
  repeat' apply And.intro
  (all_goals first | rfl | assumption | trivial | omega | (simp [-List.getD_eq_getElem?_getD] <;> omega) | (simp (disch := omega) only [w64, wu64] <;> omega) | (simp (disch := omega) [-List.getD_eq_getElem?_getD, List.getD_cons_zero, List.getD_cons_succ, kCast_self, dfl_pair, dfl_int, w64, wu64] <;> omega) | (rw [Bool.eq_iff_iff]; simp (disch := omega) [-List.getD_eq_getElem?_getD, List.getD_cons_zero, List.getD_cons_succ, kCast_self, dfl_pair, dfl_int, w64, wu64] <;> omega) | (simp_all [-List.getD_eq_getElem?_getD] <;> omega))
theorem size_of (own : Bool) (c : Cnf) (i : Nat) (h : i < c.cl.length) : Tri En 10 [.agg [.int .i64 i, .int .i64 0], cnfA 0 c] [.tab own (.int .i64) c.cl] (.int .i64 (c.cl.getD i 0)) [.tab own (.int .i64) c.cl] := by
  refine Tri.of Tryd.func10 rfl Tryd.call10 rfl ?_
  refine Goods.fin 2000 [.s 8 (some true) true true, .s 15 (some true) true true, .b true] mixed Tryd.func10 ?_
  show Yes _
  repeat' apply And.intro
  (all_goals first | rfl | assumption | trivial | omega | (simp [-List.getD_eq_getElem?_getD] <;> omega) | (simp (disch := omega) only [w64, wu64] <;> omega) | (simp (disch := omega) [-List.getD_eq_getElem?_getD, List.getD_cons_zero, List.getD_cons_succ, kCast_self, dfl_pair, dfl_int, w64, wu64] <;> omega) | (rw [Bool.eq_iff_iff]; simp (disch := omega) [-List.getD_eq_getElem?_getD, List.getD_cons_zero, List.getD_cons_succ, kCast_self, dfl_pair, dfl_int, w64, wu64] <;> omega) | (simp_all [-List.getD_eq_getElem?_getD] <;> omega))
theorem size_run (own : Bool) (c : Cnf) (r : Int) (h1 : 1 ≤ r) (h2 : r ≤ c.s) (hs : c.s ≤ 64) : Tri En 10 [.agg [.int .i64 (-1), .int .i64 r], cnfA 0 c] [.tab own (.int .i64) c.cl] (.int .i64 (r * 1024)) [.tab own (.int .i64) c.cl] := by
  refine Tri.of Tryd.func10 rfl Tryd.call10 rfl ?_
  refine Goods.fin 2000 [.s 8 (some false) true true, .s 31 (some true) true true, .s 35 (some true) true true, .b true] mixed Tryd.func10 ?_
  show Yes _
  repeat' apply And.intro
  (all_goals first | rfl | assumption | trivial | omega | (simp [-List.getD_eq_getElem?_getD] <;> omega) | (simp (disch := omega) only [w64, wu64] <;> omega) | (simp (disch := omega) [-List.getD_eq_getElem?_getD, List.getD_cons_zero, List.getD_cons_succ, kCast_self, dfl_pair, dfl_int, w64, wu64] <;> omega) | (rw [Bool.eq_iff_iff]; simp (disch := omega) [-List.getD_eq_getElem?_getD, List.getD_cons_zero, List.getD_cons_succ, kCast_self, dfl_pair, dfl_int, w64, wu64] <;> omega) | (simp_all [-List.getD_eq_getElem?_getD] <;> omega))
end Go.Proofs.YtokblanedeiegaaDoor.E
