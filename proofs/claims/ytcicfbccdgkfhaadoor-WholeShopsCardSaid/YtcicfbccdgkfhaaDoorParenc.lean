/- Package live's things, and ask.Check. -/
import Derived.Test.YtcicfbccdgkfhaaDoorParenb
namespace Go.Proofs.YtcicfbccdgkfhaaDoor.E
set_option linter.unusedSimpArgs false
set_option linter.unusedVariables false
open Go
set_option maxRecDepth 100000

theorem live_of (i : Int) : Tri En 24 [.int .i64 i] [] (.agg [.int .i64 i, .int .i64 0]) [] := by
  refine Tri.of Tryd.func24 rfl Tryd.call24 rfl ?_
  refine Goods.fin 2000 [] mixed Tryd.func24 ?_
  show Yes _
  repeat' apply And.intro
  (all_goals first | rfl | assumption | trivial | omega | (simp [-List.getD_eq_getElem?_getD] <;> omega) | (simp (disch := omega) only [w64, wu64] <;> omega) | (simp (disch := omega) [-List.getD_eq_getElem?_getD, List.getD_cons_zero, List.getD_cons_succ, kCast_self, dfl_pair, dfl_int, w64, wu64] <;> omega) | (rw [Bool.eq_iff_iff]; simp (disch := omega) [-List.getD_eq_getElem?_getD, List.getD_cons_zero, List.getD_cons_succ, kCast_self, dfl_pair, dfl_int, w64, wu64] <;> omega) | (simp_all [-List.getD_eq_getElem?_getD] <;> omega))
theorem live_run (r : Int) : Tri En 63 [.int .i64 r] [] (.agg [.int .i64 (-1), .int .i64 r]) [] := by
  refine Tri.of Tryd.func63 rfl Tryd.call63 rfl ?_
  refine Goods.fin 2000 [] mixed Tryd.func63 ?_
  show Yes _
  repeat' apply And.intro
  (all_goals first | rfl | assumption | trivial | omega | (simp [-List.getD_eq_getElem?_getD] <;> omega) | (simp (disch := omega) only [w64, wu64] <;> omega) | (simp (disch := omega) [-List.getD_eq_getElem?_getD, List.getD_cons_zero, List.getD_cons_succ, kCast_self, dfl_pair, dfl_int, w64, wu64] <;> omega) | (rw [Bool.eq_iff_iff]; simp (disch := omega) [-List.getD_eq_getElem?_getD, List.getD_cons_zero, List.getD_cons_succ, kCast_self, dfl_pair, dfl_int, w64, wu64] <;> omega) | (simp_all [-List.getD_eq_getElem?_getD] <;> omega))
theorem size_of (own : Bool) (c : Cnf) (i : Nat) (h : i < c.cl.length) : Tri En 66 [.agg [.int .i64 i, .int .i64 0], cnfA 0 c] [.tab own (.int .i64) c.cl] (.int .i64 (c.cl.getD i 0)) [.tab own (.int .i64) c.cl] := by
  refine Tri.of Tryd.func66 rfl Tryd.call66 rfl ?_
  refine Goods.fin 2000 [.s 8 (some true) true true, .s 15 (some true) true true, .b true] mixed Tryd.func66 ?_
  show Yes _
  repeat' apply And.intro
  (all_goals first | rfl | assumption | trivial | omega | (simp [-List.getD_eq_getElem?_getD] <;> omega) | (simp (disch := omega) only [w64, wu64] <;> omega) | (simp (disch := omega) [-List.getD_eq_getElem?_getD, List.getD_cons_zero, List.getD_cons_succ, kCast_self, dfl_pair, dfl_int, w64, wu64] <;> omega) | (rw [Bool.eq_iff_iff]; simp (disch := omega) [-List.getD_eq_getElem?_getD, List.getD_cons_zero, List.getD_cons_succ, kCast_self, dfl_pair, dfl_int, w64, wu64] <;> omega) | (simp_all [-List.getD_eq_getElem?_getD] <;> omega))
theorem size_run (own : Bool) (c : Cnf) (r : Int) (h1 : 1 ≤ r) (h2 : r ≤ c.s) (hs : c.s ≤ 64) : Tri En 66 [.agg [.int .i64 (-1), .int .i64 r], cnfA 0 c] [.tab own (.int .i64) c.cl] (.int .i64 (r * 1024)) [.tab own (.int .i64) c.cl] := by
  refine Tri.of Tryd.func66 rfl Tryd.call66 rfl ?_
  refine Goods.fin 2000 [.s 8 (some false) true true, .s 31 (some true) true true, .s 35 (some true) true true, .b true] mixed Tryd.func66 ?_
  show Yes _
  repeat' apply And.intro
  (all_goals first | rfl | assumption | trivial | omega | (simp [-List.getD_eq_getElem?_getD] <;> omega) | (simp (disch := omega) only [w64, wu64] <;> omega) | (simp (disch := omega) [-List.getD_eq_getElem?_getD, List.getD_cons_zero, List.getD_cons_succ, kCast_self, dfl_pair, dfl_int, w64, wu64] <;> omega) | (rw [Bool.eq_iff_iff]; simp (disch := omega) [-List.getD_eq_getElem?_getD, List.getD_cons_zero, List.getD_cons_succ, kCast_self, dfl_pair, dfl_int, w64, wu64] <;> omega) | (simp_all [-List.getD_eq_getElem?_getD] <;> omega))
noncomputable abbrev TCheck (own : Bool) (c : Cnf) (k n a b e : Int) : Prop := Tri En 26 [cnfA 0 c, .agg [.int .i64 k, .int .i64 n]] [.tab own (.int .i64) c.cl] (.tuple [.agg [.int .i64 a, .int .i64 b], .int .i64 e]) [.tab own (.int .i64) c.cl]
theorem ask_class (own : Bool) (c : Cnf) (h : c.Ok) (n : Int) (i : Nat) (h1 : ClsY c.cl n i) : TCheck own c 1 n i 0 0 := by
  have g1 := class_yes own c h.l1 n i h1
  have g2 := live_of i
  refine Tri.of Tryd.func26 rfl Tryd.call26 rfl ?_
  refine Goods.fin 2000 [.s 15 (some true) true true, .c (.of g1), .c (.of g2)] mixed Tryd.func26 ?_
  show Yes _
  repeat' apply And.intro
  (all_goals first | rfl | assumption | trivial | omega | (simp [-List.getD_eq_getElem?_getD] <;> omega) | (simp (disch := omega) only [w64, wu64] <;> omega) | (simp (disch := omega) [-List.getD_eq_getElem?_getD, List.getD_cons_zero, List.getD_cons_succ, kCast_self, dfl_pair, dfl_int, w64, wu64] <;> omega) | (rw [Bool.eq_iff_iff]; simp (disch := omega) [-List.getD_eq_getElem?_getD, List.getD_cons_zero, List.getD_cons_succ, kCast_self, dfl_pair, dfl_int, w64, wu64] <;> omega) | (simp_all [-List.getD_eq_getElem?_getD] <;> omega))
theorem ask_run (own : Bool) (c : Cnf) (h : c.Ok) (n : Int) (h1 : ClsN c.cl n) (h2 : 1 ≤ n) (h3 : n ≤ 1024 * c.s) : TCheck own c 1 n (-1) (runN n) 0 := by
  have g1 := class_no own c h.l1 n h1
  have g2 := run_yes own c h n h1 h2 h3
  have g3 := live_run (runN n)
  have hr : 0 < runN n := by unfold runN; omega
  refine Tri.of Tryd.func26 rfl Tryd.call26 rfl ?_
  refine Goods.fin 2000 [.s 15 (some true) true true, .c (.of g1), .c (.of g2), .b true, .c (.of g3)] mixed Tryd.func26 ?_
  show Yes _
  repeat' apply And.intro
  (all_goals first | rfl | assumption | trivial | omega | (simp [-List.getD_eq_getElem?_getD] <;> omega) | (simp (disch := omega) only [w64, wu64] <;> omega) | (simp (disch := omega) [-List.getD_eq_getElem?_getD, List.getD_cons_zero, List.getD_cons_succ, kCast_self, dfl_pair, dfl_int, w64, wu64] <;> omega) | (rw [Bool.eq_iff_iff]; simp (disch := omega) [-List.getD_eq_getElem?_getD, List.getD_cons_zero, List.getD_cons_succ, kCast_self, dfl_pair, dfl_int, w64, wu64] <;> omega) | (simp_all [-List.getD_eq_getElem?_getD] <;> omega))
theorem ask_none (own : Bool) (c : Cnf) (h : c.Ok) (n : Int) (h1 : ClsN c.cl n) (h2 : ¬ (1 ≤ n ∧ n ≤ 1024 * c.s)) : TCheck own c 1 n 0 0 3 := by
  have g1 := class_no own c h.l1 n h1
  have g2 := run_no own c h n h1 h2
  refine Tri.of Tryd.func26 rfl Tryd.call26 rfl ?_
  refine Goods.fin 2000 [.s 15 (some true) true true, .c (.of g1), .c (.of g2), .b false] mixed Tryd.func26 ?_
  show Yes _
  repeat' apply And.intro
  (all_goals first | rfl | assumption | trivial | omega | (simp [-List.getD_eq_getElem?_getD] <;> omega) | (simp (disch := omega) only [w64, wu64] <;> omega) | (simp (disch := omega) [-List.getD_eq_getElem?_getD, List.getD_cons_zero, List.getD_cons_succ, kCast_self, dfl_pair, dfl_int, w64, wu64] <;> omega) | (rw [Bool.eq_iff_iff]; simp (disch := omega) [-List.getD_eq_getElem?_getD, List.getD_cons_zero, List.getD_cons_succ, kCast_self, dfl_pair, dfl_int, w64, wu64] <;> omega) | (simp_all [-List.getD_eq_getElem?_getD] <;> omega))
theorem ask_free (own : Bool) (c : Cnf) (h : c.Ok) (k n : Int) (hk : k = 2 ∨ k = 3) (h1 : grainP c n) : TCheck own c k n 0 0 0 := by
  have g1 := place_yes own c h.toSmall n h1
  rcases hk with rfl | rfl
  · refine Tri.of Tryd.func26 rfl Tryd.call26 rfl ?_
    refine Goods.fin 2000 [.s 15 (some false) true true, .s 36 (some true) true true, .c (.of g1)] mixed Tryd.func26 ?_
    show Yes _
    repeat' apply And.intro
    (all_goals first | rfl | assumption | trivial | omega | (simp [-List.getD_eq_getElem?_getD] <;> omega) | (simp (disch := omega) only [w64, wu64] <;> omega) | (simp (disch := omega) [-List.getD_eq_getElem?_getD, List.getD_cons_zero, List.getD_cons_succ, kCast_self, dfl_pair, dfl_int, w64, wu64] <;> omega) | (rw [Bool.eq_iff_iff]; simp (disch := omega) [-List.getD_eq_getElem?_getD, List.getD_cons_zero, List.getD_cons_succ, kCast_self, dfl_pair, dfl_int, w64, wu64] <;> omega) | (simp_all [-List.getD_eq_getElem?_getD] <;> omega))
  · refine Tri.of Tryd.func26 rfl Tryd.call26 rfl ?_
    refine Goods.fin 2000 [.s 15 (some false) true true, .s 36 (some false) true true, .s 37 (some true) true true, .c (.of g1)] mixed Tryd.func26 ?_
    show Yes _
    repeat' apply And.intro
    (all_goals first | rfl | assumption | trivial | omega | (simp [-List.getD_eq_getElem?_getD] <;> omega) | (simp (disch := omega) only [w64, wu64] <;> omega) | (simp (disch := omega) [-List.getD_eq_getElem?_getD, List.getD_cons_zero, List.getD_cons_succ, kCast_self, dfl_pair, dfl_int, w64, wu64] <;> omega) | (rw [Bool.eq_iff_iff]; simp (disch := omega) [-List.getD_eq_getElem?_getD, List.getD_cons_zero, List.getD_cons_succ, kCast_self, dfl_pair, dfl_int, w64, wu64] <;> omega) | (simp_all [-List.getD_eq_getElem?_getD] <;> omega))
theorem ask_nofree (own : Bool) (c : Cnf) (h : c.Ok) (k n : Int) (hk : k = 2 ∨ k = 3) (h1 : ¬ grainP c n) : TCheck own c k n 0 0 4 := by
  have g1 := place_no own c h.toSmall n h1
  rcases hk with rfl | rfl
  · refine Tri.of Tryd.func26 rfl Tryd.call26 rfl ?_
    refine Goods.fin 2000 [.s 15 (some false) true true, .s 36 (some true) true true, .c (.of g1)] mixed Tryd.func26 ?_
    show Yes _
    repeat' apply And.intro
    (all_goals first | rfl | assumption | trivial | omega | (simp [-List.getD_eq_getElem?_getD] <;> omega) | (simp (disch := omega) only [w64, wu64] <;> omega) | (simp (disch := omega) [-List.getD_eq_getElem?_getD, List.getD_cons_zero, List.getD_cons_succ, kCast_self, dfl_pair, dfl_int, w64, wu64] <;> omega) | (rw [Bool.eq_iff_iff]; simp (disch := omega) [-List.getD_eq_getElem?_getD, List.getD_cons_zero, List.getD_cons_succ, kCast_self, dfl_pair, dfl_int, w64, wu64] <;> omega) | (simp_all [-List.getD_eq_getElem?_getD] <;> omega))
  · refine Tri.of Tryd.func26 rfl Tryd.call26 rfl ?_
    refine Goods.fin 2000 [.s 15 (some false) true true, .s 36 (some false) true true, .s 37 (some true) true true, .c (.of g1)] mixed Tryd.func26 ?_
    show Yes _
    repeat' apply And.intro
    (all_goals first | rfl | assumption | trivial | omega | (simp [-List.getD_eq_getElem?_getD] <;> omega) | (simp (disch := omega) only [w64, wu64] <;> omega) | (simp (disch := omega) [-List.getD_eq_getElem?_getD, List.getD_cons_zero, List.getD_cons_succ, kCast_self, dfl_pair, dfl_int, w64, wu64] <;> omega) | (rw [Bool.eq_iff_iff]; simp (disch := omega) [-List.getD_eq_getElem?_getD, List.getD_cons_zero, List.getD_cons_succ, kCast_self, dfl_pair, dfl_int, w64, wu64] <;> omega) | (simp_all [-List.getD_eq_getElem?_getD] <;> omega))
theorem ask_else (own : Bool) (c : Cnf) (k n : Int) (h1 : k ≠ 1) (h2 : k ≠ 2) (h3 : k ≠ 3) : TCheck own c k n 0 0 2 := by
  refine Tri.of Tryd.func26 rfl Tryd.call26 rfl ?_
  refine Goods.fin 2000 [.s 15 (some false) true true, .s 36 (some false) true true, .s 37 (some false) true true] mixed Tryd.func26 ?_
  show Yes _
  repeat' apply And.intro
  (all_goals first | rfl | assumption | trivial | omega | (simp [-List.getD_eq_getElem?_getD] <;> omega) | (simp (disch := omega) only [w64, wu64] <;> omega) | (simp (disch := omega) [-List.getD_eq_getElem?_getD, List.getD_cons_zero, List.getD_cons_succ, kCast_self, dfl_pair, dfl_int, w64, wu64] <;> omega) | (rw [Bool.eq_iff_iff]; simp (disch := omega) [-List.getD_eq_getElem?_getD, List.getD_cons_zero, List.getD_cons_succ, kCast_self, dfl_pair, dfl_int, w64, wu64] <;> omega) | (simp_all [-List.getD_eq_getElem?_getD] <;> omega))
end Go.Proofs.YtcicfbccdgkfhaaDoor.E
