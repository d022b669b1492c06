/- Package arena: Run, Place, and what the document says of them. -/
import Derived.Test.YtcicfbccdgkfhaaDoorParena
namespace Go.Proofs.YtcicfbccdgkfhaaDoor.E
set_option linter.unusedSimpArgs false
set_option linter.unusedVariables false
open Go
set_option maxRecDepth 100000

/-- How many superblocks a size takes. -/
def runN (n : Int) : Int := (n + 1023) / 1024
theorem most_tri (own : Bool) (c : Cnf) (h : c.Small) : Tri En 88 [cnfA 0 c] [.tab own (.int .i64) c.cl] (.int .i64 (c.s * 1024)) [.tab own (.int .i64) c.cl] := by
  obtain ⟨w0, w1, s0, s1, b0, b1, t0, t1⟩ := h
  refine Tri.of Tryd.func88 rfl Tryd.call88 rfl ?_
  refine Goods.fin 2000 [] mixed Tryd.func88 ?_
  show Yes _
  repeat' apply And.intro
  (all_goals first | rfl | assumption | trivial | omega | (simp [-List.getD_eq_getElem?_getD] <;> omega) | (simp (disch := omega) only [w64, wu64] <;> omega) | (simp (disch := omega) [-List.getD_eq_getElem?_getD, List.getD_cons_zero, List.getD_cons_succ, kCast_self, dfl_pair, dfl_int, w64, wu64] <;> omega) | (rw [Bool.eq_iff_iff]; simp (disch := omega) [-List.getD_eq_getElem?_getD, List.getD_cons_zero, List.getD_cons_succ, kCast_self, dfl_pair, dfl_int, w64, wu64] <;> omega) | (simp_all [-List.getD_eq_getElem?_getD] <;> omega))
theorem end_tri (own : Bool) (c : Cnf) (h : c.Small) : Tri En 89 [cnfA 0 c] [.tab own (.int .i64) c.cl] (.int .i64 (65536 + c.s * 1024)) [.tab own (.int .i64) c.cl] := by
  have hm := most_tri own c h
  obtain ⟨w0, w1, s0, s1, b0, b1, t0, t1⟩ := h
  refine Tri.of Tryd.func89 rfl Tryd.call89 rfl ?_
  refine Goods.fin 2000 [.c (.of hm)] mixed Tryd.func89 ?_
  show Yes _
  repeat' apply And.intro
  (all_goals first | rfl | assumption | trivial | omega | (simp [-List.getD_eq_getElem?_getD] <;> omega) | (simp (disch := omega) only [w64, wu64] <;> omega) | (simp (disch := omega) [-List.getD_eq_getElem?_getD, List.getD_cons_zero, List.getD_cons_succ, kCast_self, dfl_pair, dfl_int, w64, wu64] <;> omega) | (rw [Bool.eq_iff_iff]; simp (disch := omega) [-List.getD_eq_getElem?_getD, List.getD_cons_zero, List.getD_cons_succ, kCast_self, dfl_pair, dfl_int, w64, wu64] <;> omega) | (simp_all [-List.getD_eq_getElem?_getD] <;> omega))
theorem run_yes (own : Bool) (c : Cnf) (h : c.Ok) (n : Int) (h1 : ClsN c.cl n) (h2 : 1 ≤ n) (h3 : n ≤ 1024 * c.s) : Tri En 62 [cnfA 0 c, .int .i64 n] [.tab own (.int .i64) c.cl] (.int .i64 (runN n)) [.tab own (.int .i64) c.cl] := by
  have g1 := class_no own c h.l1 n h1
  have g2 := most_tri own c h.toSmall
  have s1 := h.s1
  have e : Int.tdiv (n + 1024 - 1) 1024 = runN n := by rw [Int.tdiv_eq_ediv_of_nonneg (by omega)]; unfold runN; omega
  have e0 : IntKind.i64.wrap (n + 1024) = n + 1024 := w64 (by omega) (by omega)
  have e1 : IntKind.i64.wrap (n + 1024 - 1) = n + 1024 - 1 := w64 (by omega) (by omega)
  have e3 : IntKind.i64.wrap (runN n) = runN n := w64 (by unfold runN; omega) (by unfold runN; omega)
  refine Tri.of Tryd.func62 rfl Tryd.call62 rfl ?_
  refine Goods.fin 2000 [.c (.of g1), .s 16 (some false) true true, .c (.of g2), .b false] mixed Tryd.func62 ?_
  show Yes _
  repeat' apply And.intro
  (all_goals first | rfl | assumption | trivial | omega | (simp [-List.getD_eq_getElem?_getD, e0, e1, e, e3] <;> omega) | (simp (disch := omega) only [w64, wu64] <;> omega) | (simp (disch := omega) [-List.getD_eq_getElem?_getD, List.getD_cons_zero, List.getD_cons_succ, kCast_self, dfl_pair, dfl_int, w64, wu64, e0, e1, e, e3] <;> omega) | (rw [Bool.eq_iff_iff]; simp (disch := omega) [-List.getD_eq_getElem?_getD, List.getD_cons_zero, List.getD_cons_succ, kCast_self, dfl_pair, dfl_int, w64, wu64, e0, e1, e, e3] <;> omega) | (simp_all [-List.getD_eq_getElem?_getD] <;> omega))
theorem run_no (own : Bool) (c : Cnf) (h : c.Ok) (n : Int) (h1 : ClsN c.cl n) (h2 : ¬ (1 ≤ n ∧ n ≤ 1024 * c.s)) : Tri En 62 [cnfA 0 c, .int .i64 n] [.tab own (.int .i64) c.cl] (.int .i64 0) [.tab own (.int .i64) c.cl] := by
  have g1 := class_no own c h.l1 n h1
  have g2 := most_tri own c h.toSmall
  have s1 := h.s1
  refine Tri.of Tryd.func62 rfl Tryd.call62 rfl ?_
  by_cases h3 : n < 1
  · refine Goods.fin 2000 [.c (.of g1), .s 16 (some true) true true] mixed Tryd.func62 ?_
    show Yes _
    repeat' apply And.intro
    (all_goals first | rfl | assumption | trivial | omega | (simp [-List.getD_eq_getElem?_getD] <;> omega) | (simp (disch := omega) only [w64, wu64] <;> omega) | (simp (disch := omega) [-List.getD_eq_getElem?_getD, List.getD_cons_zero, List.getD_cons_succ, kCast_self, dfl_pair, dfl_int, w64, wu64] <;> omega) | (rw [Bool.eq_iff_iff]; simp (disch := omega) [-List.getD_eq_getElem?_getD, List.getD_cons_zero, List.getD_cons_succ, kCast_self, dfl_pair, dfl_int, w64, wu64] <;> omega) | (simp_all [-List.getD_eq_getElem?_getD] <;> omega))
  · refine Goods.fin 2000 [.c (.of g1), .s 16 (some false) true true, .c (.of g2), .b true] mixed Tryd.func62 ?_
    show Yes _
    repeat' apply And.intro
    (all_goals first | rfl | assumption | trivial | omega | (simp [-List.getD_eq_getElem?_getD] <;> omega) | (simp (disch := omega) only [w64, wu64] <;> omega) | (simp (disch := omega) [-List.getD_eq_getElem?_getD, List.getD_cons_zero, List.getD_cons_succ, kCast_self, dfl_pair, dfl_int, w64, wu64] <;> omega) | (rw [Bool.eq_iff_iff]; simp (disch := omega) [-List.getD_eq_getElem?_getD, List.getD_cons_zero, List.getD_cons_succ, kCast_self, dfl_pair, dfl_int, w64, wu64] <;> omega) | (simp_all [-List.getD_eq_getElem?_getD] <;> omega))
/-- An address is one of the arena's grains. -/
def grainP (c : Cnf) (n : Int) : Prop := 65536 ≤ n ∧ n < 65536 + 1024 * c.s ∧ Int.tmod n 16 = 0
theorem place_yes (own : Bool) (c : Cnf) (h : c.Small) (n : Int) (h1 : grainP c n) : Tri En 64 [cnfA 0 c, .int .i64 n] [.tab own (.int .i64) c.cl] (.tuple [.int .i64 (Int.tdiv (Int.tdiv (n - 65536) 16) 64), .int .i64 (Int.tmod (Int.tdiv (n - 65536) 16) 64), .bl true]) [.tab own (.int .i64) c.cl] := by
  have g1 := end_tri own c h
  obtain ⟨a1, a2, a3⟩ := h1
  have s1 := h.s1
  have e : IntKind.i64.wrap (n - 65536) = n - 65536 := w64 (by omega) (by omega)
  have e2 : Int.tdiv (n - 65536) 16 = (n - 65536) / 16 := Int.tdiv_eq_ediv_of_nonneg (by omega)
  have e3 : IntKind.i64.wrap ((n - 65536) / 16) = (n - 65536) / 16 := w64 (by omega) (by omega)
  have e4 : Int.tdiv ((n - 65536) / 16) 64 = ((n - 65536) / 16) / 64 := Int.tdiv_eq_ediv_of_nonneg (by omega)
  have e5 : IntKind.i64.wrap (((n - 65536) / 16) / 64) = ((n - 65536) / 16) / 64 := w64 (by omega) (by omega)
  refine Tri.of Tryd.func64 rfl Tryd.call64 rfl ?_
  refine Goods.fin 2000 [.s 9 (some false) true true, .c (.of g1), .s 14 (some false) true true, .b false] mixed Tryd.func64 ?_
  show Yes _
  repeat' apply And.intro
  (all_goals first | rfl | assumption | trivial | omega | (simp [-List.getD_eq_getElem?_getD, e, e2, e3, a3, e4, e5] <;> omega) | (simp (disch := omega) only [w64, wu64] <;> omega) | (simp (disch := omega) [-List.getD_eq_getElem?_getD, List.getD_cons_zero, List.getD_cons_succ, kCast_self, dfl_pair, dfl_int, w64, wu64, e, e2, e3, a3, e4, e5] <;> omega) | (rw [Bool.eq_iff_iff]; simp (disch := omega) [-List.getD_eq_getElem?_getD, List.getD_cons_zero, List.getD_cons_succ, kCast_self, dfl_pair, dfl_int, w64, wu64, e, e2, e3, a3, e4, e5] <;> omega) | (simp_all [-List.getD_eq_getElem?_getD] <;> omega))
theorem place_no (own : Bool) (c : Cnf) (h : c.Small) (n : Int) (h1 : ¬ grainP c n) : Tri En 64 [cnfA 0 c, .int .i64 n] [.tab own (.int .i64) c.cl] (.tuple [.int .i64 0, .int .i64 0, .bl false]) [.tab own (.int .i64) c.cl] := by
  have g1 := end_tri own c h
  unfold grainP at h1
  refine Tri.of Tryd.func64 rfl Tryd.call64 rfl ?_
  by_cases a1 : n < 65536
  · refine Goods.fin 2000 [.s 9 (some true) true true] mixed Tryd.func64 ?_
    show Yes _
    repeat' apply And.intro
    (all_goals first | rfl | assumption | trivial | omega | (simp [-List.getD_eq_getElem?_getD] <;> omega) | (simp (disch := omega) only [w64, wu64] <;> omega) | (simp (disch := omega) [-List.getD_eq_getElem?_getD, List.getD_cons_zero, List.getD_cons_succ, kCast_self, dfl_pair, dfl_int, w64, wu64] <;> omega) | (rw [Bool.eq_iff_iff]; simp (disch := omega) [-List.getD_eq_getElem?_getD, List.getD_cons_zero, List.getD_cons_succ, kCast_self, dfl_pair, dfl_int, w64, wu64] <;> omega) | (simp_all [-List.getD_eq_getElem?_getD] <;> omega))
  · by_cases a2 : n < 65536 + 1024 * c.s
    · have a3 : Int.tmod n 16 ≠ 0 := fun x => h1 ⟨by omega, a2, x⟩
      refine Goods.fin 2000 [.s 9 (some false) true true, .c (.of g1), .s 14 (some false) true true, .b true] mixed Tryd.func64 ?_
      show Yes _
      repeat' apply And.intro
      (all_goals first | rfl | assumption | trivial | omega | (simp [-List.getD_eq_getElem?_getD, a3] <;> omega) | (simp (disch := omega) only [w64, wu64] <;> omega) | (simp (disch := omega) [-List.getD_eq_getElem?_getD, List.getD_cons_zero, List.getD_cons_succ, kCast_self, dfl_pair, dfl_int, w64, wu64, a3] <;> omega) | (rw [Bool.eq_iff_iff]; simp (disch := omega) [-List.getD_eq_getElem?_getD, List.getD_cons_zero, List.getD_cons_succ, kCast_self, dfl_pair, dfl_int, w64, wu64, a3] <;> omega) | (simp_all [-List.getD_eq_getElem?_getD] <;> omega))
    · refine Goods.fin 2000 [.s 9 (some false) true true, .c (.of g1), .s 14 (some true) true true] mixed Tryd.func64 ?_
      show Yes _
      repeat' apply And.intro
      (all_goals first | rfl | assumption | trivial | omega | (simp [-List.getD_eq_getElem?_getD] <;> omega) | (simp (disch := omega) only [w64, wu64] <;> omega) | (simp (disch := omega) [-List.getD_eq_getElem?_getD, List.getD_cons_zero, List.getD_cons_succ, kCast_self, dfl_pair, dfl_int, w64, wu64] <;> omega) | (rw [Bool.eq_iff_iff]; simp (disch := omega) [-List.getD_eq_getElem?_getD, List.getD_cons_zero, List.getD_cons_succ, kCast_self, dfl_pair, dfl_int, w64, wu64] <;> omega) | (simp_all [-List.getD_eq_getElem?_getD] <;> omega))
end Go.Proofs.YtcicfbccdgkfhaaDoor.E
