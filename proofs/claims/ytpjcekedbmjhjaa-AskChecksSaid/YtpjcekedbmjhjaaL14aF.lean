/- AskChecks: the law's contract. -/
import Derived.Test.YtpjcekedbmjhjaaL14aE
namespace Go.Proofs.Ytpjcekedbmjhjaa.E
open Go
set_option maxRecDepth 100000

theorem checks2c (c : Cnf) (h : c.Ok) (k n : Int) (hk : k = 2 ∨ k = 3)(g1 : 65536 ≤ n) (g2 : ¬ n < 65536 + 1024 * c.s) : Tri En 3 [cnfA 0 c, .agg [.int .i64 k, .int .i64 n]] [.tab false (.int .i64) c.cl] (.bl true) (gones 1) := by
  have s0 := h.s0
  have s1 := h.s1
  have hm := may_yes false c h
  have h1 := ask_nofree false c h k n hk (fun x => g2 x.2.1)
  refine Tri.of Try.func3 rfl Try.call3 rfl ?_
  by_cases k2 : k = 2
  · refine Goods.fin 2000 [.c (.of speaks_tri), .c (.of hm), .c (.of h1),.s 21 (some true) true true, .s 29 (some false) true true, .s 40 (some false) true true, .s 62 (some false) true true, .s 84 (some false) true true, .s 95 (some true) true true, .s 102 (some false) true true, .s 109 (some true) true true] mixed Try.func3 ?_
    show Yes _
    repeat' apply And.intro
    (all_goals first | rfl | assumption | trivial | omega | (simp [-List.getD_eq_getElem?_getD] <;> omega) | (simp (disch := omega) only [w64, wu64] <;> omega) | (simp (disch := omega) [-List.getD_eq_getElem?_getD, List.getD_cons_zero, List.getD_cons_succ, kCast_self, dfl_pair, dfl_int, w64, wu64] <;> omega) | (rw [Bool.eq_iff_iff]; simp (disch := omega) [-List.getD_eq_getElem?_getD, List.getD_cons_zero, List.getD_cons_succ, kCast_self, dfl_pair, dfl_int, w64, wu64] <;> omega) | (simp_all [-List.getD_eq_getElem?_getD] <;> omega))
  · refine Goods.fin 2000 [.c (.of speaks_tri), .c (.of hm), .c (.of h1),.s 21 (some true) true true, .s 29 (some false) true true, .s 40 (some false) true true, .s 62 (some false) true true, .s 84 (some false) true true, .s 95 (some false) true true, .s 99 (some true) true true, .s 102 (some false) true true, .s 109 (some true) true true] mixed Try.func3 ?_
    show Yes _
    repeat' apply And.intro
    (all_goals first | rfl | assumption | trivial | omega | (simp [-List.getD_eq_getElem?_getD] <;> omega) | (simp (disch := omega) only [w64, wu64] <;> omega) | (simp (disch := omega) [-List.getD_eq_getElem?_getD, List.getD_cons_zero, List.getD_cons_succ, kCast_self, dfl_pair, dfl_int, w64, wu64] <;> omega) | (rw [Bool.eq_iff_iff]; simp (disch := omega) [-List.getD_eq_getElem?_getD, List.getD_cons_zero, List.getD_cons_succ, kCast_self, dfl_pair, dfl_int, w64, wu64] <;> omega) | (simp_all [-List.getD_eq_getElem?_getD] <;> omega))
theorem checks2d (c : Cnf) (h : c.Ok) (k n : Int) (hk : k = 2 ∨ k = 3)(g1 : 65536 ≤ n) (g2 : n < 65536 + 1024 * c.s) (g3 : Int.tmod n 16 ≠ 0) : Tri En 3 [cnfA 0 c, .agg [.int .i64 k, .int .i64 n]] [.tab false (.int .i64) c.cl] (.bl true) (gones 1) := by
  have s0 := h.s0
  have s1 := h.s1
  have hm := may_yes false c h
  have h1 := ask_nofree false c h k n hk (fun x => g3 x.2.2)
  refine Tri.of Try.func3 rfl Try.call3 rfl ?_
  by_cases k2 : k = 2
  · refine Goods.fin 2000 [.c (.of speaks_tri), .c (.of hm), .c (.of h1),.s 21 (some true) true true, .s 29 (some true) true true, .s 35 (some false) true true, .s 40 (some false) true true, .s 62 (some false) true true, .s 84 (some false) true true, .s 95 (some true) true true, .s 102 (some false) true true, .s 109 (some true) true true] mixed Try.func3 ?_
    show Yes _
    repeat' apply And.intro
    (all_goals first | rfl | assumption | trivial | omega | (simp [-List.getD_eq_getElem?_getD] <;> omega) | (simp (disch := omega) only [w64, wu64] <;> omega) | (simp (disch := omega) [-List.getD_eq_getElem?_getD, List.getD_cons_zero, List.getD_cons_succ, kCast_self, dfl_pair, dfl_int, w64, wu64] <;> omega) | (rw [Bool.eq_iff_iff]; simp (disch := omega) [-List.getD_eq_getElem?_getD, List.getD_cons_zero, List.getD_cons_succ, kCast_self, dfl_pair, dfl_int, w64, wu64] <;> omega) | (simp_all [-List.getD_eq_getElem?_getD] <;> omega))
  · refine Goods.fin 2000 [.c (.of speaks_tri), .c (.of hm), .c (.of h1),.s 21 (some true) true true, .s 29 (some true) true true, .s 35 (some false) true true, .s 40 (some false) true true, .s 62 (some false) true true, .s 84 (some false) true true, .s 95 (some false) true true, .s 99 (some true) true true, .s 102 (some false) true true, .s 109 (some true) true true] mixed Try.func3 ?_
    show Yes _
    repeat' apply And.intro
    (all_goals first | rfl | assumption | trivial | omega | (simp [-List.getD_eq_getElem?_getD] <;> omega) | (simp (disch := omega) only [w64, wu64] <;> omega) | (simp (disch := omega) [-List.getD_eq_getElem?_getD, List.getD_cons_zero, List.getD_cons_succ, kCast_self, dfl_pair, dfl_int, w64, wu64] <;> omega) | (rw [Bool.eq_iff_iff]; simp (disch := omega) [-List.getD_eq_getElem?_getD, List.getD_cons_zero, List.getD_cons_succ, kCast_self, dfl_pair, dfl_int, w64, wu64] <;> omega) | (simp_all [-List.getD_eq_getElem?_getD] <;> omega))
theorem AskChecks_tri (c : Cnf) (hc : c.cl.length ≤ 9223372036854775807) (k n : Int) : Tri En 3 [cnfA 0 c, .agg [.int .i64 k, .int .i64 n]] [.tab false (.int .i64) c.cl] (.bl true) (gones 1) := by
  by_cases h : c.Ok
  · by_cases k1 : k = 1
    · subst k1
      by_cases g1 : 65536 ≤ n
      · by_cases g2 : n < 65536 + 1024 * c.s
        · by_cases g3 : Int.tmod n 16 = 0
          · exact checks1a c h n g1 g2 g3
          · exact checks1d c h n g1 g2 g3
        · exact checks1c c h n g1 g2
      · exact checks1b c h n g1
    · by_cases hk : k = 2 ∨ k = 3
      · by_cases g1 : 65536 ≤ n
        · by_cases g2 : n < 65536 + 1024 * c.s
          · by_cases g3 : Int.tmod n 16 = 0
            · exact checks2a c h k n hk g1 g2 g3
            · exact checks2d c h k n hk g1 g2 g3
          · exact checks2c c h k n hk g1 g2
        · exact checks2b c h k n hk g1
      · have k2 : k ≠ 2 := fun x => hk (.inl x)
        have k3 : k ≠ 3 := fun x => hk (.inr x)
        by_cases g1 : 65536 ≤ n
        · by_cases g2 : n < 65536 + 1024 * c.s
          · by_cases g3 : Int.tmod n 16 = 0
            · exact checks0a c h k n k1 k2 k3 g1 g2 g3
            · exact checks0d c h k n k1 k2 k3 g1 g2 g3
          · exact checks0c c h k n k1 k2 k3 g1 g2
        · exact checks0b c h k n k1 k2 k3 g1
  · have h0 := may_no false c hc h
    refine Tri.of Try.func3 rfl Try.call3 rfl ?_
    refine Goods.fin 2000 [.c (.of speaks_tri), .c (.of h0)] mixed Try.func3 ?_
    show Yes _
    repeat' apply And.intro
    (all_goals first | rfl | assumption | trivial | omega | (simp [-List.getD_eq_getElem?_getD] <;> omega) | (simp (disch := omega) only [w64, wu64] <;> omega) | (simp (disch := omega) [-List.getD_eq_getElem?_getD, List.getD_cons_zero, List.getD_cons_succ, kCast_self, dfl_pair, dfl_int, w64, wu64] <;> omega) | (rw [Bool.eq_iff_iff]; simp (disch := omega) [-List.getD_eq_getElem?_getD, List.getD_cons_zero, List.getD_cons_succ, kCast_self, dfl_pair, dfl_int, w64, wu64] <;> omega) | (simp_all [-List.getD_eq_getElem?_getD] <;> omega))
theorem AskChecks_law (d : dats ([(true, (.pair (.int .i64) (.pair (.int .i64) (.pair (.int .i64) (.pair (.int .i64) (.pair (.slice (.int .i64)) .unit)))))), (true, (.pair (.int .i64) (.pair (.int .i64) .unit)))] : List (Bool × Sh))) (hd : datsOk ([(true, (.pair (.int .i64) (.pair (.int .i64) (.pair (.int .i64) (.pair (.int .i64) (.pair (.slice (.int .i64)) .unit)))))), (true, (.pair (.int .i64) (.pair (.int .i64) .unit)))] : List (Bool × Sh)) d) : Tri En 3 (argsOf ([(true, (.pair (.int .i64) (.pair (.int .i64) (.pair (.int .i64) (.pair (.int .i64) (.pair (.slice (.int .i64)) .unit)))))), (true, (.pair (.int .i64) (.pair (.int .i64) .unit)))] : List (Bool × Sh)) d 0) (objsOf ([(true, (.pair (.int .i64) (.pair (.int .i64) (.pair (.int .i64) (.pair (.int .i64) (.pair (.slice (.int .i64)) .unit)))))), (true, (.pair (.int .i64) (.pair (.int .i64) .unit)))] : List (Bool × Sh)) d) (.bl true) (gones (cnts ([(true, (.pair (.int .i64) (.pair (.int .i64) (.pair (.int .i64) (.pair (.int .i64) (.pair (.slice (.int .i64)) .unit)))))), (true, (.pair (.int .i64) (.pair (.int .i64) .unit)))] : List (Bool × Sh)))) := by
  obtain ⟨⟨w, s, b, t, cl, _⟩, ⟨k, n, _⟩, _⟩ := d
  obtain ⟨⟨h0, h1, h2, h3, ⟨h4, _⟩, _⟩, _⟩ := hd
  exact AskChecks_tri ⟨w, s, b, t, cl⟩ (maxLen_le h4) k n
end Go.Proofs.Ytpjcekedbmjhjaa.E
