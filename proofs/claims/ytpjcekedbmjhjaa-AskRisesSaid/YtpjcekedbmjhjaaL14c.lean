/- AskRises: the law's contract. -/
import Derived.Test.YtpjcekedbmjhjaaL14b
namespace Go.Proofs.Ytpjcekedbmjhjaa.E
open Go
set_option maxRecDepth 100000

/-- What one who asks for so many bytes is to have, if anything. -/
inductive AskR (c : Cnf) (n : Int) : Int → Int → Int → Int → Prop where
  | cls (i : Nat) : ClsY c.cl n i → AskR c n i 0 0 (c.cl.getD i 0)
  | run : ClsN c.cl n → 1 ≤ n → n ≤ 1024 * c.s → AskR c n (-1) (runN n) 0 (runN n * 1024)
  | none : ClsN c.cl n → ¬ (1 ≤ n ∧ n ≤ 1024 * c.s) → AskR c n 0 0 3 0
theorem askR_ex (c : Cnf) (n : Int) : ∃ a b e z, AskR c n a b e z := by
  rcases cls_cases c.cl n with ⟨i, hi⟩ | hn
  · exact ⟨_, _, _, _, .cls i hi⟩
  · by_cases hr : 1 ≤ n ∧ n ≤ 1024 * c.s
    · exact ⟨_, _, _, _, .run hn hr.1 hr.2⟩
    · exact ⟨_, _, _, _, .none hn hr⟩
theorem AskR.ask {c : Cnf} {n a b e z : Int} (h : c.Ok) (r : AskR c n a b e z) : TCheck false c 1 n a b e := by
  cases r with
  | cls i hi => exact ask_class false c h n i hi
  | run h1 h2 h3 => exact ask_run false c h n h1 h2 h3
  | none h1 h2 => exact ask_none false c h n h1 h2
theorem AskR.size {c : Cnf} {n a b z : Int} (h : c.Ok) (r : AskR c n a b 0 z) : Tri En 13 [.agg [.int .i64 a, .int .i64 b], cnfA 0 c] [.tab false (.int .i64) c.cl] (.int .i64 z) [.tab false (.int .i64) c.cl] := by
  cases r with
  | cls i hi => exact size_of false c i hi.lt
  | run h1 h2 h3 => exact size_run false c (runN n) (by unfold runN; omega) (by unfold runN; omega) h.s1
theorem AskR.e {c : Cnf} {n a b e z : Int} (r : AskR c n a b e z) : e = 0 ∨ e = 3 := by
  cases r <;> simp
theorem AskR.rise {c : Cnf} {n n' a b a' b' z z' : Int} (h : c.Ok) (r : AskR c n a b 0 z) (r' : AskR c n' a' b' 0 z') (hn : n ≤ n') : z ≤ z' := by
  cases r with
  | cls i hi =>
    cases r' with
    | cls j hj =>
      by_cases hij : i < j
      · have := okL_rise h.ok i j hij hj.lt; omega
      · by_cases e : i = j
        · subst e; exact Int.le_refl _
        · have := hi.less j (by omega); have := hj.le; omega
    | run h1 h2 h3 =>
      have := h1.resolve_left (by omega) i hi.lt
      unfold runN; omega
  | run h1 h2 h3 =>
    cases r' with
    | cls j hj => have := h1.resolve_left (by omega) j hj.lt; have := hj.le; omega
    | run h1' h2' h3' => unfold runN; omega
theorem AskRises_tri (c : Cnf) (hc : c.cl.length ≤ 9223372036854775807) (a b : Int) : Tri En 5 [cnfA 0 c, .int .i64 a, .int .i64 b] [.tab false (.int .i64) c.cl] (.bl true) (gones 1) := by
  refine Tri.of Try.func5 rfl Try.call5 rfl ?_
  by_cases h : c.Ok
  · have hm := may_yes false c h
    obtain ⟨x1, x2, xe, xz, hx⟩ := askR_ex c a
    obtain ⟨y1, y2, ye, yz, hy⟩ := askR_ex c b
    have t1 := hx.ask h
    have t2 := hy.ask h
    rcases hx.e with rfl | rfl
    · rcases hy.e with rfl | rfl
      · have z1 := hx.size h
        have z2 := hy.size h
        by_cases hab : b < a
        · refine Goods.fin 2000 [.c (.of speaks_tri), .c (.of hm), .c (.of t1), .c (.of t2), .s 31 (some false) true true, .b false, .s 38 (some true) true true] mixed Try.func5 ?_
          show Yes _
          repeat' apply And.intro
          (all_goals first | rfl | assumption | trivial | omega | (simp [-List.getD_eq_getElem?_getD] <;> omega) | (simp (disch := omega) only [w64, wu64] <;> omega) | (simp (disch := omega) [-List.getD_eq_getElem?_getD, List.getD_cons_zero, List.getD_cons_succ, kCast_self, dfl_pair, dfl_int, w64, wu64] <;> omega) | (rw [Bool.eq_iff_iff]; simp (disch := omega) [-List.getD_eq_getElem?_getD, List.getD_cons_zero, List.getD_cons_succ, kCast_self, dfl_pair, dfl_int, w64, wu64] <;> omega) | (simp_all [-List.getD_eq_getElem?_getD] <;> omega))
        · have hz := hx.rise h hy (by omega)
          refine Goods.fin 2000 [.c (.of speaks_tri), .c (.of hm), .c (.of t1), .c (.of t2), .s 31 (some false) true true, .b false, .s 38 (some false) true true, .k 42 (.of z1), .k 45 (.of z2)] mixed Try.func5 ?_
          show Yes _
          repeat' apply And.intro
          (all_goals first | rfl | assumption | trivial | omega | (simp [-List.getD_eq_getElem?_getD] <;> omega) | (simp (disch := omega) only [w64, wu64] <;> omega) | (simp (disch := omega) [-List.getD_eq_getElem?_getD, List.getD_cons_zero, List.getD_cons_succ, kCast_self, dfl_pair, dfl_int, w64, wu64] <;> omega) | (rw [Bool.eq_iff_iff]; simp (disch := omega) [-List.getD_eq_getElem?_getD, List.getD_cons_zero, List.getD_cons_succ, kCast_self, dfl_pair, dfl_int, w64, wu64] <;> omega) | (simp_all [-List.getD_eq_getElem?_getD] <;> omega))
      · refine Goods.fin 2000 [.c (.of speaks_tri), .c (.of hm), .c (.of t1), .c (.of t2), .s 31 (some false) true true, .b true] mixed Try.func5 ?_
        show Yes _
        repeat' apply And.intro
        (all_goals first | rfl | assumption | trivial | omega | (simp [-List.getD_eq_getElem?_getD] <;> omega) | (simp (disch := omega) only [w64, wu64] <;> omega) | (simp (disch := omega) [-List.getD_eq_getElem?_getD, List.getD_cons_zero, List.getD_cons_succ, kCast_self, dfl_pair, dfl_int, w64, wu64] <;> omega) | (rw [Bool.eq_iff_iff]; simp (disch := omega) [-List.getD_eq_getElem?_getD, List.getD_cons_zero, List.getD_cons_succ, kCast_self, dfl_pair, dfl_int, w64, wu64] <;> omega) | (simp_all [-List.getD_eq_getElem?_getD] <;> omega))
    · refine Goods.fin 2000 [.c (.of speaks_tri), .c (.of hm), .c (.of t1), .c (.of t2), .s 31 (some true) true true] mixed Try.func5 ?_
      show Yes _
      repeat' apply And.intro
      (all_goals first | rfl | assumption | trivial | omega | (simp [-List.getD_eq_getElem?_getD] <;> omega) | (simp (disch := omega) only [w64, wu64] <;> omega) | (simp (disch := omega) [-List.getD_eq_getElem?_getD, List.getD_cons_zero, List.getD_cons_succ, kCast_self, dfl_pair, dfl_int, w64, wu64] <;> omega) | (rw [Bool.eq_iff_iff]; simp (disch := omega) [-List.getD_eq_getElem?_getD, List.getD_cons_zero, List.getD_cons_succ, kCast_self, dfl_pair, dfl_int, w64, wu64] <;> omega) | (simp_all [-List.getD_eq_getElem?_getD] <;> omega))
  · have h0 := may_no false c hc h
    refine Goods.fin 2000 [.c (.of speaks_tri), .c (.of h0)] mixed Try.func5 ?_
    show Yes _
    repeat' apply And.intro
    (all_goals first | rfl | assumption | trivial | omega | (simp [-List.getD_eq_getElem?_getD] <;> omega) | (simp (disch := omega) only [w64, wu64] <;> omega) | (simp (disch := omega) [-List.getD_eq_getElem?_getD, List.getD_cons_zero, List.getD_cons_succ, kCast_self, dfl_pair, dfl_int, w64, wu64] <;> omega) | (rw [Bool.eq_iff_iff]; simp (disch := omega) [-List.getD_eq_getElem?_getD, List.getD_cons_zero, List.getD_cons_succ, kCast_self, dfl_pair, dfl_int, w64, wu64] <;> omega) | (simp_all [-List.getD_eq_getElem?_getD] <;> omega))
theorem AskRises_law (d : dats ([(true, (.pair (.int .i64) (.pair (.int .i64) (.pair (.int .i64) (.pair (.int .i64) (.pair (.slice (.int .i64)) .unit)))))), (false, (.int .i64)), (false, (.int .i64))] : List (Bool × Sh))) (hd : datsOk ([(true, (.pair (.int .i64) (.pair (.int .i64) (.pair (.int .i64) (.pair (.int .i64) (.pair (.slice (.int .i64)) .unit)))))), (false, (.int .i64)), (false, (.int .i64))] : List (Bool × Sh)) d) : Tri En 5 (argsOf ([(true, (.pair (.int .i64) (.pair (.int .i64) (.pair (.int .i64) (.pair (.int .i64) (.pair (.slice (.int .i64)) .unit)))))), (false, (.int .i64)), (false, (.int .i64))] : List (Bool × Sh)) d 0) (objsOf ([(true, (.pair (.int .i64) (.pair (.int .i64) (.pair (.int .i64) (.pair (.int .i64) (.pair (.slice (.int .i64)) .unit)))))), (false, (.int .i64)), (false, (.int .i64))] : List (Bool × Sh)) d) (.bl true) (gones (cnts ([(true, (.pair (.int .i64) (.pair (.int .i64) (.pair (.int .i64) (.pair (.int .i64) (.pair (.slice (.int .i64)) .unit)))))), (false, (.int .i64)), (false, (.int .i64))] : List (Bool × Sh)))) := by
  obtain ⟨⟨w, s, b, t, cl, _⟩, x, y, _⟩ := d
  obtain ⟨⟨h0, h1, h2, h3, ⟨h4, _⟩, _⟩, _⟩ := hd
  exact AskRises_tri ⟨w, s, b, t, cl⟩ (maxLen_le h4) x y
end Go.Proofs.Ytpjcekedbmjhjaa.E
