/- AskChecks, AskFits, AskRises: the laws' contracts. -/
import Derived.Test.YtpjcekedbmjhjaaParenc
namespace Go.Proofs.Ytpjcekedbmjhjaa.E
open Go
set_option maxRecDepth 100000

theorem speaks_tri : Tri En 6 [] [] (.bl true) [] := by
  have ok : (⟨1, 1, 1, 0, [16, 64]⟩ : Cnf).Ok := ⟨⟨by simp, by simp, by simp, by simp, by simp, by simp, by simp, by simp⟩, by simp, by simp, by simp [okL, okN]⟩
  have h1 := ask_class true ⟨1, 1, 1, 0, [16, 64]⟩ ok 17 1 ⟨by simp, by simp, by simp, fun j hj => (by have e : j = 0 := (by omega); subst e; exact (by decide : (16 : Int) < 17))⟩
  have n2 : ClsN [16, 64] 65 := .inr fun j hj => by
    match j, hj with
    | 0, _ => simp
    | 1, _ => simp
  have n3 : ClsN [16, 64] 1025 := .inr fun j hj => by
    match j, hj with
    | 0, _ => simp
    | 1, _ => simp
  have h2 := ask_run true ⟨1, 1, 1, 0, [16, 64]⟩ ok 65 n2 (by simp) (by simp)
  have h3 := ask_none true ⟨1, 1, 1, 0, [16, 64]⟩ ok 1025 n3 (by simp)
  have h4 := live_of 1
  have h5 := live_run 1
  refine Tri.of Try.func6 rfl Try.call6 rfl ?_
  refine Goods.fin 2000 [.c (.of h1), .c (.of h2), .c (.of h3), .s 29 (some true) true true, .s 32 (some true) true true, .s 36 (some true) true true, .c (.of h4), .s 41 (some true) true true, .c (.of h5)] mixed Try.func6 ?_
  show Yes _
  repeat' apply And.intro
  (all_goals first | rfl | assumption | trivial | omega | (simp [-List.getD_eq_getElem?_getD, runN] <;> omega) | (simp (disch := omega) only [w64, wu64] <;> omega) | (simp (disch := omega) [-List.getD_eq_getElem?_getD, List.getD_cons_zero, List.getD_cons_succ, kCast_self, dfl_pair, dfl_int, w64, wu64, runN] <;> omega) | (rw [Bool.eq_iff_iff]; simp (disch := omega) [-List.getD_eq_getElem?_getD, List.getD_cons_zero, List.getD_cons_succ, kCast_self, dfl_pair, dfl_int, w64, wu64, runN] <;> omega) | (simp_all [-List.getD_eq_getElem?_getD] <;> omega))

end Go.Proofs.Ytpjcekedbmjhjaa.E
