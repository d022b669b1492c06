/- Package live: the table's methods. -/
import Derived.Test.YtcicfbccdgkfhaaDoorPlivet
namespace Go.Proofs.YtcicfbccdgkfhaaDoor.E
set_option linter.unusedSimpArgs false
set_option linter.unusedVariables false
open Go
set_option maxRecDepth 100000

/-- A table: its memory is object i, its classes lie in object j. -/
def tableC (i j : Nat) (b : Int) (c : Cnf) : AObj := .cells [.ptr i 0 0, .int .i64 b, .int .i64 c.w, .int .i64 c.s, .int .i64 c.b, .int .i64 c.t, .slice j 0 c.cl.length]
def clsT (c : Cnf) : AObj := .tab true (.int .i64) c.cl
theorem new_tri (m : MemS) (own : Bool) (b : Int) (c : Cnf) (h : c.cl.length ≤ 16) : Tri En 57 [.ptr 0 0 0, .int .i64 b, cnfA 1 c] [memC 2 m, .tab own (.int .i64) c.cl, memT m] (.ptr 3 0 0) [memC 2 m, .tab own (.int .i64) c.cl, memT m, tableC 0 4 b c, clsT c] := by
  refine Tri.of Tryd.func57 rfl Tryd.call57 rfl ?_
  refine Goods.fin 2000 [.c (.of (conf_copy own c (by omega)))] mixed Tryd.func57 ?_
  show Yes _
  repeat' apply And.intro
  (all_goals first | rfl | assumption | trivial | omega | (simp [-List.getD_eq_getElem?_getD] <;> omega) | (simp (disch := omega) only [w64, wu64] <;> omega) | (simp (disch := omega) [-List.getD_eq_getElem?_getD, List.getD_cons_zero, List.getD_cons_succ, kCast_self, dfl_pair, dfl_int, w64, wu64] <;> omega) | (rw [Bool.eq_iff_iff]; simp (disch := omega) [-List.getD_eq_getElem?_getD, List.getD_cons_zero, List.getD_cons_succ, kCast_self, dfl_pair, dfl_int, w64, wu64] <;> omega) | (simp_all [-List.getD_eq_getElem?_getD] <;> omega))
/-- The grain at which an address is. -/
theorem grain_of {c : Cnf} {n : Int} (h : grainP c n) : ∃ g : Nat, (g : Int) < 64 * c.s ∧ n = 65536 + 16 * (g : Int) := by
  obtain ⟨h1, h2, h3⟩ := h
  have : Int.tmod n 16 = n % 16 := Int.tmod_eq_emod_of_nonneg (by omega)
  rw [this] at h3
  exact ⟨((n - 65536) / 16).toNat, by omega, by omega⟩
theorem grain_is {c : Cnf} {g : Nat} (h : (g : Int) < 64 * c.s) : grainP c (65536 + 16 * (g : Int)) := by
  refine ⟨by omega, by omega, ?_⟩
  rw [Int.tmod_eq_emod_of_nonneg (by omega)]; omega
section
variable (c : Cnf) (h : c.Ok) (b : Nat) (hb : b ≤ 100000) (m : MemS)
include h hb
theorem at_yes (g : Nat) (hg : (g : Int) < 64 * c.s) : Tri En 58 [.ptr 0 0 0, .int .i64 (65536 + 16 * (g : Int))] [tableC 1 2 b c, memC 3 m, clsT c, memT m] (.tuple [.int .i64 (b + g : Nat), .bl true]) [tableC 1 2 b c, memC 3 m, clsT c, memT m] := by
  have s1 := h.s1
  have hp := place_yes true c h.toSmall _ (grain_is hg)
  have e2 : Int.tdiv (65536 + 16 * (g : Int) - 65536) 16 = (g : Int) := by rw [Int.tdiv_eq_ediv_of_nonneg (by omega)]; omega
  have e4 : Int.tdiv (g : Int) 64 = ((g / 64 : Nat) : Int) := by rw [Int.tdiv_eq_ediv_of_nonneg (by omega)]; omega
  have e5 : Int.tmod (g : Int) 64 = ((g % 64 : Nat) : Int) := by rw [Int.tmod_eq_emod_of_nonneg (by omega)]; omega
  rw [e2, e4, e5] at hp
  have e6 : g / 64 * 64 + g % 64 = g := by omega
  have l6 : g / 64 < 64 := by omega
  have l7 : g % 64 < 64 := by omega
  generalize g / 64 = x at *
  generalize g % 64 = y at *
  refine Tri.of Tryd.func58 rfl Tryd.call58 rfl ?_
  refine Goods.fin 2000 [.c (.of hp)] mixed Tryd.func58 ?_
  show Yes _
  repeat' apply And.intro
  (all_goals first | rfl | assumption | trivial | omega | (simp [-List.getD_eq_getElem?_getD] <;> omega) | (simp (disch := omega) only [w64, wu64] <;> omega) | (simp (disch := omega) [-List.getD_eq_getElem?_getD, List.getD_cons_zero, List.getD_cons_succ, kCast_self, dfl_pair, dfl_int, w64, wu64] <;> omega) | (rw [Bool.eq_iff_iff]; simp (disch := omega) [-List.getD_eq_getElem?_getD, List.getD_cons_zero, List.getD_cons_succ, kCast_self, dfl_pair, dfl_int, w64, wu64] <;> omega) | (simp_all [-List.getD_eq_getElem?_getD] <;> omega))
theorem at_no (n : Int) (hn : ¬ grainP c n) : Tri En 58 [.ptr 0 0 0, .int .i64 n] [tableC 1 2 b c, memC 3 m, clsT c, memT m] (.tuple [.int .i64 b, .bl false]) [tableC 1 2 b c, memC 3 m, clsT c, memT m] := by
  have hp := place_no true c h.toSmall n hn
  refine Tri.of Tryd.func58 rfl Tryd.call58 rfl ?_
  refine Goods.fin 2000 [.c (.of hp)] mixed Tryd.func58 ?_
  show Yes _
  repeat' apply And.intro
  (all_goals first | rfl | assumption | trivial | omega | (simp [-List.getD_eq_getElem?_getD] <;> omega) | (simp (disch := omega) only [w64, wu64] <;> omega) | (simp (disch := omega) [-List.getD_eq_getElem?_getD, List.getD_cons_zero, List.getD_cons_succ, kCast_self, dfl_pair, dfl_int, w64, wu64] <;> omega) | (rw [Bool.eq_iff_iff]; simp (disch := omega) [-List.getD_eq_getElem?_getD, List.getD_cons_zero, List.getD_cons_succ, kCast_self, dfl_pair, dfl_int, w64, wu64] <;> omega) | (simp_all [-List.getD_eq_getElem?_getD] <;> omega))
theorem mark_yes (g : Nat) (hg : (g : Int) < 64 * c.s) (x : ThT) (hx : thOk c x) : Tri En 23 [.ptr 0 0 0, .int .i64 (65536 + 16 * (g : Int)), thA x] [tableC 1 2 b c, memC 3 m, clsT c, memT m] (.bl true) [tableC 1 2 b c, memC 3 ((m.acc 2 (b + g : Nat)).put (b + g : Nat) (codeN x)), clsT c, memT ((m.acc 2 (b + g : Nat)).put (b + g : Nat) (codeN x))] := by
  have ha := at_yes c h b hb m g hg
  have hc := code_tri c h x hx
  have hs := mem_store m (b + g : Nat) (codeN x)
  refine Tri.of Tryd.func23 rfl Tryd.call23 rfl ?_
  refine Goods.fin 2000 [.c (.of ha), .k 22 (.of hc), .k 23 (.of hs)] mixed Tryd.func23 ?_
  show Yes _
  repeat' apply And.intro
  (all_goals first | rfl | assumption | trivial | omega | (simp [-List.getD_eq_getElem?_getD] <;> omega) | (simp (disch := omega) only [w64, wu64] <;> omega) | (simp (disch := omega) [-List.getD_eq_getElem?_getD, List.getD_cons_zero, List.getD_cons_succ, kCast_self, dfl_pair, dfl_int, w64, wu64] <;> omega) | (rw [Bool.eq_iff_iff]; simp (disch := omega) [-List.getD_eq_getElem?_getD, List.getD_cons_zero, List.getD_cons_succ, kCast_self, dfl_pair, dfl_int, w64, wu64] <;> omega) | (simp_all [-List.getD_eq_getElem?_getD] <;> omega))
theorem mark_no (n : Int) (hn : ¬ grainP c n) (x : ThT) : Tri En 23 [.ptr 0 0 0, .int .i64 n, thA x] [tableC 1 2 b c, memC 3 m, clsT c, memT m] (.bl false) [tableC 1 2 b c, memC 3 m, clsT c, memT m] := by
  have ha := at_no c h b hb m n hn
  refine Tri.of Tryd.func23 rfl Tryd.call23 rfl ?_
  refine Goods.fin 2000 [.c (.of ha)] mixed Tryd.func23 ?_
  show Yes _
  repeat' apply And.intro
  (all_goals first | rfl | assumption | trivial | omega | (simp [-List.getD_eq_getElem?_getD] <;> omega) | (simp (disch := omega) only [w64, wu64] <;> omega) | (simp (disch := omega) [-List.getD_eq_getElem?_getD, List.getD_cons_zero, List.getD_cons_succ, kCast_self, dfl_pair, dfl_int, w64, wu64] <;> omega) | (rw [Bool.eq_iff_iff]; simp (disch := omega) [-List.getD_eq_getElem?_getD, List.getD_cons_zero, List.getD_cons_succ, kCast_self, dfl_pair, dfl_int, w64, wu64] <;> omega) | (simp_all [-List.getD_eq_getElem?_getD] <;> omega))
end
end Go.Proofs.YtcicfbccdgkfhaaDoor.E
