/- Package live: the table's methods. -/
import Derived.Test.YtpjcekedbmjhjaaDoorPlivet
namespace Go.Proofs.YtpjcekedbmjhjaaDoor.E
open Go
set_option maxRecDepth 100000

/-- A table: its memory is object i, its classes lie in object j. -/
def tableC (i j : Nat) (b : Int) (c : Cnf) : AObj := .cells [.ptr i 0 0, .int .i64 b, .int .i64 c.w, .int .i64 c.s, .int .i64 c.b, .int .i64 c.t, .slice j 0 c.cl.length]
def clsT (c : Cnf) : AObj := .tab true (.int .i64) c.cl
theorem new_tri (m : MemS) (own : Bool) (b : Int) (c : Cnf) (h : c.cl.length ≤ 16) : Tri En 21 [.ptr 0 0 0, .int .i64 b, cnfA 1 c] [memC 2 m, .tab own (.int .i64) c.cl, memT m] (.ptr 3 0 0) [memC 2 m, .tab own (.int .i64) c.cl, memT m, tableC 0 4 b c, clsT c] := by
  refine Tri.of Tryd.func21 rfl Tryd.call21 rfl ?_
  refine Goods.fin 2000 [.c (.of (conf_copy own c (by omega)))] mixed Tryd.func21 ?_
  show Yes _
  repeat' apply And.intro
  (all_goals first | rfl | assumption | trivial | omega | (simp [-List.getD_eq_getElem?_getD] <;> omega) | (simp (disch := omega) only [w64, wu64] <;> omega) | (simp (disch := omega) [-List.getD_eq_getElem?_getD, List.getD_cons_zero, List.getD_cons_succ, kCast_self, dfl_pair, dfl_int, w64, wu64] <;> omega) | (rw [Bool.eq_iff_iff]; simp (disch := omega) [-List.getD_eq_getElem?_getD, List.getD_cons_zero, List.getD_cons_succ, kCast_self, dfl_pair, dfl_int, w64, wu64] <;> omega) | (simp_all [-List.getD_eq_getElem?_getD] <;> omega))
/-- The grain at which an address is. -/
theorem grain_of {c : Cnf} {n : Int} (h : grainP c n) : ∃ g : Nat, (g : Int) < 64 * c.s ∧ n = 65536 + 16 * (g : Int) := by
  obtain ⟨h1, h2, h3⟩ := h
  have : Int.tmod n 16 = n % 16 := Int.tmod_eq_emod_of_nonneg (by omega)
  rw [this] at h3
  exact ⟨((n - 65536) / 16).toNat, by omega, by omega⟩
theorem grain_is {c : Cnf} {g : Nat} (h : (g : Int) < 64 * c.s) : grainP c (65536 + 16 * (g : Int)) := by
  refine ⟨by omega, by omega, ?_⟩
  rw [Int.tmod_eq_emod_of_nonneg (by omega)]; omega
section
variable (c : Cnf) (h : c.Ok) (b : Nat) (hb : b ≤ 100000) (m : MemS)
include h hb
end
end Go.Proofs.YtpjcekedbmjhjaaDoor.E
