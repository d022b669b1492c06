/- WholeTiles: the law's contract. -/
import Derived.Test.YtcicfbccdgkfhaaPspand
import Derived.Test.YtcicfbccdgkfhaaPcap
namespace Go.Proofs.Ytcicfbccdgkfhaa.E
set_option linter.unusedSimpArgs false
set_option linter.unusedVariables false
open Go
set_option maxRecDepth 100000

theorem addr_tri (own : Bool) (c : Cnf) (h : c.Ok) (k : Nat) (hk : k < c.cl.length) (z : Nat) (hz : c.cl.getD k 0 = z) (z2 : 16 ≤ z) (z3 : z ≤ 512) (m : Nat) (hcap : capN c k = m) (hmz : m * z ≤ 1024) (s i : Nat) (hs : (s : Int) < c.s) (hi : i < m) : Tri En 27 [cnfA 0 c, .int .i64 k, .agg [.int .i64 s, .int .i64 i]] [.tab own (.int .i64) c.cl] (.int .i64 ((65536 + 1024 * s + i * z : Nat) : Int)) [.tab own (.int .i64) c.cl] := by
  have l1 := h.l1
  have s1 := h.s1
  have h1 := cap_tri own c h k
  rw [hcap] at h1
  have hle : i * z ≤ 1024 := Nat.le_trans (Nat.mul_le_mul_right z (Nat.le_of_lt hi)) hmz
  have g0 : IntKind.i64.wrap ((i : Int) * c.cl.getD k 0) = ((i * z : Nat) : Int) := by
    rw [hz, show (i : Int) * (z : Int) = ((i * z : Nat) : Int) by simp]
    exact w64 (by omega) (by omega)
  have g1 : IntKind.i64.wrap (IntKind.i64.wrap (65536 + IntKind.i64.wrap ((s : Int) * 1024)) + IntKind.i64.wrap ((i : Int) * c.cl.getD k 0)) = ((65536 + 1024 * s + i * z : Nat) : Int) := by
    rw [g0]
    generalize i * z = y at *
    rw [w64 (x := (s : Int) * 1024) (by omega) (by omega), w64 (x := 65536 + (s : Int) * 1024) (by omega) (by omega), w64 (by omega) (by omega)]
    omega
  refine Tri.of Try.func27 rfl Try.call27 rfl ?_
  refine Goods.fin 2000 [.s 9 (some false) true true, .s 15 (some false) true true, .s 20 (some false) true true, .c (.of h1), .b false] mixed Try.func27 ?_
  show Yes _
  repeat' apply And.intro
  all_goals try exact g1
  (all_goals first | rfl | assumption | trivial | omega | (simp [-List.getD_eq_getElem?_getD] <;> omega) | (simp (disch := omega) only [w64, wu64] <;> omega) | (simp (disch := omega) [-List.getD_eq_getElem?_getD, List.getD_cons_zero, List.getD_cons_succ, kCast_self, dfl_pair, dfl_int, w64, wu64] <;> omega) | (rw [Bool.eq_iff_iff]; simp (disch := omega) [-List.getD_eq_getElem?_getD, List.getD_cons_zero, List.getD_cons_succ, kCast_self, dfl_pair, dfl_int, w64, wu64] <;> omega) | (simp_all [-List.getD_eq_getElem?_getD] <;> omega))
theorem most_tri (own : Bool) (c : Cnf) (h : c.Ok) : Tri En 29 [cnfA 0 c] [.tab own (.int .i64) c.cl] (.int .i64 (c.s * 1024)) [.tab own (.int .i64) c.cl] := by
  have s1 := h.s1
  have s0 := h.s0
  refine Tri.of Try.func29 rfl Try.call29 rfl ?_
  refine Goods.fin 2000 [] mixed Try.func29 ?_
  show Yes _
  repeat' apply And.intro
  (all_goals first | rfl | assumption | trivial | omega | (simp [-List.getD_eq_getElem?_getD] <;> omega) | (simp (disch := omega) only [w64, wu64] <;> omega) | (simp (disch := omega) [-List.getD_eq_getElem?_getD, List.getD_cons_zero, List.getD_cons_succ, kCast_self, dfl_pair, dfl_int, w64, wu64] <;> omega) | (rw [Bool.eq_iff_iff]; simp (disch := omega) [-List.getD_eq_getElem?_getD, List.getD_cons_zero, List.getD_cons_succ, kCast_self, dfl_pair, dfl_int, w64, wu64] <;> omega) | (simp_all [-List.getD_eq_getElem?_getD] <;> omega))
theorem aend_tri (own : Bool) (c : Cnf) (h : c.Ok) : Tri En 30 [cnfA 0 c] [.tab own (.int .i64) c.cl] (.int .i64 (65536 + c.s * 1024)) [.tab own (.int .i64) c.cl] := by
  have s1 := h.s1
  have s0 := h.s0
  have h1 := most_tri own c h
  refine Tri.of Try.func30 rfl Try.call30 rfl ?_
  refine Goods.fin 2000 [.c (.of h1)] mixed Try.func30 ?_
  show Yes _
  repeat' apply And.intro
  (all_goals first | rfl | assumption | trivial | omega | (simp [-List.getD_eq_getElem?_getD] <;> omega) | (simp (disch := omega) only [w64, wu64] <;> omega) | (simp (disch := omega) [-List.getD_eq_getElem?_getD, List.getD_cons_zero, List.getD_cons_succ, kCast_self, dfl_pair, dfl_int, w64, wu64] <;> omega) | (rw [Bool.eq_iff_iff]; simp (disch := omega) [-List.getD_eq_getElem?_getD, List.getD_cons_zero, List.getD_cons_succ, kCast_self, dfl_pair, dfl_int, w64, wu64] <;> omega) | (simp_all [-List.getD_eq_getElem?_getD] <;> omega))
theorem drop_one : Tri En 24 [.ptr 0 0 0, .int .i64 1] [.cells [.slice 1 0 1], .tab true IvK [(1, 1)]] (.tuple [.agg [.int .i64 1, .int .i64 1], .bl true]) [.cells [.slice 1 0 0], .tab true IvK []] := by
  have hp : PosAt [(1, 1)] 1 0 true := by
    refine ⟨by simp, by simp, fun i hi => by omega, fun i _ hi => ?_, fun _ => ⟨by simp, rfl⟩, fun h => by cases h⟩
    have hi : i < 1 := hi
    obtain rfl : i = 0 := by omega
    exact Int.le_refl 1
  have h1 := find_tri [(1, 1)] 1 0 true hp
  have h2 := delete_one (1, 1)
  refine Tri.of Try.func24 rfl Try.call24 rfl ?_
  refine Goods.fin 2000 [.c (.of h1), .b false, .c (.of h2)] mixed Try.func24 ?_
  show Yes _
  repeat' apply And.intro
  (all_goals first | rfl | assumption | trivial | omega | (simp [-List.getD_eq_getElem?_getD] <;> omega) | (simp (disch := omega) only [w64, wu64] <;> omega) | (simp (disch := omega) [-List.getD_eq_getElem?_getD, List.getD_cons_zero, List.getD_cons_succ, kCast_self, dfl_pair, dfl_int, w64, wu64] <;> omega) | (rw [Bool.eq_iff_iff]; simp (disch := omega) [-List.getD_eq_getElem?_getD, List.getD_cons_zero, List.getD_cons_succ, kCast_self, dfl_pair, dfl_int, w64, wu64] <;> omega) | (simp_all [-List.getD_eq_getElem?_getD] <;> omega))
theorem bs_nil (t : Int) : Tri En 42 [.nilslice, .int .i64 t, fcmpA] [] (.tuple [.int .i64 0, .bool false]) [] := by
  refine Tri.of Try.func42 rfl Try.call42 rfl ?_
  refine Goods.fin 2000 [.l, .b false, .s 38 (some false) true true] mixed Try.func42 ?_
  show Yes _
  repeat' apply And.intro
  (all_goals first | rfl | assumption | trivial | omega | (simp [-List.getD_eq_getElem?_getD] <;> omega) | (simp (disch := omega) only [w64, wu64] <;> omega) | (simp (disch := omega) [-List.getD_eq_getElem?_getD, List.getD_cons_zero, List.getD_cons_succ, kCast_self, dfl_pair, dfl_int, w64, wu64] <;> omega) | (rw [Bool.eq_iff_iff]; simp (disch := omega) [-List.getD_eq_getElem?_getD, List.getD_cons_zero, List.getD_cons_succ, kCast_self, dfl_pair, dfl_int, w64, wu64] <;> omega) | (simp_all [-List.getD_eq_getElem?_getD] <;> omega))
theorem find_nil (t : Int) : Tri En 38 [.ptr 0 0 0, .int .i64 t] [.cells [.nilslice]] (.tuple [.int .i64 0, .bool false]) [.cells [.nilslice]] := by
  have h1 := bs_nil t
  refine Tri.of Try.func38 rfl Try.call38 rfl ?_
  refine Goods.fin 2000 [.c (.of h1)] mixed Try.func38 ?_
  show Yes _
  repeat' apply And.intro
  (all_goals first | rfl | assumption | trivial | omega | (simp [-List.getD_eq_getElem?_getD] <;> omega) | (simp (disch := omega) only [w64, wu64] <;> omega) | (simp (disch := omega) [-List.getD_eq_getElem?_getD, List.getD_cons_zero, List.getD_cons_succ, kCast_self, dfl_pair, dfl_int, w64, wu64] <;> omega) | (rw [Bool.eq_iff_iff]; simp (disch := omega) [-List.getD_eq_getElem?_getD, List.getD_cons_zero, List.getD_cons_succ, kCast_self, dfl_pair, dfl_int, w64, wu64] <;> omega) | (simp_all [-List.getD_eq_getElem?_getD] <;> omega))
theorem over_nil : Tri En 37 [.ptr 0 0 0, .agg [.int .i64 1, .int .i64 1]] [.cells [.nilslice]] (.bl false) [.cells [.nilslice]] := by
  have h1 := find_nil 1
  refine Tri.of Try.func37 rfl Try.call37 rfl ?_
  refine Goods.fin 2000 [.b false, .c (.of h1), .s 18 (some false) true true, .s 49 (some false) true true] mixed Try.func37 ?_
  show Yes _
  repeat' apply And.intro
  (all_goals first | rfl | assumption | trivial | omega | (simp [-List.getD_eq_getElem?_getD] <;> omega) | (simp (disch := omega) only [w64, wu64] <;> omega) | (simp (disch := omega) [-List.getD_eq_getElem?_getD, List.getD_cons_zero, List.getD_cons_succ, kCast_self, dfl_pair, dfl_int, w64, wu64] <;> omega) | (rw [Bool.eq_iff_iff]; simp (disch := omega) [-List.getD_eq_getElem?_getD, List.getD_cons_zero, List.getD_cons_succ, kCast_self, dfl_pair, dfl_int, w64, wu64] <;> omega) | (simp_all [-List.getD_eq_getElem?_getD] <;> omega))
theorem insert_nil (x : IvT) : Tri En 39 [.nilslice, .int .i64 0, .slice 0 0 1] [.tab true IvK [x]] (.slice 1 0 1) [.gone, .tab true IvK [x]] := by
  refine Tri.of Try.func39 rfl Try.call39 rfl ?_
  refine Goods.nilTmp (tp := []) IvK ?_
  refine Goods.fin 2000 [.b false, .b true, .s 25 none true true] mixed Try.func39 ?_
  show Yes _
  repeat' apply And.intro
  (all_goals first | rfl | assumption | trivial | omega | (simp [-List.getD_eq_getElem?_getD] <;> omega) | (simp (disch := omega) only [w64, wu64] <;> omega) | (simp (disch := omega) [-List.getD_eq_getElem?_getD, List.getD_cons_zero, List.getD_cons_succ, kCast_self, dfl_pair, dfl_int, w64, wu64] <;> omega) | (rw [Bool.eq_iff_iff]; simp (disch := omega) [-List.getD_eq_getElem?_getD, List.getD_cons_zero, List.getD_cons_succ, kCast_self, dfl_pair, dfl_int, w64, wu64] <;> omega) | (simp_all [-List.getD_eq_getElem?_getD] <;> omega))
theorem put_nil : Tri En 23 [.ptr 0 0 0, .agg [.int .i64 1, .int .i64 1]] [.cells [.nilslice]] (.bl true) [.cells [.slice 1 0 1], .tab true IvK [(1, 1)]] := by
  have h1 := find_nil 1
  have h2 := over_nil
  have h3 := insert_nil (1, 1)
  refine Tri.of Try.func23 rfl Try.call23 rfl ?_
  refine Goods.fin 2000 [.s 9 (some false) true true, .s 13 (some false) true true, .s 18 (some false) true true, .s 23 (some false) true true, .c (.of h2), .c (.of h1), .c (.of h3)] mixed Try.func23 ?_
  show Yes _
  repeat' apply And.intro
  (all_goals first | rfl | assumption | trivial | omega | (simp [-List.getD_eq_getElem?_getD] <;> omega) | (simp (disch := omega) only [w64, wu64] <;> omega) | (simp (disch := omega) [-List.getD_eq_getElem?_getD, List.getD_cons_zero, List.getD_cons_succ, kCast_self, dfl_pair, dfl_int, w64, wu64] <;> omega) | (rw [Bool.eq_iff_iff]; simp (disch := omega) [-List.getD_eq_getElem?_getD, List.getD_cons_zero, List.getD_cons_succ, kCast_self, dfl_pair, dfl_int, w64, wu64] <;> omega) | (simp_all [-List.getD_eq_getElem?_getD] <;> omega))
end Go.Proofs.Ytcicfbccdgkfhaa.E
