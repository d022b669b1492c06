/- HeartDoes and its sisters: the law's own functions: do. -/
import Derived.Test.YtdnhnglhdabkgaaDoorL11a
namespace Go.Proofs.YtdnhnglhdabkgaaDoor.E
set_option linter.unusedSimpArgs false
set_option linter.unusedVariables false
open Go
set_option maxRecDepth 100000

abbrev AskK : K := .pair (.int .i64) (.pair (.int .i64) (.pair (.int .u64) (.pair (.int .u64) (.int .u64))))
def askA (kd q : Int) (m ra rb : Nat) : AV := .agg [.int .i64 kd, .int .i64 q, .int .u64 m, .int .u64 ra, .int .u64 rb]
/-- What is asked of both: their answers, and the superblocks behind it; the list is the same one, or a new one. -/
abbrev TDo (own : Bool) (c : Cnf) (n : Nat) (f : SupF) (kd q : Int) (m ra rb : Nat) (j x y : Nat) (f' : SupF) (os : List AObj) : Prop := Tri En 17 [cnfA 0 c, cnfA 1 c, .slice 2 0 (2 * n), .slice 3 0 n, askA kd q m ra rb] [.tab true (.int .i64) c.cl, .tab own (.int .i64) c.cl, .tab true (.int .u64) (hW n f), rlT n f] (.tuple [opA x y, .slice j 0 n, opA x y]) ([.tab true (.int .i64) c.cl, .tab own (.int .i64) c.cl, .tab true (.int .u64) (hW n f')] ++ os)
set_option maxHeartbeats 4000000 in
theorem do_old1 (own : Bool) (c : Cnf) (n : Nat) (hn : n ≤ 64) (f : SupF) (q m ra rb x y : Nat) (hq : q < 4294967296) (hr : Tri En 33 [cnfA 0 c, .slice 1 0 n, .int .i64 q] [.tab own (.int .i64) c.cl, rlT n f] (.tuple [.slice 1 0 n, opA x y]) [.tab own (.int .i64) c.cl, rlT n f]) (ha : TAp true c n f (askN 1 q) 0 (opA x y) f) : TDo own c n f 1 q m ra rb 3 x y f [rlT n f] := by
  have hk := ask_refill q hq
  have hl := hW_len n f
  have hl2 := rL_len n f
  generalize askN 1 q = z at *
  refine Tri.of Tryd.func17 rfl Tryd.call17 rfl ?_
  refine Goods.fin 2000 [.s 24 (some true) true true, .s 28 (some true) true true, .b true, .k 40 (.of hr), .k 47 (.of hk), .k 48 (.of ha)] mixed Tryd.func17 ?_
  show Yes _
  repeat' apply And.intro
  all_goals try first | exact decide_eq_true (by omega) | exact decide_eq_false (by omega)
  (all_goals first | rfl | assumption | trivial | omega | (simp [-List.getD_eq_getElem?_getD] <;> omega) | (simp (disch := omega) only [w64, wu64] <;> omega) | (simp (disch := omega) [-List.getD_eq_getElem?_getD, List.getD_cons_zero, List.getD_cons_succ, kCast_self, dfl_pair, dfl_int, w64, wu64] <;> omega) | (rw [Bool.eq_iff_iff]; simp (disch := omega) [-List.getD_eq_getElem?_getD, List.getD_cons_zero, List.getD_cons_succ, kCast_self, dfl_pair, dfl_int, w64, wu64] <;> omega) | (simp_all [-List.getD_eq_getElem?_getD] <;> omega))
set_option maxHeartbeats 4000000 in
theorem do_new1 (own : Bool) (c : Cnf) (n : Nat) (hn : n ≤ 64) (f f' : SupF) (q m ra rb x y : Nat) (hq : q < 4294967296) (hr : Tri En 33 [cnfA 0 c, .slice 1 0 n, .int .i64 q] [.tab own (.int .i64) c.cl, rlT n f] (.tuple [.slice 2 0 n, opA x y]) [.tab own (.int .i64) c.cl, .gone, rlT n f']) (ha : TAp true c n f (askN 1 q) 0 (opA x y) f') : TDo own c n f 1 q m ra rb 4 x y f' [.gone, rlT n f'] := by
  have hk := ask_refill q hq
  have hl := hW_len n f
  have hl2 := rL_len n f
  generalize askN 1 q = z at *
  refine Tri.of Tryd.func17 rfl Tryd.call17 rfl ?_
  refine Goods.fin 2000 [.s 24 (some true) true true, .s 28 (some true) true true, .b true, .k 40 (.of hr), .k 47 (.of hk), .k 48 (.of ha)] mixed Tryd.func17 ?_
  show Yes _
  repeat' apply And.intro
  all_goals try first | exact decide_eq_true (by omega) | exact decide_eq_false (by omega)
  (all_goals first | rfl | assumption | trivial | omega | (simp [-List.getD_eq_getElem?_getD] <;> omega) | (simp (disch := omega) only [w64, wu64] <;> omega) | (simp (disch := omega) [-List.getD_eq_getElem?_getD, List.getD_cons_zero, List.getD_cons_succ, kCast_self, dfl_pair, dfl_int, w64, wu64] <;> omega) | (rw [Bool.eq_iff_iff]; simp (disch := omega) [-List.getD_eq_getElem?_getD, List.getD_cons_zero, List.getD_cons_succ, kCast_self, dfl_pair, dfl_int, w64, wu64] <;> omega) | (simp_all [-List.getD_eq_getElem?_getD] <;> omega))
set_option maxHeartbeats 4000000 in
theorem do_old2 (own : Bool) (c : Cnf) (n : Nat) (hn : n ≤ 64) (f : SupF) (q m ra rb x y : Nat) (hq : q < 4294967296) (hr : Tri En 34 [cnfA 0 c, .slice 1 0 n, .int .i64 q, .int .u64 m] [.tab own (.int .i64) c.cl, rlT n f] (.tuple [.slice 1 0 n, opA x y]) [.tab own (.int .i64) c.cl, rlT n f]) (ha : TAp true c n f (askN 2 q) m (opA x y) f) : TDo own c n f 2 q m ra rb 3 x y f [rlT n f] := by
  have hk := ask_flush q m hq
  have hl := hW_len n f
  have hl2 := rL_len n f
  generalize askN 2 q = z at *
  refine Tri.of Tryd.func17 rfl Tryd.call17 rfl ?_
  refine Goods.fin 2000 [.s 24 (some true) true true, .s 28 (some true) true true, .b false, .s 62 (some true) true true, .k 73 (.of hr), .k 82 (.of hk), .k 83 (.of ha)] mixed Tryd.func17 ?_
  show Yes _
  repeat' apply And.intro
  all_goals try first | exact decide_eq_true (by omega) | exact decide_eq_false (by omega)
  (all_goals first | rfl | assumption | trivial | omega | (simp [-List.getD_eq_getElem?_getD] <;> omega) | (simp (disch := omega) only [w64, wu64] <;> omega) | (simp (disch := omega) [-List.getD_eq_getElem?_getD, List.getD_cons_zero, List.getD_cons_succ, kCast_self, dfl_pair, dfl_int, w64, wu64] <;> omega) | (rw [Bool.eq_iff_iff]; simp (disch := omega) [-List.getD_eq_getElem?_getD, List.getD_cons_zero, List.getD_cons_succ, kCast_self, dfl_pair, dfl_int, w64, wu64] <;> omega) | (simp_all [-List.getD_eq_getElem?_getD] <;> omega))
set_option maxHeartbeats 4000000 in
theorem do_new2 (own : Bool) (c : Cnf) (n : Nat) (hn : n ≤ 64) (f f' : SupF) (q m ra rb x y : Nat) (hq : q < 4294967296) (hr : Tri En 34 [cnfA 0 c, .slice 1 0 n, .int .i64 q, .int .u64 m] [.tab own (.int .i64) c.cl, rlT n f] (.tuple [.slice 2 0 n, opA x y]) [.tab own (.int .i64) c.cl, .gone, rlT n f']) (ha : TAp true c n f (askN 2 q) m (opA x y) f') : TDo own c n f 2 q m ra rb 4 x y f' [.gone, rlT n f'] := by
  have hk := ask_flush q m hq
  have hl := hW_len n f
  have hl2 := rL_len n f
  generalize askN 2 q = z at *
  refine Tri.of Tryd.func17 rfl Tryd.call17 rfl ?_
  refine Goods.fin 2000 [.s 24 (some true) true true, .s 28 (some true) true true, .b false, .s 62 (some true) true true, .k 73 (.of hr), .k 82 (.of hk), .k 83 (.of ha)] mixed Tryd.func17 ?_
  show Yes _
  repeat' apply And.intro
  all_goals try first | exact decide_eq_true (by omega) | exact decide_eq_false (by omega)
  (all_goals first | rfl | assumption | trivial | omega | (simp [-List.getD_eq_getElem?_getD] <;> omega) | (simp (disch := omega) only [w64, wu64] <;> omega) | (simp (disch := omega) [-List.getD_eq_getElem?_getD, List.getD_cons_zero, List.getD_cons_succ, kCast_self, dfl_pair, dfl_int, w64, wu64] <;> omega) | (rw [Bool.eq_iff_iff]; simp (disch := omega) [-List.getD_eq_getElem?_getD, List.getD_cons_zero, List.getD_cons_succ, kCast_self, dfl_pair, dfl_int, w64, wu64] <;> omega) | (simp_all [-List.getD_eq_getElem?_getD] <;> omega))
set_option maxHeartbeats 4000000 in
theorem do_old3 (own : Bool) (c : Cnf) (n : Nat) (hn : n ≤ 64) (f : SupF) (q m ra rb x y : Nat) (hq : q < 4294967296) (hr : Tri En 35 [.slice 0 0 n, .int .i64 q] [rlT n f] (.tuple [.slice 0 0 n, opA x y]) [rlT n f]) (ha : TAp true c n f (askN 3 q) 0 (opA x y) f) : TDo own c n f 3 q m ra rb 3 x y f [rlT n f] := by
  have hk := ask_take q hq
  have hl := hW_len n f
  have hl2 := rL_len n f
  generalize askN 3 q = z at *
  refine Tri.of Tryd.func17 rfl Tryd.call17 rfl ?_
  refine Goods.fin 2000 [.s 24 (some true) true true, .s 28 (some true) true true, .b false, .s 62 (some false) true true, .s 89 (some true) true true, .k 97 (.of hr), .k 104 (.of hk), .k 105 (.of ha)] mixed Tryd.func17 ?_
  show Yes _
  repeat' apply And.intro
  all_goals try first | exact decide_eq_true (by omega) | exact decide_eq_false (by omega)
  (all_goals first | rfl | assumption | trivial | omega | (simp [-List.getD_eq_getElem?_getD] <;> omega) | (simp (disch := omega) only [w64, wu64] <;> omega) | (simp (disch := omega) [-List.getD_eq_getElem?_getD, List.getD_cons_zero, List.getD_cons_succ, kCast_self, dfl_pair, dfl_int, w64, wu64] <;> omega) | (rw [Bool.eq_iff_iff]; simp (disch := omega) [-List.getD_eq_getElem?_getD, List.getD_cons_zero, List.getD_cons_succ, kCast_self, dfl_pair, dfl_int, w64, wu64] <;> omega) | (simp_all [-List.getD_eq_getElem?_getD] <;> omega))
set_option maxHeartbeats 4000000 in
theorem do_new3 (own : Bool) (c : Cnf) (n : Nat) (hn : n ≤ 64) (f f' : SupF) (q m ra rb x y : Nat) (hq : q < 4294967296) (hr : Tri En 35 [.slice 0 0 n, .int .i64 q] [rlT n f] (.tuple [.slice 1 0 n, opA x y]) [.gone, rlT n f']) (ha : TAp true c n f (askN 3 q) 0 (opA x y) f') : TDo own c n f 3 q m ra rb 4 x y f' [.gone, rlT n f'] := by
  have hk := ask_take q hq
  have hl := hW_len n f
  have hl2 := rL_len n f
  generalize askN 3 q = z at *
  refine Tri.of Tryd.func17 rfl Tryd.call17 rfl ?_
  refine Goods.fin 2000 [.s 24 (some true) true true, .s 28 (some true) true true, .b false, .s 62 (some false) true true, .s 89 (some true) true true, .k 97 (.of hr), .k 104 (.of hk), .k 105 (.of ha)] mixed Tryd.func17 ?_
  show Yes _
  repeat' apply And.intro
  all_goals try first | exact decide_eq_true (by omega) | exact decide_eq_false (by omega)
  (all_goals first | rfl | assumption | trivial | omega | (simp [-List.getD_eq_getElem?_getD] <;> omega) | (simp (disch := omega) only [w64, wu64] <;> omega) | (simp (disch := omega) [-List.getD_eq_getElem?_getD, List.getD_cons_zero, List.getD_cons_succ, kCast_self, dfl_pair, dfl_int, w64, wu64] <;> omega) | (rw [Bool.eq_iff_iff]; simp (disch := omega) [-List.getD_eq_getElem?_getD, List.getD_cons_zero, List.getD_cons_succ, kCast_self, dfl_pair, dfl_int, w64, wu64] <;> omega) | (simp_all [-List.getD_eq_getElem?_getD] <;> omega))
set_option maxHeartbeats 4000000 in
theorem do_old4 (own : Bool) (c : Cnf) (n : Nat) (hn : n ≤ 64) (f : SupF) (q m ra rb x y : Nat) (hq : q < 4294967296) (hr : Tri En 36 [.slice 0 0 n, .int .i64 q] [rlT n f] (.tuple [.slice 0 0 n, opA x y]) [rlT n f]) (ha : TAp true c n f (askN 4 q) 0 (opA x y) f) : TDo own c n f 4 q m ra rb 3 x y f [rlT n f] := by
  have hk := ask_give q hq
  have hl := hW_len n f
  have hl2 := rL_len n f
  generalize askN 4 q = z at *
  refine Tri.of Tryd.func17 rfl Tryd.call17 rfl ?_
  refine Goods.fin 2000 [.s 24 (some true) true true, .s 28 (some true) true true, .b false, .s 62 (some false) true true, .s 89 (some false) true true, .s 111 (some true) true true, .k 119 (.of hr), .k 126 (.of hk), .k 127 (.of ha)] mixed Tryd.func17 ?_
  show Yes _
  repeat' apply And.intro
  all_goals try first | exact decide_eq_true (by omega) | exact decide_eq_false (by omega)
  (all_goals first | rfl | assumption | trivial | omega | (simp [-List.getD_eq_getElem?_getD] <;> omega) | (simp (disch := omega) only [w64, wu64] <;> omega) | (simp (disch := omega) [-List.getD_eq_getElem?_getD, List.getD_cons_zero, List.getD_cons_succ, kCast_self, dfl_pair, dfl_int, w64, wu64] <;> omega) | (rw [Bool.eq_iff_iff]; simp (disch := omega) [-List.getD_eq_getElem?_getD, List.getD_cons_zero, List.getD_cons_succ, kCast_self, dfl_pair, dfl_int, w64, wu64] <;> omega) | (simp_all [-List.getD_eq_getElem?_getD] <;> omega))
set_option maxHeartbeats 4000000 in
theorem do_new4 (own : Bool) (c : Cnf) (n : Nat) (hn : n ≤ 64) (f f' : SupF) (q m ra rb x y : Nat) (hq : q < 4294967296) (hr : Tri En 36 [.slice 0 0 n, .int .i64 q] [rlT n f] (.tuple [.slice 1 0 n, opA x y]) [.gone, rlT n f']) (ha : TAp true c n f (askN 4 q) 0 (opA x y) f') : TDo own c n f 4 q m ra rb 4 x y f' [.gone, rlT n f'] := by
  have hk := ask_give q hq
  have hl := hW_len n f
  have hl2 := rL_len n f
  generalize askN 4 q = z at *
  refine Tri.of Tryd.func17 rfl Tryd.call17 rfl ?_
  refine Goods.fin 2000 [.s 24 (some true) true true, .s 28 (some true) true true, .b false, .s 62 (some false) true true, .s 89 (some false) true true, .s 111 (some true) true true, .k 119 (.of hr), .k 126 (.of hk), .k 127 (.of ha)] mixed Tryd.func17 ?_
  show Yes _
  repeat' apply And.intro
  all_goals try first | exact decide_eq_true (by omega) | exact decide_eq_false (by omega)
  (all_goals first | rfl | assumption | trivial | omega | (simp [-List.getD_eq_getElem?_getD] <;> omega) | (simp (disch := omega) only [w64, wu64] <;> omega) | (simp (disch := omega) [-List.getD_eq_getElem?_getD, List.getD_cons_zero, List.getD_cons_succ, kCast_self, dfl_pair, dfl_int, w64, wu64] <;> omega) | (rw [Bool.eq_iff_iff]; simp (disch := omega) [-List.getD_eq_getElem?_getD, List.getD_cons_zero, List.getD_cons_succ, kCast_self, dfl_pair, dfl_int, w64, wu64] <;> omega) | (simp_all [-List.getD_eq_getElem?_getD] <;> omega))
end Go.Proofs.YtdnhnglhdabkgaaDoor.E
