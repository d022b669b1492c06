/- HeartDoes and its sisters: the law's own functions: do, where nothing is asked that may be. -/
import Derived.Test.YtdnhnglhdabkgaaDoorL11c
namespace Go.Proofs.YtdnhnglhdabkgaaDoor.E
set_option linter.unusedSimpArgs false
set_option linter.unusedVariables false
open Go
set_option maxRecDepth 100000

set_option maxHeartbeats 4000000 in
theorem do_out1a (own : Bool) (c : Cnf) (n : Nat) (hn : n ≤ 64) (f : SupF) (q : Int) (m ra rb : Nat) (h0 : ¬ 0 ≤ q) (hq1 : -9223372036854775808 ≤ q) (hq2 : q ≤ 9223372036854775807) : TDo own c n f 1 q m ra rb 3 0 0 f [rlT n f] := by
  have hk := ask_refill_no q (by omega) hq1 hq2
  have ha := apply_odd true c n f 0 0 (by omega) (by unfold oddA; omega)
  have hl := hW_len n f
  have hl2 := rL_len n f
  refine Tri.of Tryd.func17 rfl Tryd.call17 rfl ?_
  refine Goods.fin 2000 [.s 24 (some false) true true, .b true, .k 55 (.of hk), .k 56 (.of ha)] mixed Tryd.func17 ?_
  show Yes _
  repeat' apply And.intro
  all_goals try first | exact decide_eq_true (by omega) | exact decide_eq_false (by omega)
  (all_goals first | rfl | assumption | trivial | omega | (simp [-List.getD_eq_getElem?_getD] <;> omega) | (simp (disch := omega) only [w64, wu64] <;> omega) | (simp (disch := omega) [-List.getD_eq_getElem?_getD, List.getD_cons_zero, List.getD_cons_succ, kCast_self, dfl_pair, dfl_int, w64, wu64] <;> omega) | (rw [Bool.eq_iff_iff]; simp (disch := omega) [-List.getD_eq_getElem?_getD, List.getD_cons_zero, List.getD_cons_succ, kCast_self, dfl_pair, dfl_int, w64, wu64] <;> omega) | (simp_all [-List.getD_eq_getElem?_getD] <;> omega))
set_option maxHeartbeats 4000000 in
theorem do_out2a (own : Bool) (c : Cnf) (n : Nat) (hn : n ≤ 64) (f : SupF) (q : Int) (m ra rb : Nat) (h0 : ¬ 0 ≤ q) : TDo own c n f 2 q m ra rb 3 0 0 f [rlT n f] := by
  refine Tri.of Tryd.func17 rfl Tryd.call17 rfl ?_
  refine Goods.fin 2000 [.s 24 (some false) true true, .b false, .s 62 (some true) true true, .s 89 (some false) true true, .s 111 (some false) true true] mixed Tryd.func17 ?_
  show Yes _
  repeat' apply And.intro
  all_goals try first | exact decide_eq_true (by omega) | exact decide_eq_false (by omega)
  (all_goals first | rfl | assumption | trivial | omega | (simp [-List.getD_eq_getElem?_getD] <;> omega) | (simp (disch := omega) only [w64, wu64] <;> omega) | (simp (disch := omega) [-List.getD_eq_getElem?_getD, List.getD_cons_zero, List.getD_cons_succ, kCast_self, dfl_pair, dfl_int, w64, wu64] <;> omega) | (rw [Bool.eq_iff_iff]; simp (disch := omega) [-List.getD_eq_getElem?_getD, List.getD_cons_zero, List.getD_cons_succ, kCast_self, dfl_pair, dfl_int, w64, wu64] <;> omega) | (simp_all [-List.getD_eq_getElem?_getD] <;> omega))
set_option maxHeartbeats 4000000 in
theorem do_out3a (own : Bool) (c : Cnf) (n : Nat) (hn : n ≤ 64) (f : SupF) (q : Int) (m ra rb : Nat) (h0 : ¬ 0 ≤ q) : TDo own c n f 3 q m ra rb 3 0 0 f [rlT n f] := by
  refine Tri.of Tryd.func17 rfl Tryd.call17 rfl ?_
  refine Goods.fin 2000 [.s 24 (some false) true true, .b false, .s 62 (some false) true true, .s 89 (some true) true true, .s 111 (some false) true true] mixed Tryd.func17 ?_
  show Yes _
  repeat' apply And.intro
  all_goals try first | exact decide_eq_true (by omega) | exact decide_eq_false (by omega)
  (all_goals first | rfl | assumption | trivial | omega | (simp [-List.getD_eq_getElem?_getD] <;> omega) | (simp (disch := omega) only [w64, wu64] <;> omega) | (simp (disch := omega) [-List.getD_eq_getElem?_getD, List.getD_cons_zero, List.getD_cons_succ, kCast_self, dfl_pair, dfl_int, w64, wu64] <;> omega) | (rw [Bool.eq_iff_iff]; simp (disch := omega) [-List.getD_eq_getElem?_getD, List.getD_cons_zero, List.getD_cons_succ, kCast_self, dfl_pair, dfl_int, w64, wu64] <;> omega) | (simp_all [-List.getD_eq_getElem?_getD] <;> omega))
set_option maxHeartbeats 4000000 in
theorem do_out4a (own : Bool) (c : Cnf) (n : Nat) (hn : n ≤ 64) (f : SupF) (q : Int) (m ra rb : Nat) (h0 : ¬ 0 ≤ q) : TDo own c n f 4 q m ra rb 3 0 0 f [rlT n f] := by
  refine Tri.of Tryd.func17 rfl Tryd.call17 rfl ?_
  refine Goods.fin 2000 [.s 24 (some false) true true, .b false, .s 62 (some false) true true, .s 89 (some false) true true, .s 111 (some true) true true] mixed Tryd.func17 ?_
  show Yes _
  repeat' apply And.intro
  all_goals try first | exact decide_eq_true (by omega) | exact decide_eq_false (by omega)
  (all_goals first | rfl | assumption | trivial | omega | (simp [-List.getD_eq_getElem?_getD] <;> omega) | (simp (disch := omega) only [w64, wu64] <;> omega) | (simp (disch := omega) [-List.getD_eq_getElem?_getD, List.getD_cons_zero, List.getD_cons_succ, kCast_self, dfl_pair, dfl_int, w64, wu64] <;> omega) | (rw [Bool.eq_iff_iff]; simp (disch := omega) [-List.getD_eq_getElem?_getD, List.getD_cons_zero, List.getD_cons_succ, kCast_self, dfl_pair, dfl_int, w64, wu64] <;> omega) | (simp_all [-List.getD_eq_getElem?_getD] <;> omega))
set_option maxHeartbeats 4000000 in
theorem do_out1b (own : Bool) (c : Cnf) (n : Nat) (hn : n ≤ 64) (f : SupF) (q : Int) (m ra rb : Nat) (h0 : 0 ≤ q) (h1 : ¬ q < 4294967296) (hq1 : -9223372036854775808 ≤ q) (hq2 : q ≤ 9223372036854775807) : TDo own c n f 1 q m ra rb 3 0 0 f [rlT n f] := by
  have hk := ask_refill_no q (by omega) hq1 hq2
  have ha := apply_odd true c n f 0 0 (by omega) (by unfold oddA; omega)
  have hl := hW_len n f
  have hl2 := rL_len n f
  refine Tri.of Tryd.func17 rfl Tryd.call17 rfl ?_
  refine Goods.fin 2000 [.s 24 (some true) true true, .s 28 (some false) true true, .b true, .k 55 (.of hk), .k 56 (.of ha)] mixed Tryd.func17 ?_
  show Yes _
  repeat' apply And.intro
  all_goals try first | exact decide_eq_true (by omega) | exact decide_eq_false (by omega)
  (all_goals first | rfl | assumption | trivial | omega | (simp [-List.getD_eq_getElem?_getD] <;> omega) | (simp (disch := omega) only [w64, wu64] <;> omega) | (simp (disch := omega) [-List.getD_eq_getElem?_getD, List.getD_cons_zero, List.getD_cons_succ, kCast_self, dfl_pair, dfl_int, w64, wu64] <;> omega) | (rw [Bool.eq_iff_iff]; simp (disch := omega) [-List.getD_eq_getElem?_getD, List.getD_cons_zero, List.getD_cons_succ, kCast_self, dfl_pair, dfl_int, w64, wu64] <;> omega) | (simp_all [-List.getD_eq_getElem?_getD] <;> omega))
set_option maxHeartbeats 4000000 in
theorem do_out2b (own : Bool) (c : Cnf) (n : Nat) (hn : n ≤ 64) (f : SupF) (q : Int) (m ra rb : Nat) (h0 : 0 ≤ q) (h1 : ¬ q < 4294967296) : TDo own c n f 2 q m ra rb 3 0 0 f [rlT n f] := by
  refine Tri.of Tryd.func17 rfl Tryd.call17 rfl ?_
  refine Goods.fin 2000 [.s 24 (some true) true true, .s 28 (some false) true true, .b false, .s 62 (some true) true true, .s 89 (some false) true true, .s 111 (some false) true true] mixed Tryd.func17 ?_
  show Yes _
  repeat' apply And.intro
  all_goals try first | exact decide_eq_true (by omega) | exact decide_eq_false (by omega)
  (all_goals first | rfl | assumption | trivial | omega | (simp [-List.getD_eq_getElem?_getD] <;> omega) | (simp (disch := omega) only [w64, wu64] <;> omega) | (simp (disch := omega) [-List.getD_eq_getElem?_getD, List.getD_cons_zero, List.getD_cons_succ, kCast_self, dfl_pair, dfl_int, w64, wu64] <;> omega) | (rw [Bool.eq_iff_iff]; simp (disch := omega) [-List.getD_eq_getElem?_getD, List.getD_cons_zero, List.getD_cons_succ, kCast_self, dfl_pair, dfl_int, w64, wu64] <;> omega) | (simp_all [-List.getD_eq_getElem?_getD] <;> omega))
set_option maxHeartbeats 4000000 in
theorem do_out3b (own : Bool) (c : Cnf) (n : Nat) (hn : n ≤ 64) (f : SupF) (q : Int) (m ra rb : Nat) (h0 : 0 ≤ q) (h1 : ¬ q < 4294967296) : TDo own c n f 3 q m ra rb 3 0 0 f [rlT n f] := by
  refine Tri.of Tryd.func17 rfl Tryd.call17 rfl ?_
  refine Goods.fin 2000 [.s 24 (some true) true true, .s 28 (some false) true true, .b false, .s 62 (some false) true true, .s 89 (some true) true true, .s 111 (some false) true true] mixed Tryd.func17 ?_
  show Yes _
  repeat' apply And.intro
  all_goals try first | exact decide_eq_true (by omega) | exact decide_eq_false (by omega)
  (all_goals first | rfl | assumption | trivial | omega | (simp [-List.getD_eq_getElem?_getD] <;> omega) | (simp (disch := omega) only [w64, wu64] <;> omega) | (simp (disch := omega) [-List.getD_eq_getElem?_getD, List.getD_cons_zero, List.getD_cons_succ, kCast_self, dfl_pair, dfl_int, w64, wu64] <;> omega) | (rw [Bool.eq_iff_iff]; simp (disch := omega) [-List.getD_eq_getElem?_getD, List.getD_cons_zero, List.getD_cons_succ, kCast_self, dfl_pair, dfl_int, w64, wu64] <;> omega) | (simp_all [-List.getD_eq_getElem?_getD] <;> omega))
set_option maxHeartbeats 4000000 in
theorem do_out4b (own : Bool) (c : Cnf) (n : Nat) (hn : n ≤ 64) (f : SupF) (q : Int) (m ra rb : Nat) (h0 : 0 ≤ q) (h1 : ¬ q < 4294967296) : TDo own c n f 4 q m ra rb 3 0 0 f [rlT n f] := by
  refine Tri.of Tryd.func17 rfl Tryd.call17 rfl ?_
  refine Goods.fin 2000 [.s 24 (some true) true true, .s 28 (some false) true true, .b false, .s 62 (some false) true true, .s 89 (some false) true true, .s 111 (some true) true true] mixed Tryd.func17 ?_
  show Yes _
  repeat' apply And.intro
  all_goals try first | exact decide_eq_true (by omega) | exact decide_eq_false (by omega)
  (all_goals first | rfl | assumption | trivial | omega | (simp [-List.getD_eq_getElem?_getD] <;> omega) | (simp (disch := omega) only [w64, wu64] <;> omega) | (simp (disch := omega) [-List.getD_eq_getElem?_getD, List.getD_cons_zero, List.getD_cons_succ, kCast_self, dfl_pair, dfl_int, w64, wu64] <;> omega) | (rw [Bool.eq_iff_iff]; simp (disch := omega) [-List.getD_eq_getElem?_getD, List.getD_cons_zero, List.getD_cons_succ, kCast_self, dfl_pair, dfl_int, w64, wu64] <;> omega) | (simp_all [-List.getD_eq_getElem?_getD] <;> omega))
set_option maxHeartbeats 4000000 in
theorem do_odda (own : Bool) (c : Cnf) (n : Nat) (hn : n ≤ 64) (f : SupF) (kd q : Int) (m ra rb : Nat) (k1 : kd ≠ 1) (k2 : kd ≠ 2) (k3 : kd ≠ 3) (k4 : kd ≠ 4) (h0 : ¬ 0 ≤ q) : TDo own c n f kd q m ra rb 3 0 0 f [rlT n f] := by
  refine Tri.of Tryd.func17 rfl Tryd.call17 rfl ?_
  refine Goods.fin 2000 [.s 24 (some false) true true, .b false, .s 62 (some false) true true, .s 89 (some false) true true, .s 111 (some false) true true] mixed Tryd.func17 ?_
  show Yes _
  repeat' apply And.intro
  all_goals try first | exact decide_eq_true (by omega) | exact decide_eq_false (by omega)
  (all_goals first | rfl | assumption | trivial | omega | (simp [-List.getD_eq_getElem?_getD, k1, k2, k3, k4] <;> omega) | (simp (disch := omega) only [w64, wu64] <;> omega) | (simp (disch := omega) [-List.getD_eq_getElem?_getD, List.getD_cons_zero, List.getD_cons_succ, kCast_self, dfl_pair, dfl_int, w64, wu64, k1, k2, k3, k4] <;> omega) | (rw [Bool.eq_iff_iff]; simp (disch := omega) [-List.getD_eq_getElem?_getD, List.getD_cons_zero, List.getD_cons_succ, kCast_self, dfl_pair, dfl_int, w64, wu64, k1, k2, k3, k4] <;> omega) | (simp_all [-List.getD_eq_getElem?_getD] <;> omega))
set_option maxHeartbeats 4000000 in
theorem do_oddb (own : Bool) (c : Cnf) (n : Nat) (hn : n ≤ 64) (f : SupF) (kd q : Int) (m ra rb : Nat) (k1 : kd ≠ 1) (k2 : kd ≠ 2) (k3 : kd ≠ 3) (k4 : kd ≠ 4) (h0 : 0 ≤ q) (h1 : ¬ q < 4294967296) : TDo own c n f kd q m ra rb 3 0 0 f [rlT n f] := by
  refine Tri.of Tryd.func17 rfl Tryd.call17 rfl ?_
  refine Goods.fin 2000 [.s 24 (some true) true true, .s 28 (some false) true true, .b false, .s 62 (some false) true true, .s 89 (some false) true true, .s 111 (some false) true true] mixed Tryd.func17 ?_
  show Yes _
  repeat' apply And.intro
  all_goals try first | exact decide_eq_true (by omega) | exact decide_eq_false (by omega)
  (all_goals first | rfl | assumption | trivial | omega | (simp [-List.getD_eq_getElem?_getD, k1, k2, k3, k4] <;> omega) | (simp (disch := omega) only [w64, wu64] <;> omega) | (simp (disch := omega) [-List.getD_eq_getElem?_getD, List.getD_cons_zero, List.getD_cons_succ, kCast_self, dfl_pair, dfl_int, w64, wu64, k1, k2, k3, k4] <;> omega) | (rw [Bool.eq_iff_iff]; simp (disch := omega) [-List.getD_eq_getElem?_getD, List.getD_cons_zero, List.getD_cons_succ, kCast_self, dfl_pair, dfl_int, w64, wu64, k1, k2, k3, k4] <;> omega) | (simp_all [-List.getD_eq_getElem?_getD] <;> omega))
set_option maxHeartbeats 4000000 in
theorem do_oddc (own : Bool) (c : Cnf) (n : Nat) (hn : n ≤ 64) (f : SupF) (kd q : Int) (m ra rb : Nat) (k1 : kd ≠ 1) (k2 : kd ≠ 2) (k3 : kd ≠ 3) (k4 : kd ≠ 4) (h0 : 0 ≤ q) (h1 : q < 4294967296) : TDo own c n f kd q m ra rb 3 0 0 f [rlT n f] := by
  refine Tri.of Tryd.func17 rfl Tryd.call17 rfl ?_
  refine Goods.fin 2000 [.s 24 (some true) true true, .s 28 (some true) true true, .b false, .s 62 (some false) true true, .s 89 (some false) true true, .s 111 (some false) true true] mixed Tryd.func17 ?_
  show Yes _
  repeat' apply And.intro
  all_goals try first | exact decide_eq_true (by omega) | exact decide_eq_false (by omega)
  (all_goals first | rfl | assumption | trivial | omega | (simp [-List.getD_eq_getElem?_getD, k1, k2, k3, k4] <;> omega) | (simp (disch := omega) only [w64, wu64] <;> omega) | (simp (disch := omega) [-List.getD_eq_getElem?_getD, List.getD_cons_zero, List.getD_cons_succ, kCast_self, dfl_pair, dfl_int, w64, wu64, k1, k2, k3, k4] <;> omega) | (rw [Bool.eq_iff_iff]; simp (disch := omega) [-List.getD_eq_getElem?_getD, List.getD_cons_zero, List.getD_cons_succ, kCast_self, dfl_pair, dfl_int, w64, wu64, k1, k2, k3, k4] <;> omega) | (simp_all [-List.getD_eq_getElem?_getD] <;> omega))
end Go.Proofs.YtdnhnglhdabkgaaDoor.E
