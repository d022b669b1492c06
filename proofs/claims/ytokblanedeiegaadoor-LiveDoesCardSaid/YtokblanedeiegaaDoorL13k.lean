/- LiveDoes: the law's contract: what is none; the last look. -/
import Derived.Test.YtokblanedeiegaaDoorL13j
namespace Go.Proofs.YtokblanedeiegaaDoor.E
open Go
set_option maxRecDepth 100000

set_option maxHeartbeats 2000000 in
theorem do0s_a (c : Cnf) (h : c.Ok) (l : List ActT) (hl : l.length ≤ 200) (m : MemS) (k : Nat) (hk : k < l.length) (at_ p q : Int) (hy : l.getD k (dfl ActK) = (0, at_, p, q)) (g1 : ¬ 65536 ≤ at_) (ck : Nat) (es : ThMap) (sz : Tri En 11 [cnfA 0 c, thA (p, q)] [.tab false (.int .i64) c.cl] (.int .i64 0) [.tab false (.int .i64) c.cl])
    (ih : Goods (gDo c l) (doSt c l (k + 1) m ck es)) : Goods (gDo c l) (doSt c l k m ck es) := by
  have s0 := h.s0
  have s1 := h.s1
  have o1 := mem_ops m
  have e4 : IntKind.i64.wrap (65536 + IntKind.i64.wrap (1024 * c.s)) = 65536 + 1024 * c.s := by rw [w64 (x := 1024 * c.s) (by omega) (by omega), w64 (by omega) (by omega)]
  refine Goods.to 2000 [.b true, .s 47 (some false) true true, .k 64 (.of o1), .b true, .k 80 (.of sz), .b true, .l, .stop] mixed (ih) (by kernel_rfl) ?_
  show Yes _
  repeat' apply And.intro
  (all_goals first | rfl | assumption | trivial | omega | (simp [-List.getD_eq_getElem?_getD, hy, e4] <;> omega) | (simp (disch := omega) only [w64, wu64] <;> omega) | (simp (disch := omega) [-List.getD_eq_getElem?_getD, List.getD_cons_zero, List.getD_cons_succ, kCast_self, dfl_pair, dfl_int, w64, wu64, hy, e4] <;> omega) | (rw [Bool.eq_iff_iff]; simp (disch := omega) [-List.getD_eq_getElem?_getD, List.getD_cons_zero, List.getD_cons_succ, kCast_self, dfl_pair, dfl_int, w64, wu64, hy, e4] <;> omega) | (simp_all [-List.getD_eq_getElem?_getD] <;> omega))
set_option maxHeartbeats 2000000 in
theorem do3_a (c : Cnf) (h : c.Ok) (l : List ActT) (hl : l.length ≤ 200) (m : MemS) (k : Nat) (hk : k < l.length) (kd at_ p q : Int) (hy : l.getD k (dfl ActK) = (kd, at_, p, q)) (k0 : kd ≠ 0) (k1 : kd ≠ 1) (k2 : kd ≠ 2) (g1 : ¬ 65536 ≤ at_) (ck : Nat) (es : ThMap)
    (ih : Goods (gDo c l) (doSt c l (k + 1) m ck es)) : Goods (gDo c l) (doSt c l k m ck es) := by
  have s0 := h.s0
  have s1 := h.s1
  have o1 := mem_ops m
  have e4 : IntKind.i64.wrap (65536 + IntKind.i64.wrap (1024 * c.s)) = 65536 + 1024 * c.s := by rw [w64 (x := 1024 * c.s) (by omega) (by omega), w64 (by omega) (by omega)]
  refine Goods.to 2000 [.b true, .s 47 (some false) true true, .k 64 (.of o1), .b false, .b false, .b false, .l, .stop] mixed (ih) (by kernel_rfl) ?_
  show Yes _
  repeat' apply And.intro
  (all_goals first | rfl | assumption | trivial | omega | (simp [-List.getD_eq_getElem?_getD, hy, e4, k0, k1, k2] <;> omega) | (simp (disch := omega) only [w64, wu64] <;> omega) | (simp (disch := omega) [-List.getD_eq_getElem?_getD, List.getD_cons_zero, List.getD_cons_succ, kCast_self, dfl_pair, dfl_int, w64, wu64, hy, e4, k0, k1, k2] <;> omega) | (rw [Bool.eq_iff_iff]; simp (disch := omega) [-List.getD_eq_getElem?_getD, List.getD_cons_zero, List.getD_cons_succ, kCast_self, dfl_pair, dfl_int, w64, wu64, hy, e4, k0, k1, k2] <;> omega) | (simp_all [-List.getD_eq_getElem?_getD] <;> omega))
set_option maxHeartbeats 2000000 in
theorem do0s_b (c : Cnf) (h : c.Ok) (l : List ActT) (hl : l.length ≤ 200) (m : MemS) (k : Nat) (hk : k < l.length) (at_ p q : Int) (hy : l.getD k (dfl ActK) = (0, at_, p, q)) (g1 : 65536 ≤ at_) (g2 : ¬ at_ < 65536 + 1024 * c.s) (ck : Nat) (es : ThMap) (sz : Tri En 11 [cnfA 0 c, thA (p, q)] [.tab false (.int .i64) c.cl] (.int .i64 0) [.tab false (.int .i64) c.cl])
    (ih : Goods (gDo c l) (doSt c l (k + 1) m ck es)) : Goods (gDo c l) (doSt c l k m ck es) := by
  have s0 := h.s0
  have s1 := h.s1
  have o1 := mem_ops m
  have e4 : IntKind.i64.wrap (65536 + IntKind.i64.wrap (1024 * c.s)) = 65536 + 1024 * c.s := by rw [w64 (x := 1024 * c.s) (by omega) (by omega), w64 (by omega) (by omega)]
  refine Goods.to 2000 [.b true, .s 47 (some true) true true, .s 55 (some false) true true, .k 64 (.of o1), .b true, .k 80 (.of sz), .b true, .l, .stop] mixed (ih) (by kernel_rfl) ?_
  show Yes _
  repeat' apply And.intro
  (all_goals first | rfl | assumption | trivial | omega | (simp [-List.getD_eq_getElem?_getD, hy, e4] <;> omega) | (simp (disch := omega) only [w64, wu64] <;> omega) | (simp (disch := omega) [-List.getD_eq_getElem?_getD, List.getD_cons_zero, List.getD_cons_succ, kCast_self, dfl_pair, dfl_int, w64, wu64, hy, e4] <;> omega) | (rw [Bool.eq_iff_iff]; simp (disch := omega) [-List.getD_eq_getElem?_getD, List.getD_cons_zero, List.getD_cons_succ, kCast_self, dfl_pair, dfl_int, w64, wu64, hy, e4] <;> omega) | (simp_all [-List.getD_eq_getElem?_getD] <;> omega))
set_option maxHeartbeats 2000000 in
theorem do3_b (c : Cnf) (h : c.Ok) (l : List ActT) (hl : l.length ≤ 200) (m : MemS) (k : Nat) (hk : k < l.length) (kd at_ p q : Int) (hy : l.getD k (dfl ActK) = (kd, at_, p, q)) (k0 : kd ≠ 0) (k1 : kd ≠ 1) (k2 : kd ≠ 2) (g1 : 65536 ≤ at_) (g2 : ¬ at_ < 65536 + 1024 * c.s) (ck : Nat) (es : ThMap)
    (ih : Goods (gDo c l) (doSt c l (k + 1) m ck es)) : Goods (gDo c l) (doSt c l k m ck es) := by
  have s0 := h.s0
  have s1 := h.s1
  have o1 := mem_ops m
  have e4 : IntKind.i64.wrap (65536 + IntKind.i64.wrap (1024 * c.s)) = 65536 + 1024 * c.s := by rw [w64 (x := 1024 * c.s) (by omega) (by omega), w64 (by omega) (by omega)]
  refine Goods.to 2000 [.b true, .s 47 (some true) true true, .s 55 (some false) true true, .k 64 (.of o1), .b false, .b false, .b false, .l, .stop] mixed (ih) (by kernel_rfl) ?_
  show Yes _
  repeat' apply And.intro
  (all_goals first | rfl | assumption | trivial | omega | (simp [-List.getD_eq_getElem?_getD, hy, e4, k0, k1, k2] <;> omega) | (simp (disch := omega) only [w64, wu64] <;> omega) | (simp (disch := omega) [-List.getD_eq_getElem?_getD, List.getD_cons_zero, List.getD_cons_succ, kCast_self, dfl_pair, dfl_int, w64, wu64, hy, e4, k0, k1, k2] <;> omega) | (rw [Bool.eq_iff_iff]; simp (disch := omega) [-List.getD_eq_getElem?_getD, List.getD_cons_zero, List.getD_cons_succ, kCast_self, dfl_pair, dfl_int, w64, wu64, hy, e4, k0, k1, k2] <;> omega) | (simp_all [-List.getD_eq_getElem?_getD] <;> omega))
set_option maxHeartbeats 2000000 in
theorem do0s_c (c : Cnf) (h : c.Ok) (l : List ActT) (hl : l.length ≤ 200) (m : MemS) (k : Nat) (hk : k < l.length) (at_ p q : Int) (hy : l.getD k (dfl ActK) = (0, at_, p, q)) (g1 : 65536 ≤ at_) (g2 : at_ < 65536 + 1024 * c.s) (g3 : ¬ at_.tmod 16 = 0) (ck : Nat) (es : ThMap) (sz : Tri En 11 [cnfA 0 c, thA (p, q)] [.tab false (.int .i64) c.cl] (.int .i64 0) [.tab false (.int .i64) c.cl])
    (ih : Goods (gDo c l) (doSt c l (k + 1) m ck es)) : Goods (gDo c l) (doSt c l k m ck es) := by
  have s0 := h.s0
  have s1 := h.s1
  have o1 := mem_ops m
  have e4 : IntKind.i64.wrap (65536 + IntKind.i64.wrap (1024 * c.s)) = 65536 + 1024 * c.s := by rw [w64 (x := 1024 * c.s) (by omega) (by omega), w64 (by omega) (by omega)]
  refine Goods.to 2000 [.b true, .s 47 (some true) true true, .s 55 (some true) true true, .s 61 (some false) true true, .k 64 (.of o1), .b true, .k 80 (.of sz), .b true, .l, .stop] mixed (ih) (by kernel_rfl) ?_
  show Yes _
  repeat' apply And.intro
  (all_goals first | rfl | assumption | trivial | omega | (simp [-List.getD_eq_getElem?_getD, hy, e4] <;> omega) | (simp (disch := omega) only [w64, wu64] <;> omega) | (simp (disch := omega) [-List.getD_eq_getElem?_getD, List.getD_cons_zero, List.getD_cons_succ, kCast_self, dfl_pair, dfl_int, w64, wu64, hy, e4] <;> omega) | (rw [Bool.eq_iff_iff]; simp (disch := omega) [-List.getD_eq_getElem?_getD, List.getD_cons_zero, List.getD_cons_succ, kCast_self, dfl_pair, dfl_int, w64, wu64, hy, e4] <;> omega) | (simp_all [-List.getD_eq_getElem?_getD] <;> omega))
set_option maxHeartbeats 2000000 in
theorem do3_c (c : Cnf) (h : c.Ok) (l : List ActT) (hl : l.length ≤ 200) (m : MemS) (k : Nat) (hk : k < l.length) (kd at_ p q : Int) (hy : l.getD k (dfl ActK) = (kd, at_, p, q)) (k0 : kd ≠ 0) (k1 : kd ≠ 1) (k2 : kd ≠ 2) (g1 : 65536 ≤ at_) (g2 : at_ < 65536 + 1024 * c.s) (g3 : ¬ at_.tmod 16 = 0) (ck : Nat) (es : ThMap)
    (ih : Goods (gDo c l) (doSt c l (k + 1) m ck es)) : Goods (gDo c l) (doSt c l k m ck es) := by
  have s0 := h.s0
  have s1 := h.s1
  have o1 := mem_ops m
  have e4 : IntKind.i64.wrap (65536 + IntKind.i64.wrap (1024 * c.s)) = 65536 + 1024 * c.s := by rw [w64 (x := 1024 * c.s) (by omega) (by omega), w64 (by omega) (by omega)]
  refine Goods.to 2000 [.b true, .s 47 (some true) true true, .s 55 (some true) true true, .s 61 (some false) true true, .k 64 (.of o1), .b false, .b false, .b false, .l, .stop] mixed (ih) (by kernel_rfl) ?_
  show Yes _
  repeat' apply And.intro
  (all_goals first | rfl | assumption | trivial | omega | (simp [-List.getD_eq_getElem?_getD, hy, e4, k0, k1, k2] <;> omega) | (simp (disch := omega) only [w64, wu64] <;> omega) | (simp (disch := omega) [-List.getD_eq_getElem?_getD, List.getD_cons_zero, List.getD_cons_succ, kCast_self, dfl_pair, dfl_int, w64, wu64, hy, e4, k0, k1, k2] <;> omega) | (rw [Bool.eq_iff_iff]; simp (disch := omega) [-List.getD_eq_getElem?_getD, List.getD_cons_zero, List.getD_cons_succ, kCast_self, dfl_pair, dfl_int, w64, wu64, hy, e4, k0, k1, k2] <;> omega) | (simp_all [-List.getD_eq_getElem?_getD] <;> omega))
set_option maxHeartbeats 2000000 in
theorem do0s_d (c : Cnf) (h : c.Ok) (l : List ActT) (hl : l.length ≤ 200) (m : MemS) (k : Nat) (hk : k < l.length) (at_ p q : Int) (hy : l.getD k (dfl ActK) = (0, at_, p, q)) (g1 : 65536 ≤ at_) (g2 : at_ < 65536 + 1024 * c.s) (g3 : at_.tmod 16 = 0) (ck : Nat) (es : ThMap) (sz : Tri En 11 [cnfA 0 c, thA (p, q)] [.tab false (.int .i64) c.cl] (.int .i64 0) [.tab false (.int .i64) c.cl])
    (ih : Goods (gDo c l) (doSt c l (k + 1) m ck es)) : Goods (gDo c l) (doSt c l k m ck es) := by
  have s0 := h.s0
  have s1 := h.s1
  have o1 := mem_ops m
  have e4 : IntKind.i64.wrap (65536 + IntKind.i64.wrap (1024 * c.s)) = 65536 + 1024 * c.s := by rw [w64 (x := 1024 * c.s) (by omega) (by omega), w64 (by omega) (by omega)]
  refine Goods.to 2000 [.b true, .s 47 (some true) true true, .s 55 (some true) true true, .s 61 (some true) true true, .k 64 (.of o1), .b true, .k 80 (.of sz), .b true, .l, .stop] mixed (ih) (by kernel_rfl) ?_
  show Yes _
  repeat' apply And.intro
  (all_goals first | rfl | assumption | trivial | omega | (simp [-List.getD_eq_getElem?_getD, hy, e4] <;> omega) | (simp (disch := omega) only [w64, wu64] <;> omega) | (simp (disch := omega) [-List.getD_eq_getElem?_getD, List.getD_cons_zero, List.getD_cons_succ, kCast_self, dfl_pair, dfl_int, w64, wu64, hy, e4] <;> omega) | (rw [Bool.eq_iff_iff]; simp (disch := omega) [-List.getD_eq_getElem?_getD, List.getD_cons_zero, List.getD_cons_succ, kCast_self, dfl_pair, dfl_int, w64, wu64, hy, e4] <;> omega) | (simp_all [-List.getD_eq_getElem?_getD] <;> omega))
set_option maxHeartbeats 2000000 in
theorem do3_d (c : Cnf) (h : c.Ok) (l : List ActT) (hl : l.length ≤ 200) (m : MemS) (k : Nat) (hk : k < l.length) (kd at_ p q : Int) (hy : l.getD k (dfl ActK) = (kd, at_, p, q)) (k0 : kd ≠ 0) (k1 : kd ≠ 1) (k2 : kd ≠ 2) (g1 : 65536 ≤ at_) (g2 : at_ < 65536 + 1024 * c.s) (g3 : at_.tmod 16 = 0) (ck : Nat) (es : ThMap)
    (ih : Goods (gDo c l) (doSt c l (k + 1) m ck es)) : Goods (gDo c l) (doSt c l k m ck es) := by
  have s0 := h.s0
  have s1 := h.s1
  have o1 := mem_ops m
  have e4 : IntKind.i64.wrap (65536 + IntKind.i64.wrap (1024 * c.s)) = 65536 + 1024 * c.s := by rw [w64 (x := 1024 * c.s) (by omega) (by omega), w64 (by omega) (by omega)]
  refine Goods.to 2000 [.b true, .s 47 (some true) true true, .s 55 (some true) true true, .s 61 (some true) true true, .k 64 (.of o1), .b false, .b false, .b false, .l, .stop] mixed (ih) (by kernel_rfl) ?_
  show Yes _
  repeat' apply And.intro
  (all_goals first | rfl | assumption | trivial | omega | (simp [-List.getD_eq_getElem?_getD, hy, e4, k0, k1, k2] <;> omega) | (simp (disch := omega) only [w64, wu64] <;> omega) | (simp (disch := omega) [-List.getD_eq_getElem?_getD, List.getD_cons_zero, List.getD_cons_succ, kCast_self, dfl_pair, dfl_int, w64, wu64, hy, e4, k0, k1, k2] <;> omega) | (rw [Bool.eq_iff_iff]; simp (disch := omega) [-List.getD_eq_getElem?_getD, List.getD_cons_zero, List.getD_cons_succ, kCast_self, dfl_pair, dfl_int, w64, wu64, hy, e4, k0, k1, k2] <;> omega) | (simp_all [-List.getD_eq_getElem?_getD] <;> omega))
end Go.Proofs.YtokblanedeiegaaDoor.E
