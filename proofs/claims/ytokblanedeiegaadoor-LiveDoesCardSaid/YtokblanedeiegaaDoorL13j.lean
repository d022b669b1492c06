/- LiveDoes: the law's contract: a step of the script at a place that is none. -/
import Derived.Test.YtokblanedeiegaaDoorL13i
namespace Go.Proofs.YtokblanedeiegaaDoor.E
open Go
set_option maxRecDepth 100000

set_option maxHeartbeats 2000000 in
theorem do1_a (c : Cnf) (h : c.Ok) (l : List ActT) (hl : l.length ≤ 200) (m : MemS) (k : Nat) (hk : k < l.length) (at_ p q : Int) (hy : l.getD k (dfl ActK) = (1, at_, p, q)) (g1 : ¬ 65536 ≤ at_) (ck : Nat) (es : ThMap) (tk : TTake c (3 : Nat) at_ m m (0, 0) false)
    (e1 : (mgT at_ es).getD (0, 0) = (0, 0)) (e2 : mhas (kk := .int .i64) (vk := IvK) at_ es = false)
    (ih : Goods (gDo c l) (doSt c l (k + 1) m ck (mdel (kk := .int .i64) (vk := IvK) at_ es))) : Goods (gDo c l) (doSt c l k m ck es) := by
  have s0 := h.s0
  have s1 := h.s1
  have o1 := mem_ops m
  have hne := inc_ne m.ops
  have e3 : (m.ops != IntKind.i64.wrap (m.ops + 1)) = true := by
    have := inc_ne m.ops
    unfold inc at this
    simp only [bne_iff_ne, ne_eq]
    omega
  have e4 : IntKind.i64.wrap (65536 + IntKind.i64.wrap (1024 * c.s)) = 65536 + 1024 * c.s := by rw [w64 (x := 1024 * c.s) (by omega) (by omega), w64 (by omega) (by omega)]
  refine Goods.to 2000 [.b true, .s 47 (some false) true true, .k 64 (.of o1), .b false, .b true, .k 104 (.of tk), .s 121 (some false) true true, .s 125 (some false) true true, .k 129 (.of o1), .s 131 (some false) true true, .k 139 (.of o1), .s 142 (some true) true true, .l, .stop] mixed (ih) (by kernel_rfl) ?_
  show Yes _
  repeat' apply And.intro
  (all_goals first | rfl | assumption | trivial | omega | (simp [-List.getD_eq_getElem?_getD, hy, e1, e2, e3, e4] <;> omega) | (simp (disch := omega) only [w64, wu64] <;> omega) | (simp (disch := omega) [-List.getD_eq_getElem?_getD, List.getD_cons_zero, List.getD_cons_succ, kCast_self, dfl_pair, dfl_int, w64, wu64, hy, e1, e2, e3, e4] <;> omega) | (rw [Bool.eq_iff_iff]; simp (disch := omega) [-List.getD_eq_getElem?_getD, List.getD_cons_zero, List.getD_cons_succ, kCast_self, dfl_pair, dfl_int, w64, wu64, hy, e1, e2, e3, e4] <;> omega) | (simp_all [-List.getD_eq_getElem?_getD] <;> omega))
set_option maxHeartbeats 2000000 in
theorem do2_a (c : Cnf) (h : c.Ok) (l : List ActT) (hl : l.length ≤ 200) (m : MemS) (k : Nat) (hk : k < l.length) (at_ p q : Int) (hy : l.getD k (dfl ActK) = (2, at_, p, q)) (g1 : ¬ 65536 ≤ at_) (ck : Nat) (es : ThMap) (tk : TLook c (3 : Nat) at_ m m (0, 0) false)
    (e1 : (mgT at_ es).getD (0, 0) = (0, 0)) (e2 : mhas (kk := .int .i64) (vk := IvK) at_ es = false)
    (ih : Goods (gDo c l) (doSt c l (k + 1) m ck es)) : Goods (gDo c l) (doSt c l k m ck es) := by
  have s0 := h.s0
  have s1 := h.s1
  have o1 := mem_ops m
  have hne := inc_ne m.ops
  have e3 : (m.ops != IntKind.i64.wrap (m.ops + 1)) = true := by
    have := inc_ne m.ops
    unfold inc at this
    simp only [bne_iff_ne, ne_eq]
    omega
  have e4 : IntKind.i64.wrap (65536 + IntKind.i64.wrap (1024 * c.s)) = 65536 + 1024 * c.s := by rw [w64 (x := 1024 * c.s) (by omega) (by omega), w64 (by omega) (by omega)]
  refine Goods.to 2000 [.b true, .s 47 (some false) true true, .k 64 (.of o1), .b false, .b false, .b true, .k 116 (.of tk), .s 121 (some false) true true, .s 125 (some false) true true, .k 129 (.of o1), .s 131 (some false) true true, .k 139 (.of o1), .s 142 (some true) true true, .l, .stop] mixed (ih) (by kernel_rfl) ?_
  show Yes _
  repeat' apply And.intro
  (all_goals first | rfl | assumption | trivial | omega | (simp [-List.getD_eq_getElem?_getD, hy, e1, e2, e3, e4] <;> omega) | (simp (disch := omega) only [w64, wu64] <;> omega) | (simp (disch := omega) [-List.getD_eq_getElem?_getD, List.getD_cons_zero, List.getD_cons_succ, kCast_self, dfl_pair, dfl_int, w64, wu64, hy, e1, e2, e3, e4] <;> omega) | (rw [Bool.eq_iff_iff]; simp (disch := omega) [-List.getD_eq_getElem?_getD, List.getD_cons_zero, List.getD_cons_succ, kCast_self, dfl_pair, dfl_int, w64, wu64, hy, e1, e2, e3, e4] <;> omega) | (simp_all [-List.getD_eq_getElem?_getD] <;> omega))
set_option maxHeartbeats 2000000 in
theorem do0_a (c : Cnf) (h : c.Ok) (l : List ActT) (hl : l.length ≤ 200) (m : MemS) (k : Nat) (hk : k < l.length) (at_ p q : Int) (hy : l.getD k (dfl ActK) = (0, at_, p, q)) (g1 : ¬ 65536 ≤ at_) (ck : Nat) (es : ThMap) (z : Int) (hz : z ≠ 0) (sz : Tri En 11 [cnfA 0 c, thA (p, q)] [.tab false (.int .i64) c.cl] (.int .i64 z) [.tab false (.int .i64) c.cl]) (tk : TMark c (3 : Nat) at_ (p, q) m m false)
    (ih : Goods (gDo c l) (doSt c l (k + 1) m ck es)) : Goods (gDo c l) (doSt c l k m ck es) := by
  have s0 := h.s0
  have s1 := h.s1
  have o1 := mem_ops m
  have hne := inc_ne m.ops
  have e3 : (m.ops != IntKind.i64.wrap (m.ops + 1)) = true := by
    have := inc_ne m.ops
    unfold inc at this
    simp only [bne_iff_ne, ne_eq]
    omega
  have e4 : IntKind.i64.wrap (65536 + IntKind.i64.wrap (1024 * c.s)) = 65536 + 1024 * c.s := by rw [w64 (x := 1024 * c.s) (by omega) (by omega), w64 (by omega) (by omega)]
  refine Goods.to 2000 [.b true, .s 47 (some false) true true, .k 64 (.of o1), .b true, .k 80 (.of sz), .b false, .k 87 (.of tk), .b false, .s 121 (some false) true true, .s 125 (some false) true true, .k 129 (.of o1), .s 131 (some false) true true, .k 139 (.of o1), .s 142 (some true) true true, .l, .stop] mixed (ih) (by kernel_rfl) ?_
  show Yes _
  repeat' apply And.intro
  (all_goals first | rfl | assumption | trivial | omega | (simp [-List.getD_eq_getElem?_getD, hy, e3, e4] <;> omega) | (simp (disch := omega) only [w64, wu64] <;> omega) | (simp (disch := omega) [-List.getD_eq_getElem?_getD, List.getD_cons_zero, List.getD_cons_succ, kCast_self, dfl_pair, dfl_int, w64, wu64, hy, e3, e4] <;> omega) | (rw [Bool.eq_iff_iff]; simp (disch := omega) [-List.getD_eq_getElem?_getD, List.getD_cons_zero, List.getD_cons_succ, kCast_self, dfl_pair, dfl_int, w64, wu64, hy, e3, e4] <;> omega) | (simp_all [-List.getD_eq_getElem?_getD] <;> omega))
set_option maxHeartbeats 2000000 in
theorem do1_b (c : Cnf) (h : c.Ok) (l : List ActT) (hl : l.length ≤ 200) (m : MemS) (k : Nat) (hk : k < l.length) (at_ p q : Int) (hy : l.getD k (dfl ActK) = (1, at_, p, q)) (g1 : 65536 ≤ at_) (g2 : ¬ at_ < 65536 + 1024 * c.s) (ck : Nat) (es : ThMap) (tk : TTake c (3 : Nat) at_ m m (0, 0) false)
    (e1 : (mgT at_ es).getD (0, 0) = (0, 0)) (e2 : mhas (kk := .int .i64) (vk := IvK) at_ es = false)
    (ih : Goods (gDo c l) (doSt c l (k + 1) m ck (mdel (kk := .int .i64) (vk := IvK) at_ es))) : Goods (gDo c l) (doSt c l k m ck es) := by
  have s0 := h.s0
  have s1 := h.s1
  have o1 := mem_ops m
  have hne := inc_ne m.ops
  have e3 : (m.ops != IntKind.i64.wrap (m.ops + 1)) = true := by
    have := inc_ne m.ops
    unfold inc at this
    simp only [bne_iff_ne, ne_eq]
    omega
  have e4 : IntKind.i64.wrap (65536 + IntKind.i64.wrap (1024 * c.s)) = 65536 + 1024 * c.s := by rw [w64 (x := 1024 * c.s) (by omega) (by omega), w64 (by omega) (by omega)]
  refine Goods.to 2000 [.b true, .s 47 (some true) true true, .s 55 (some false) true true, .k 64 (.of o1), .b false, .b true, .k 104 (.of tk), .s 121 (some false) true true, .s 125 (some false) true true, .k 129 (.of o1), .s 131 (some false) true true, .k 139 (.of o1), .s 142 (some true) true true, .l, .stop] mixed (ih) (by kernel_rfl) ?_
  show Yes _
  repeat' apply And.intro
  (all_goals first | rfl | assumption | trivial | omega | (simp [-List.getD_eq_getElem?_getD, hy, e1, e2, e3, e4] <;> omega) | (simp (disch := omega) only [w64, wu64] <;> omega) | (simp (disch := omega) [-List.getD_eq_getElem?_getD, List.getD_cons_zero, List.getD_cons_succ, kCast_self, dfl_pair, dfl_int, w64, wu64, hy, e1, e2, e3, e4] <;> omega) | (rw [Bool.eq_iff_iff]; simp (disch := omega) [-List.getD_eq_getElem?_getD, List.getD_cons_zero, List.getD_cons_succ, kCast_self, dfl_pair, dfl_int, w64, wu64, hy, e1, e2, e3, e4] <;> omega) | (simp_all [-List.getD_eq_getElem?_getD] <;> omega))
set_option maxHeartbeats 2000000 in
theorem do2_b (c : Cnf) (h : c.Ok) (l : List ActT) (hl : l.length ≤ 200) (m : MemS) (k : Nat) (hk : k < l.length) (at_ p q : Int) (hy : l.getD k (dfl ActK) = (2, at_, p, q)) (g1 : 65536 ≤ at_) (g2 : ¬ at_ < 65536 + 1024 * c.s) (ck : Nat) (es : ThMap) (tk : TLook c (3 : Nat) at_ m m (0, 0) false)
    (e1 : (mgT at_ es).getD (0, 0) = (0, 0)) (e2 : mhas (kk := .int .i64) (vk := IvK) at_ es = false)
    (ih : Goods (gDo c l) (doSt c l (k + 1) m ck es)) : Goods (gDo c l) (doSt c l k m ck es) := by
  have s0 := h.s0
  have s1 := h.s1
  have o1 := mem_ops m
  have hne := inc_ne m.ops
  have e3 : (m.ops != IntKind.i64.wrap (m.ops + 1)) = true := by
    have := inc_ne m.ops
    unfold inc at this
    simp only [bne_iff_ne, ne_eq]
    omega
  have e4 : IntKind.i64.wrap (65536 + IntKind.i64.wrap (1024 * c.s)) = 65536 + 1024 * c.s := by rw [w64 (x := 1024 * c.s) (by omega) (by omega), w64 (by omega) (by omega)]
  refine Goods.to 2000 [.b true, .s 47 (some true) true true, .s 55 (some false) true true, .k 64 (.of o1), .b false, .b false, .b true, .k 116 (.of tk), .s 121 (some false) true true, .s 125 (some false) true true, .k 129 (.of o1), .s 131 (some false) true true, .k 139 (.of o1), .s 142 (some true) true true, .l, .stop] mixed (ih) (by kernel_rfl) ?_
  show Yes _
  repeat' apply And.intro
  (all_goals first | rfl | assumption | trivial | omega | (simp [-List.getD_eq_getElem?_getD, hy, e1, e2, e3, e4] <;> omega) | (simp (disch := omega) only [w64, wu64] <;> omega) | (simp (disch := omega) [-List.getD_eq_getElem?_getD, List.getD_cons_zero, List.getD_cons_succ, kCast_self, dfl_pair, dfl_int, w64, wu64, hy, e1, e2, e3, e4] <;> omega) | (rw [Bool.eq_iff_iff]; simp (disch := omega) [-List.getD_eq_getElem?_getD, List.getD_cons_zero, List.getD_cons_succ, kCast_self, dfl_pair, dfl_int, w64, wu64, hy, e1, e2, e3, e4] <;> omega) | (simp_all [-List.getD_eq_getElem?_getD] <;> omega))
set_option maxHeartbeats 2000000 in
theorem do0_b (c : Cnf) (h : c.Ok) (l : List ActT) (hl : l.length ≤ 200) (m : MemS) (k : Nat) (hk : k < l.length) (at_ p q : Int) (hy : l.getD k (dfl ActK) = (0, at_, p, q)) (g1 : 65536 ≤ at_) (g2 : ¬ at_ < 65536 + 1024 * c.s) (ck : Nat) (es : ThMap) (z : Int) (hz : z ≠ 0) (sz : Tri En 11 [cnfA 0 c, thA (p, q)] [.tab false (.int .i64) c.cl] (.int .i64 z) [.tab false (.int .i64) c.cl]) (tk : TMark c (3 : Nat) at_ (p, q) m m false)
    (ih : Goods (gDo c l) (doSt c l (k + 1) m ck es)) : Goods (gDo c l) (doSt c l k m ck es) := by
  have s0 := h.s0
  have s1 := h.s1
  have o1 := mem_ops m
  have hne := inc_ne m.ops
  have e3 : (m.ops != IntKind.i64.wrap (m.ops + 1)) = true := by
    have := inc_ne m.ops
    unfold inc at this
    simp only [bne_iff_ne, ne_eq]
    omega
  have e4 : IntKind.i64.wrap (65536 + IntKind.i64.wrap (1024 * c.s)) = 65536 + 1024 * c.s := by rw [w64 (x := 1024 * c.s) (by omega) (by omega), w64 (by omega) (by omega)]
  refine Goods.to 2000 [.b true, .s 47 (some true) true true, .s 55 (some false) true true, .k 64 (.of o1), .b true, .k 80 (.of sz), .b false, .k 87 (.of tk), .b false, .s 121 (some false) true true, .s 125 (some false) true true, .k 129 (.of o1), .s 131 (some false) true true, .k 139 (.of o1), .s 142 (some true) true true, .l, .stop] mixed (ih) (by kernel_rfl) ?_
  show Yes _
  repeat' apply And.intro
  (all_goals first | rfl | assumption | trivial | omega | (simp [-List.getD_eq_getElem?_getD, hy, e3, e4] <;> omega) | (simp (disch := omega) only [w64, wu64] <;> omega) | (simp (disch := omega) [-List.getD_eq_getElem?_getD, List.getD_cons_zero, List.getD_cons_succ, kCast_self, dfl_pair, dfl_int, w64, wu64, hy, e3, e4] <;> omega) | (rw [Bool.eq_iff_iff]; simp (disch := omega) [-List.getD_eq_getElem?_getD, List.getD_cons_zero, List.getD_cons_succ, kCast_self, dfl_pair, dfl_int, w64, wu64, hy, e3, e4] <;> omega) | (simp_all [-List.getD_eq_getElem?_getD] <;> omega))
set_option maxHeartbeats 2000000 in
theorem do1_c (c : Cnf) (h : c.Ok) (l : List ActT) (hl : l.length ≤ 200) (m : MemS) (k : Nat) (hk : k < l.length) (at_ p q : Int) (hy : l.getD k (dfl ActK) = (1, at_, p, q)) (g1 : 65536 ≤ at_) (g2 : at_ < 65536 + 1024 * c.s) (g3 : ¬ at_.tmod 16 = 0) (ck : Nat) (es : ThMap) (tk : TTake c (3 : Nat) at_ m m (0, 0) false)
    (e1 : (mgT at_ es).getD (0, 0) = (0, 0)) (e2 : mhas (kk := .int .i64) (vk := IvK) at_ es = false)
    (ih : Goods (gDo c l) (doSt c l (k + 1) m ck (mdel (kk := .int .i64) (vk := IvK) at_ es))) : Goods (gDo c l) (doSt c l k m ck es) := by
  have s0 := h.s0
  have s1 := h.s1
  have o1 := mem_ops m
  have hne := inc_ne m.ops
  have e3 : (m.ops != IntKind.i64.wrap (m.ops + 1)) = true := by
    have := inc_ne m.ops
    unfold inc at this
    simp only [bne_iff_ne, ne_eq]
    omega
  have e4 : IntKind.i64.wrap (65536 + IntKind.i64.wrap (1024 * c.s)) = 65536 + 1024 * c.s := by rw [w64 (x := 1024 * c.s) (by omega) (by omega), w64 (by omega) (by omega)]
  refine Goods.to 2000 [.b true, .s 47 (some true) true true, .s 55 (some true) true true, .s 61 (some false) true true, .k 64 (.of o1), .b false, .b true, .k 104 (.of tk), .s 121 (some false) true true, .s 125 (some false) true true, .k 129 (.of o1), .s 131 (some false) true true, .k 139 (.of o1), .s 142 (some true) true true, .l, .stop] mixed (ih) (by kernel_rfl) ?_
  show Yes _
  repeat' apply And.intro
  (all_goals first | rfl | assumption | trivial | omega | (simp [-List.getD_eq_getElem?_getD, hy, e1, e2, e3, e4] <;> omega) | (simp (disch := omega) only [w64, wu64] <;> omega) | (simp (disch := omega) [-List.getD_eq_getElem?_getD, List.getD_cons_zero, List.getD_cons_succ, kCast_self, dfl_pair, dfl_int, w64, wu64, hy, e1, e2, e3, e4] <;> omega) | (rw [Bool.eq_iff_iff]; simp (disch := omega) [-List.getD_eq_getElem?_getD, List.getD_cons_zero, List.getD_cons_succ, kCast_self, dfl_pair, dfl_int, w64, wu64, hy, e1, e2, e3, e4] <;> omega) | (simp_all [-List.getD_eq_getElem?_getD] <;> omega))
set_option maxHeartbeats 2000000 in
theorem do2_c (c : Cnf) (h : c.Ok) (l : List ActT) (hl : l.length ≤ 200) (m : MemS) (k : Nat) (hk : k < l.length) (at_ p q : Int) (hy : l.getD k (dfl ActK) = (2, at_, p, q)) (g1 : 65536 ≤ at_) (g2 : at_ < 65536 + 1024 * c.s) (g3 : ¬ at_.tmod 16 = 0) (ck : Nat) (es : ThMap) (tk : TLook c (3 : Nat) at_ m m (0, 0) false)
    (e1 : (mgT at_ es).getD (0, 0) = (0, 0)) (e2 : mhas (kk := .int .i64) (vk := IvK) at_ es = false)
    (ih : Goods (gDo c l) (doSt c l (k + 1) m ck es)) : Goods (gDo c l) (doSt c l k m ck es) := by
  have s0 := h.s0
  have s1 := h.s1
  have o1 := mem_ops m
  have hne := inc_ne m.ops
  have e3 : (m.ops != IntKind.i64.wrap (m.ops + 1)) = true := by
    have := inc_ne m.ops
    unfold inc at this
    simp only [bne_iff_ne, ne_eq]
    omega
  have e4 : IntKind.i64.wrap (65536 + IntKind.i64.wrap (1024 * c.s)) = 65536 + 1024 * c.s := by rw [w64 (x := 1024 * c.s) (by omega) (by omega), w64 (by omega) (by omega)]
  refine Goods.to 2000 [.b true, .s 47 (some true) true true, .s 55 (some true) true true, .s 61 (some false) true true, .k 64 (.of o1), .b false, .b false, .b true, .k 116 (.of tk), .s 121 (some false) true true, .s 125 (some false) true true, .k 129 (.of o1), .s 131 (some false) true true, .k 139 (.of o1), .s 142 (some true) true true, .l, .stop] mixed (ih) (by kernel_rfl) ?_
  show Yes _
  repeat' apply And.intro
  (all_goals first | rfl | assumption | trivial | omega | (simp [-List.getD_eq_getElem?_getD, hy, e1, e2, e3, e4] <;> omega) | (simp (disch := omega) only [w64, wu64] <;> omega) | (simp (disch := omega) [-List.getD_eq_getElem?_getD, List.getD_cons_zero, List.getD_cons_succ, kCast_self, dfl_pair, dfl_int, w64, wu64, hy, e1, e2, e3, e4] <;> omega) | (rw [Bool.eq_iff_iff]; simp (disch := omega) [-List.getD_eq_getElem?_getD, List.getD_cons_zero, List.getD_cons_succ, kCast_self, dfl_pair, dfl_int, w64, wu64, hy, e1, e2, e3, e4] <;> omega) | (simp_all [-List.getD_eq_getElem?_getD] <;> omega))
set_option maxHeartbeats 2000000 in
theorem do0_c (c : Cnf) (h : c.Ok) (l : List ActT) (hl : l.length ≤ 200) (m : MemS) (k : Nat) (hk : k < l.length) (at_ p q : Int) (hy : l.getD k (dfl ActK) = (0, at_, p, q)) (g1 : 65536 ≤ at_) (g2 : at_ < 65536 + 1024 * c.s) (g3 : ¬ at_.tmod 16 = 0) (ck : Nat) (es : ThMap) (z : Int) (hz : z ≠ 0) (sz : Tri En 11 [cnfA 0 c, thA (p, q)] [.tab false (.int .i64) c.cl] (.int .i64 z) [.tab false (.int .i64) c.cl]) (tk : TMark c (3 : Nat) at_ (p, q) m m false)
    (ih : Goods (gDo c l) (doSt c l (k + 1) m ck es)) : Goods (gDo c l) (doSt c l k m ck es) := by
  have s0 := h.s0
  have s1 := h.s1
  have o1 := mem_ops m
  have hne := inc_ne m.ops
  have e3 : (m.ops != IntKind.i64.wrap (m.ops + 1)) = true := by
    have := inc_ne m.ops
    unfold inc at this
    simp only [bne_iff_ne, ne_eq]
    omega
  have e4 : IntKind.i64.wrap (65536 + IntKind.i64.wrap (1024 * c.s)) = 65536 + 1024 * c.s := by rw [w64 (x := 1024 * c.s) (by omega) (by omega), w64 (by omega) (by omega)]
  refine Goods.to 2000 [.b true, .s 47 (some true) true true, .s 55 (some true) true true, .s 61 (some false) true true, .k 64 (.of o1), .b true, .k 80 (.of sz), .b false, .k 87 (.of tk), .b false, .s 121 (some false) true true, .s 125 (some false) true true, .k 129 (.of o1), .s 131 (some false) true true, .k 139 (.of o1), .s 142 (some true) true true, .l, .stop] mixed (ih) (by kernel_rfl) ?_
  show Yes _
  repeat' apply And.intro
  (all_goals first | rfl | assumption | trivial | omega | (simp [-List.getD_eq_getElem?_getD, hy, e3, e4] <;> omega) | (simp (disch := omega) only [w64, wu64] <;> omega) | (simp (disch := omega) [-List.getD_eq_getElem?_getD, List.getD_cons_zero, List.getD_cons_succ, kCast_self, dfl_pair, dfl_int, w64, wu64, hy, e3, e4] <;> omega) | (rw [Bool.eq_iff_iff]; simp (disch := omega) [-List.getD_eq_getElem?_getD, List.getD_cons_zero, List.getD_cons_succ, kCast_self, dfl_pair, dfl_int, w64, wu64, hy, e3, e4] <;> omega) | (simp_all [-List.getD_eq_getElem?_getD] <;> omega))
end Go.Proofs.YtokblanedeiegaaDoor.E
