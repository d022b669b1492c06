/- LiveDoes: the law's contract: a step of the script. -/
import Derived.Test.YtokblanedeiegaaDoorL13h
namespace Go.Proofs.YtokblanedeiegaaDoor.E
open Go
set_option maxRecDepth 100000

theorem inc_ne (x : Int) : inc x ≠ x := by
  unfold inc
  intro h
  have e : IntKind.i64.wrap (x + 1) = (if 9223372036854775808 ≤ (x + 1) % 18446744073709551616 then (x + 1) % 18446744073709551616 - 18446744073709551616 else (x + 1) % 18446744073709551616) := by
    simp only [IntKind.wrap, IntKind.bits, IntKind.signed]
    simp
  rw [e] at h
  split at h <;> omega
noncomputable abbrev gDo (c : Cnf) (l : List ActT) : Frm := ⟨En, 7, Tryd.f7.ntmps, [.tab false (.int .i64) c.cl, .tab false ActK l], .bl true, gones 2⟩
noncomputable abbrev doSt (c : Cnf) (l : List ActT) (k : Nat) (m : MemS) (ck : Nat) (es : ThMap) : Cfg := ⟨.none, lp Tryd.f7 0, [(2, .ptr 2 0 0), (5, .ptr 3 0 0), (6, .ptr 4 0 0), (7, .map 5), (39, .slice 1 0 l.length), (40, .int .i64 l.length), (41, .int .i64 k)],
  hp [.tab false (.int .i64) c.cl, .tab false ActK l, cfgC c, memC 6 m, tableC 3 7 (3 : Nat) c, .map (.int .i64) IvK ck es, memT m, clsT c]⟩
set_option maxHeartbeats 2000000 in
theorem do1_g (c : Cnf) (h : c.Ok) (l : List ActT) (hl : l.length ≤ 200) (m m2 : MemS) (k : Nat) (hk : k < l.length) (at_ p q : Int) (hy : l.getD k (dfl ActK) = (1, at_, p, q)) (hg : grainP c at_) (ck : Nat) (es : ThMap) (x : ThT) (v : Bool) (tk : TTake c (3 : Nat) at_ m m2 x v) (ho : m2.ops = inc m.ops)
    (e1 : (mgT at_ es).getD (0, 0) = x) (e2 : mhas (kk := .int .i64) (vk := IvK) at_ es = v)
    (ih : Goods (gDo c l) (doSt c l (k + 1) m2 ck (mdel (kk := .int .i64) (vk := IvK) at_ es))) : Goods (gDo c l) (doSt c l k m ck es) := by
  have s0 := h.s0
  have s1 := h.s1
  have o1 := mem_ops m
  have o2 := mem_ops m2
  rw [ho] at o2
  have hne := inc_ne m.ops
  obtain ⟨g1, g2, g3⟩ := hg
  have e3 : (inc m.ops != IntKind.i64.wrap (m.ops + 1)) = false := by simp [inc]
  have e4 : IntKind.i64.wrap (65536 + IntKind.i64.wrap (1024 * c.s)) = 65536 + 1024 * c.s := by rw [w64 (x := 1024 * c.s) (by omega) (by omega), w64 (by omega) (by omega)]
  refine Goods.to 2000 [.b true, .s 47 (some true) true true, .s 55 (some true) true true, .s 61 (some true) true true, .k 64 (.of o1), .b false, .b true, .k 104 (.of tk), .s 121 (some false) true true, .s 125 (some false) true true, .k 129 (.of o2), .s 131 (some true) true true, .k 139 (.of o2), .s 142 (some false) true true, .l, .stop] mixed (ih) (by kernel_rfl) ?_
  show Yes _
  repeat' apply And.intro
  (all_goals first | rfl | assumption | trivial | omega | (simp [-List.getD_eq_getElem?_getD, hy, e1, e2, e3, e4] <;> omega) | (simp (disch := omega) only [w64, wu64] <;> omega) | (simp (disch := omega) [-List.getD_eq_getElem?_getD, List.getD_cons_zero, List.getD_cons_succ, kCast_self, dfl_pair, dfl_int, w64, wu64, hy, e1, e2, e3, e4] <;> omega) | (rw [Bool.eq_iff_iff]; simp (disch := omega) [-List.getD_eq_getElem?_getD, List.getD_cons_zero, List.getD_cons_succ, kCast_self, dfl_pair, dfl_int, w64, wu64, hy, e1, e2, e3, e4] <;> omega) | (simp_all [-List.getD_eq_getElem?_getD] <;> omega))
set_option maxHeartbeats 2000000 in
theorem do2_g (c : Cnf) (h : c.Ok) (l : List ActT) (hl : l.length ≤ 200) (m m2 : MemS) (k : Nat) (hk : k < l.length) (at_ p q : Int) (hy : l.getD k (dfl ActK) = (2, at_, p, q)) (hg : grainP c at_) (ck : Nat) (es : ThMap) (x : ThT) (v : Bool) (tk : TLook c (3 : Nat) at_ m m2 x v) (ho : m2.ops = inc m.ops)
    (e1 : (mgT at_ es).getD (0, 0) = x) (e2 : mhas (kk := .int .i64) (vk := IvK) at_ es = v)
    (ih : Goods (gDo c l) (doSt c l (k + 1) m2 ck es)) : Goods (gDo c l) (doSt c l k m ck es) := by
  have s0 := h.s0
  have s1 := h.s1
  have o1 := mem_ops m
  have o2 := mem_ops m2
  rw [ho] at o2
  have hne := inc_ne m.ops
  obtain ⟨g1, g2, g3⟩ := hg
  have e3 : (inc m.ops != IntKind.i64.wrap (m.ops + 1)) = false := by simp [inc]
  have e4 : IntKind.i64.wrap (65536 + IntKind.i64.wrap (1024 * c.s)) = 65536 + 1024 * c.s := by rw [w64 (x := 1024 * c.s) (by omega) (by omega), w64 (by omega) (by omega)]
  refine Goods.to 2000 [.b true, .s 47 (some true) true true, .s 55 (some true) true true, .s 61 (some true) true true, .k 64 (.of o1), .b false, .b false, .b true, .k 116 (.of tk), .s 121 (some false) true true, .s 125 (some false) true true, .k 129 (.of o2), .s 131 (some true) true true, .k 139 (.of o2), .s 142 (some false) true true, .l, .stop] mixed (ih) (by kernel_rfl) ?_
  show Yes _
  repeat' apply And.intro
  (all_goals first | rfl | assumption | trivial | omega | (simp [-List.getD_eq_getElem?_getD, hy, e1, e2, e3, e4] <;> omega) | (simp (disch := omega) only [w64, wu64] <;> omega) | (simp (disch := omega) [-List.getD_eq_getElem?_getD, List.getD_cons_zero, List.getD_cons_succ, kCast_self, dfl_pair, dfl_int, w64, wu64, hy, e1, e2, e3, e4] <;> omega) | (rw [Bool.eq_iff_iff]; simp (disch := omega) [-List.getD_eq_getElem?_getD, List.getD_cons_zero, List.getD_cons_succ, kCast_self, dfl_pair, dfl_int, w64, wu64, hy, e1, e2, e3, e4] <;> omega) | (simp_all [-List.getD_eq_getElem?_getD] <;> omega))
set_option maxHeartbeats 2000000 in
theorem do0_g (c : Cnf) (h : c.Ok) (l : List ActT) (hl : l.length ≤ 200) (m m2 : MemS) (k : Nat) (hk : k < l.length) (at_ p q : Int) (hy : l.getD k (dfl ActK) = (0, at_, p, q)) (hg : grainP c at_) (ck : Nat) (es : ThMap) (z : Int) (hz : z ≠ 0) (sz : Tri En 11 [cnfA 0 c, thA (p, q)] [.tab false (.int .i64) c.cl] (.int .i64 z) [.tab false (.int .i64) c.cl]) (tk : TMark c (3 : Nat) at_ (p, q) m m2 true) (ho : m2.ops = inc m.ops)
    (ih : Goods (gDo c l) (doSt c l (k + 1) m2 (mclock (kk := .int .i64) (vk := IvK) at_ ck es) (mput (kk := .int .i64) (vk := IvK) at_ (p, q) ck es))) : Goods (gDo c l) (doSt c l k m ck es) := by
  have s0 := h.s0
  have s1 := h.s1
  have o1 := mem_ops m
  have o2 := mem_ops m2
  rw [ho] at o2
  have hne := inc_ne m.ops
  obtain ⟨g1, g2, g3⟩ := hg
  have e3 : (inc m.ops != IntKind.i64.wrap (m.ops + 1)) = false := by simp [inc]
  have e4 : IntKind.i64.wrap (65536 + IntKind.i64.wrap (1024 * c.s)) = 65536 + 1024 * c.s := by rw [w64 (x := 1024 * c.s) (by omega) (by omega), w64 (by omega) (by omega)]
  refine Goods.to 2000 [.b true, .s 47 (some true) true true, .s 55 (some true) true true, .s 61 (some true) true true, .k 64 (.of o1), .b true, .k 80 (.of sz), .b false, .k 87 (.of tk), .b false, .s 121 (some false) true true, .s 125 (some false) true true, .k 129 (.of o2), .s 131 (some true) true true, .k 139 (.of o2), .s 142 (some false) true true, .l, .stop] mixed (ih) (by kernel_rfl) ?_
  show Yes _
  repeat' apply And.intro
  (all_goals first | rfl | assumption | trivial | omega | (simp [-List.getD_eq_getElem?_getD, hy, e3, e4] <;> omega) | (simp (disch := omega) only [w64, wu64] <;> omega) | (simp (disch := omega) [-List.getD_eq_getElem?_getD, List.getD_cons_zero, List.getD_cons_succ, kCast_self, dfl_pair, dfl_int, w64, wu64, hy, e3, e4] <;> omega) | (rw [Bool.eq_iff_iff]; simp (disch := omega) [-List.getD_eq_getElem?_getD, List.getD_cons_zero, List.getD_cons_succ, kCast_self, dfl_pair, dfl_int, w64, wu64, hy, e3, e4] <;> omega) | (simp_all [-List.getD_eq_getElem?_getD] <;> omega))
end Go.Proofs.YtokblanedeiegaaDoor.E
