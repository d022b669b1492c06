/- HeartKeeps: the script's steps: runs that come back; what each step leaves. -/
import Derived.Test.YtdnhnglhdabkgaaDoorL11m
namespace Go.Proofs.YtdnhnglhdabkgaaDoor.E
set_option linter.unusedSimpArgs false
set_option linter.unusedVariables false
open Go
set_option maxRecDepth 100000

set_option maxHeartbeats 4000000 in
theorem ks4_outa (c : Cnf) (hc : c.Ok) (l : List AskT) (n : Nat) (hn : (n : Int) = c.s) (f : SupF) (o r : Nat → Nat) (k : Nat) (hk : k < l.length) (q m ra rb : Int) (z : Nat) (hy : l.getD k (dfl AskK) = (4, q, m, ra, rb)) (h0 : ¬ 0 ≤ q) (hf : Tri En 14 [.int .i64 q] [] (opA z 0) []) (ha : TAp true c n f z 0 (opA 0 0) f) (nx : Goods (gKs c l) (ksAt c l n f o r k)) : Goods (gKs c l) (ksSt c l n f o r k) := by
  have l3 := hW_len n f
  refine Goods.to 2000 [.b true, .b false, .b false, .b false, .b true, .k 190 (.of hf), .k 191 (.of ha), .s 194 (some false) true true, .s 196 (some false) true true, .b false, .upto 43] mixed (nx) (by kernel_rfl) ?_
  show Yes _
  repeat' apply And.intro
  (all_goals first | rfl | assumption | trivial | omega | (simp [-List.getD_eq_getElem?_getD, hy] <;> omega) | (simp (disch := omega) only [w64, wu64] <;> omega) | (simp (disch := omega) [-List.getD_eq_getElem?_getD, List.getD_cons_zero, List.getD_cons_succ, kCast_self, dfl_pair, dfl_int, w64, wu64, hy] <;> omega) | (rw [Bool.eq_iff_iff]; simp (disch := omega) [-List.getD_eq_getElem?_getD, List.getD_cons_zero, List.getD_cons_succ, kCast_self, dfl_pair, dfl_int, w64, wu64, hy] <;> omega) | (simp_all [-List.getD_eq_getElem?_getD] <;> omega))
set_option maxHeartbeats 4000000 in
theorem ks4_outb (c : Cnf) (hc : c.Ok) (l : List AskT) (n : Nat) (hn : (n : Int) = c.s) (f : SupF) (o r : Nat → Nat) (k : Nat) (hk : k < l.length) (q m ra rb : Int) (z : Nat) (hy : l.getD k (dfl AskK) = (4, q, m, ra, rb)) (h0 : 0 ≤ q) (h1 : ¬ q < n) (hf : Tri En 14 [.int .i64 q] [] (opA z 0) []) (ha : TAp true c n f z 0 (opA 0 0) f) (nx : Goods (gKs c l) (ksAt c l n f o r k)) : Goods (gKs c l) (ksSt c l n f o r k) := by
  have l3 := hW_len n f
  refine Goods.to 2000 [.b true, .b false, .b false, .b false, .b true, .k 190 (.of hf), .k 191 (.of ha), .s 194 (some false) true true, .s 196 (some true) true true, .s 201 (some false) true true, .b false, .upto 43] mixed (nx) (by kernel_rfl) ?_
  show Yes _
  repeat' apply And.intro
  (all_goals first | rfl | assumption | trivial | omega | (simp [-List.getD_eq_getElem?_getD, hy] <;> omega) | (simp (disch := omega) only [w64, wu64] <;> omega) | (simp (disch := omega) [-List.getD_eq_getElem?_getD, List.getD_cons_zero, List.getD_cons_succ, kCast_self, dfl_pair, dfl_int, w64, wu64, hy] <;> omega) | (rw [Bool.eq_iff_iff]; simp (disch := omega) [-List.getD_eq_getElem?_getD, List.getD_cons_zero, List.getD_cons_succ, kCast_self, dfl_pair, dfl_int, w64, wu64, hy] <;> omega) | (simp_all [-List.getD_eq_getElem?_getD] <;> omega))
set_option maxHeartbeats 4000000 in
theorem ks4_no (c : Cnf) (hc : c.Ok) (l : List AskT) (n : Nat) (hn : (n : Int) = c.s) (f : SupF) (o r : Nat → Nat) (k : Nat) (hk : k < l.length) (q z : Nat) (m ra rb : Int) (hy : l.getD k (dfl AskK) = (4, (q : Int), m, ra, rb)) (hq : q < n) (hr : r q = 0) (hf : Tri En 14 [.int .i64 q] [] (opA z 0) []) (ha : TAp true c n f z 0 (opA 0 0) f) (nx : Goods (gKs c l) (ksAt c l n f o r k)) : Goods (gKs c l) (ksSt c l n f o r k) := by
  have s1 := hc.s1
  have l3 := hW_len n f
  have l1 := uW_len n r
  have eg : (uW n r).getD (l.getD k (dfl AskK)).2.1.toNat 0 = ((0 : Nat) : Int) := by rw [hy]; show (uW n r).getD q 0 = _; rw [uW_get hq, hr]
  have g1 : decide ((uW n r).getD (l.getD k (dfl AskK)).2.1.toNat 0 > 0) = false := by rw [eg]; rfl
  clear eg
  unfold ksAt ksOs at nx
  unfold ksSt ksOs
  generalize uW n r = O1 at *
  refine Goods.to 2000 [.b true, .b false, .b false, .b false, .b true, .k 190 (.of hf), .k 191 (.of ha), .s 194 (some false) true true, .s 196 (some true) true true, .s 201 (some true) true true, .s 208 (some false) true true, .b false, .upto 43] mixed (nx) (by kernel_rfl) ?_
  show Yes _
  repeat' apply And.intro
  all_goals try exact g1
  (all_goals first | rfl | assumption | trivial | omega | (simp [-List.getD_eq_getElem?_getD, hy] <;> omega) | (simp (disch := omega) only [w64, wu64] <;> omega) | (simp (disch := omega) [-List.getD_eq_getElem?_getD, List.getD_cons_zero, List.getD_cons_succ, kCast_self, dfl_pair, dfl_int, w64, wu64, hy] <;> omega) | (rw [Bool.eq_iff_iff]; simp (disch := omega) [-List.getD_eq_getElem?_getD, List.getD_cons_zero, List.getD_cons_succ, kCast_self, dfl_pair, dfl_int, w64, wu64, hy] <;> omega) | (simp_all [-List.getD_eq_getElem?_getD] <;> omega))
set_option maxHeartbeats 4000000 in
theorem ks4_yes (c : Cnf) (hc : c.Ok) (l : List AskT) (n : Nat) (hn : (n : Int) = c.s) (f f' : SupF) (o r : Nat → Nat) (k : Nat) (hk : k < l.length) (q z : Nat) (m ra rb : Int) (hy : l.getD k (dfl AskK) = (4, (q : Int), m, ra, rb)) (hq : q < n) (hr : 0 < r q) (hf : Tri En 14 [.int .i64 q] [] (opA z 0) []) (ha : TAp true c n f z 0 (opA 1 0) f') (nx : Goods (gKs c l) (ksAt c l n f' o (updN r q 0) k)) : Goods (gKs c l) (ksSt c l n f o r k) := by
  have s1 := hc.s1
  have l3 := hW_len n f
  have l4 := hW_len n f'
  have l1 := uW_len n r
  have eg : (uW n r).getD (l.getD k (dfl AskK)).2.1.toNat 0 = (r q : Int) := by rw [hy]; exact uW_get hq
  have g1 : decide ((uW n r).getD (l.getD k (dfl AskK)).2.1.toNat 0 > 0) = true := by rw [eg]; exact decide_eq_true (by omega)
  have g2 : (uW n r).set (l.getD k (dfl AskK)).2.1.toNat 0 = uW n (updN r q 0) := by rw [hy]; exact uW_set n r q 0
  have l5 := uW_len n (updN r q 0)
  clear eg
  unfold TAp at ha
  unfold ksAt ksOs at nx
  unfold ksSt ksOs
  generalize uW n (updN r q 0) = O2 at *
  generalize uW n r = O1 at *
  generalize hW n f' = W2 at *
  refine Goods.to 2000 [.b true, .b false, .b false, .b false, .b true, .k 190 (.of hf), .k 191 (.of ha), .s 194 (some true) true true, .s 196 (some true) true true, .s 201 (some true) true true, .s 208 (some true) true true, .b true, .upto 43] mixed (nx) (by kernel_rfl) ?_
  show Yes _
  repeat' apply And.intro
  all_goals try first | exact g1 | exact g2
  (all_goals first | rfl | assumption | trivial | omega | (simp [-List.getD_eq_getElem?_getD, hy] <;> omega) | (simp (disch := omega) only [w64, wu64] <;> omega) | (simp (disch := omega) [-List.getD_eq_getElem?_getD, List.getD_cons_zero, List.getD_cons_succ, kCast_self, dfl_pair, dfl_int, w64, wu64, hy] <;> omega) | (rw [Bool.eq_iff_iff]; simp (disch := omega) [-List.getD_eq_getElem?_getD, List.getD_cons_zero, List.getD_cons_succ, kCast_self, dfl_pair, dfl_int, w64, wu64, hy] <;> omega) | (simp_all [-List.getD_eq_getElem?_getD] <;> omega))
end Go.Proofs.YtdnhnglhdabkgaaDoor.E
