/- HeartKeeps: the script's steps: blocks, and runs, that come back. -/
import Derived.Test.YtdnhnglhdabkgaaDoorL11l
namespace Go.Proofs.YtdnhnglhdabkgaaDoor.E
set_option linter.unusedSimpArgs false
set_option linter.unusedVariables false
open Go
set_option maxRecDepth 100000

set_option maxHeartbeats 4000000 in
theorem ks2_outa (c : Cnf) (hc : c.Ok) (l : List AskT) (n : Nat) (hn : (n : Int) = c.s) (f : SupF) (o r : Nat → Nat) (k : Nat) (hk : k < l.length) (q ra rb : Int) (m z zb : Nat) (hy : l.getD k (dfl AskK) = (2, q, (m : Int), ra, rb)) (h0 : ¬ 0 ≤ q) (hf : Tri En 21 [.int .i64 q, .int .u64 m] [] (opA z zb) []) (ha : TAp true c n f z zb (opA 0 0) f) (nx : Goods (gKs c l) (ksAt c l n f o r k)) : Goods (gKs c l) (ksSt c l n f o r k) := by
  have l3 := hW_len n f
  refine Goods.to 2000 [.b true, .b false, .b true, .s 105 (some false) true true, .k 122 (.of hf), .k 123 (.of ha), .s 126 (some false) true true, .s 128 (some false) true true, .b false, .upto 43] mixed (nx) (by kernel_rfl) ?_
  show Yes _
  repeat' apply And.intro
  (all_goals first | rfl | assumption | trivial | omega | (simp [-List.getD_eq_getElem?_getD, hy] <;> omega) | (simp (disch := omega) only [w64, wu64] <;> omega) | (simp (disch := omega) [-List.getD_eq_getElem?_getD, List.getD_cons_zero, List.getD_cons_succ, kCast_self, dfl_pair, dfl_int, w64, wu64, hy] <;> omega) | (rw [Bool.eq_iff_iff]; simp (disch := omega) [-List.getD_eq_getElem?_getD, List.getD_cons_zero, List.getD_cons_succ, kCast_self, dfl_pair, dfl_int, w64, wu64, hy] <;> omega) | (simp_all [-List.getD_eq_getElem?_getD] <;> omega))
set_option maxHeartbeats 4000000 in
theorem ks2_outb (c : Cnf) (hc : c.Ok) (l : List AskT) (n : Nat) (hn : (n : Int) = c.s) (f : SupF) (o r : Nat → Nat) (k : Nat) (hk : k < l.length) (q ra rb : Int) (m z zb : Nat) (hy : l.getD k (dfl AskK) = (2, q, (m : Int), ra, rb)) (h0 : 0 ≤ q) (h1 : ¬ q < n) (hf : Tri En 21 [.int .i64 q, .int .u64 m] [] (opA z zb) []) (ha : TAp true c n f z zb (opA 0 0) f) (nx : Goods (gKs c l) (ksAt c l n f o r k)) : Goods (gKs c l) (ksSt c l n f o r k) := by
  have l3 := hW_len n f
  refine Goods.to 2000 [.b true, .b false, .b true, .s 105 (some true) true true, .s 110 (some false) true true, .k 122 (.of hf), .k 123 (.of ha), .s 126 (some false) true true, .s 128 (some true) true true, .s 133 (some false) true true, .b false, .upto 43] mixed (nx) (by kernel_rfl) ?_
  show Yes _
  repeat' apply And.intro
  (all_goals first | rfl | assumption | trivial | omega | (simp [-List.getD_eq_getElem?_getD, hy] <;> omega) | (simp (disch := omega) only [w64, wu64] <;> omega) | (simp (disch := omega) [-List.getD_eq_getElem?_getD, List.getD_cons_zero, List.getD_cons_succ, kCast_self, dfl_pair, dfl_int, w64, wu64, hy] <;> omega) | (rw [Bool.eq_iff_iff]; simp (disch := omega) [-List.getD_eq_getElem?_getD, List.getD_cons_zero, List.getD_cons_succ, kCast_self, dfl_pair, dfl_int, w64, wu64, hy] <;> omega) | (simp_all [-List.getD_eq_getElem?_getD] <;> omega))
set_option maxHeartbeats 4000000 in
theorem ks2_no (c : Cnf) (hc : c.Ok) (l : List AskT) (n : Nat) (hn : (n : Int) = c.s) (f : SupF) (o r : Nat → Nat) (k : Nat) (hk : k < l.length) (q m z zb : Nat) (ra rb : Int) (hy : l.getD k (dfl AskK) = (2, (q : Int), (m : Int), ra, rb)) (hq : q < n) (hm : m < 18446744073709551616) (hoq : o q < 18446744073709551616) (hz0 : m &&& o q = 0) (hf : Tri En 21 [.int .i64 q, .int .u64 ((0 : Nat) : Int)] [] (opA z zb) []) (ha : TAp true c n f z zb (opA 0 0) f) (nx : Goods (gKs c l) (ksAt c l n f o r k)) : Goods (gKs c l) (ksSt c l n f o r k) := by
  have s1 := hc.s1
  have l3 := hW_len n f
  have l1 := uW_len n o
  have e1 := and_eq m (o q) hm hoq
  rw [hz0] at e1
  have eg : (uW n o).getD (l.getD k (dfl AskK)).2.1.toNat 0 = (o q : Int) := by rw [hy]; exact uW_get hq
  have e0 : (l.getD k (dfl AskK)).2.2.1 = (m : Int) := by rw [hy]
  have g1 : IntKind.u64.wrap (BitVec.ofInt IntKind.u64.bits (l.getD k (dfl AskK)).2.2.1 &&& BitVec.ofInt IntKind.u64.bits ((uW n o).getD (l.getD k (dfl AskK)).2.1.toNat 0)).toNat = ((0 : Nat) : Int) := by rw [eg, e0, e1]
  have g2 : (IntKind.u64.wrap (BitVec.ofInt IntKind.u64.bits (l.getD k (dfl AskK)).2.2.1 &&& BitVec.ofInt IntKind.u64.bits ((uW n o).getD (l.getD k (dfl AskK)).2.1.toNat 0)).toNat != 0) = false := by rw [g1]; rfl
  clear e1 eg
  unfold ksAt ksOs at nx
  unfold ksSt ksOs
  generalize uW n o = O1 at *
  refine Goods.to 2000 [.b true, .b false, .b true, .s 105 (some true) true true, .s 110 (some true) true true, .k 122 (.of hf), .k 123 (.of ha), .s 126 (some false) true true, .s 128 (some true) true true, .s 133 (some true) true true, .s 137 (some false) true true, .b false, .upto 43] mixed (nx) (by kernel_rfl) ?_
  show Yes _
  repeat' apply And.intro
  all_goals try first | exact g1 | exact g2
  (all_goals first | rfl | assumption | trivial | omega | (simp [-List.getD_eq_getElem?_getD, hy] <;> omega) | (simp (disch := omega) only [w64, wu64] <;> omega) | (simp (disch := omega) [-List.getD_eq_getElem?_getD, List.getD_cons_zero, List.getD_cons_succ, kCast_self, dfl_pair, dfl_int, w64, wu64, hy] <;> omega) | (rw [Bool.eq_iff_iff]; simp (disch := omega) [-List.getD_eq_getElem?_getD, List.getD_cons_zero, List.getD_cons_succ, kCast_self, dfl_pair, dfl_int, w64, wu64, hy] <;> omega) | (simp_all [-List.getD_eq_getElem?_getD] <;> omega))
set_option maxHeartbeats 4000000 in
theorem ks2_yes (c : Cnf) (hc : c.Ok) (l : List AskT) (n : Nat) (hn : (n : Int) = c.s) (f f' : SupF) (o r : Nat → Nat) (k : Nat) (hk : k < l.length) (q m y z zb : Nat) (ra rb : Int) (hy : l.getD k (dfl AskK) = (2, (q : Int), (m : Int), ra, rb)) (hq : q < n) (hm : m < 18446744073709551616) (hoq : o q < 18446744073709551616) (hzy : m &&& o q = y) (hy0 : y ≠ 0) (hf : Tri En 21 [.int .i64 q, .int .u64 y] [] (opA z zb) []) (ha : TAp true c n f z zb (opA 1 0) f') (nx : Goods (gKs c l) (ksAt c l n f' (updN o q (andNotN (o q) y)) r k)) : Goods (gKs c l) (ksSt c l n f o r k) := by
  have s1 := hc.s1
  have l3 := hW_len n f
  have l4 := hW_len n f'
  have l1 := uW_len n o
  have e1 := and_eq m (o q) hm hoq
  rw [hzy] at e1
  have e2 := andNot_eq (o q) y
  have eg : (uW n o).getD (l.getD k (dfl AskK)).2.1.toNat 0 = (o q : Int) := by rw [hy]; exact uW_get hq
  have e0 : (l.getD k (dfl AskK)).2.2.1 = (m : Int) := by rw [hy]
  have g1 : IntKind.u64.wrap (BitVec.ofInt IntKind.u64.bits (l.getD k (dfl AskK)).2.2.1 &&& BitVec.ofInt IntKind.u64.bits ((uW n o).getD (l.getD k (dfl AskK)).2.1.toNat 0)).toNat = (y : Int) := by rw [eg, e0, e1]
  have g2 : (IntKind.u64.wrap (BitVec.ofInt IntKind.u64.bits (l.getD k (dfl AskK)).2.2.1 &&& BitVec.ofInt IntKind.u64.bits ((uW n o).getD (l.getD k (dfl AskK)).2.1.toNat 0)).toNat != 0) = true := by rw [g1]; simp; omega
  have g3 : (uW n o).set (l.getD k (dfl AskK)).2.1.toNat (IntKind.u64.wrap (BitVec.ofInt IntKind.u64.bits ((uW n o).getD (l.getD k (dfl AskK)).2.1.toNat 0) &&& ~~~ BitVec.ofInt IntKind.u64.bits (IntKind.u64.wrap (BitVec.ofInt IntKind.u64.bits (l.getD k (dfl AskK)).2.2.1 &&& BitVec.ofInt IntKind.u64.bits ((uW n o).getD (l.getD k (dfl AskK)).2.1.toNat 0)).toNat)).toNat) = uW n (updN o q (andNotN (o q) y)) := by
    rw [g1, eg, e2, hy]; exact uW_set n o q _
  have l5 := uW_len n (updN o q (andNotN (o q) y))
  clear e1 eg e2
  unfold TAp at ha
  unfold ksAt ksOs at nx
  unfold ksSt ksOs
  generalize uW n (updN o q (andNotN (o q) y)) = O2 at *
  generalize uW n o = O1 at *
  generalize hW n f' = W2 at *
  refine Goods.to 2000 [.b true, .b false, .b true, .s 105 (some true) true true, .s 110 (some true) true true, .k 122 (.of hf), .k 123 (.of ha), .s 126 (some true) true true, .s 128 (some true) true true, .s 133 (some true) true true, .s 137 (some true) true true, .b true, .upto 43] mixed (nx) (by kernel_rfl) ?_
  show Yes _
  repeat' apply And.intro
  all_goals try first | exact g1 | exact g2 | exact g3
  (all_goals first | rfl | assumption | trivial | omega | (simp [-List.getD_eq_getElem?_getD, hy] <;> omega) | (simp (disch := omega) only [w64, wu64] <;> omega) | (simp (disch := omega) [-List.getD_eq_getElem?_getD, List.getD_cons_zero, List.getD_cons_succ, kCast_self, dfl_pair, dfl_int, w64, wu64, hy] <;> omega) | (rw [Bool.eq_iff_iff]; simp (disch := omega) [-List.getD_eq_getElem?_getD, List.getD_cons_zero, List.getD_cons_succ, kCast_self, dfl_pair, dfl_int, w64, wu64, hy] <;> omega) | (simp_all [-List.getD_eq_getElem?_getD] <;> omega))
end Go.Proofs.YtdnhnglhdabkgaaDoor.E
