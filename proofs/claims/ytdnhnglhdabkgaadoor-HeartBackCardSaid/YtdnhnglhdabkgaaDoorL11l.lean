/- HeartKeeps: the script's steps: blocks, and runs, that are answered. -/
import Derived.Test.YtdnhnglhdabkgaaDoorL11k
namespace Go.Proofs.YtdnhnglhdabkgaaDoor.E
set_option linter.unusedSimpArgs false
set_option linter.unusedVariables false
open Go
set_option maxRecDepth 100000

def hcelk (j : Nat) (c : Cnf) : AObj := .cells [.int .i64 c.w, .int .i64 c.s, .int .i64 c.b, .int .i64 c.t, .slice j 0 c.cl.length]
noncomputable abbrev gKs (c : Cnf) (l : List AskT) : Frm := ⟨En, 7, Tryd.f7.ntmps, [.tab false (.int .i64) c.cl, .tab false AskK l], .bl true, gones 2⟩
def ksTm (l : List AskT) (n k : Nat) : Tm := [(2, .ptr 2 0 0), (5, .ptr 3 0 0), (6, .slice 4 0 (2 * n)), (7, .slice 5 0 n), (8, .slice 6 0 n), (41, .slice 1 0 l.length), (42, .int .i64 l.length), (43, .int .i64 k)]
def ksOs (c : Cnf) (l : List AskT) (n : Nat) (f : SupF) (o r : Nat → Nat) : List AObj := [.tab false (.int .i64) c.cl, .tab false AskK l, cnfD c, hcelk 7 c, .tab true (.int .u64) (hW n f), .tab true (.int .u64) (uW n o), .tab true (.int .i64) (uW n r), .tab true (.int .i64) c.cl]
noncomputable abbrev ksSt (c : Cnf) (l : List AskT) (n : Nat) (f : SupF) (o r : Nat → Nat) (k : Nat) : Cfg := ⟨.none, lp Tryd.f7 0, ksTm l n k, hp (ksOs c l n f o r)⟩
noncomputable abbrev ksAt (c : Cnf) (l : List AskT) (n : Nat) (f : SupF) (o r : Nat → Nat) (k : Nat) : Cfg := ⟨.none, rg Tryd.f7 43, ksTm l n k, hp (ksOs c l n f o r)⟩
theorem ks_last (c : Cnf) (l : List AskT) (n : Nat) (f : SupF) (o r : Nat → Nat) : Goods (gKs c l) (ksSt c l n f o r l.length) := by
  refine Goods.fin 2000 [.b false] mixed Tryd.func7 ?_
  show Yes _
  repeat' apply And.intro
  (all_goals first | rfl | assumption | trivial | omega | (simp [-List.getD_eq_getElem?_getD] <;> omega) | (simp (disch := omega) only [w64, wu64] <;> omega) | (simp (disch := omega) [-List.getD_eq_getElem?_getD, List.getD_cons_zero, List.getD_cons_succ, kCast_self, dfl_pair, dfl_int, w64, wu64] <;> omega) | (rw [Bool.eq_iff_iff]; simp (disch := omega) [-List.getD_eq_getElem?_getD, List.getD_cons_zero, List.getD_cons_succ, kCast_self, dfl_pair, dfl_int, w64, wu64] <;> omega) | (simp_all [-List.getD_eq_getElem?_getD] <;> omega))
theorem ks_rest (c : Cnf) (hc : c.Ok) (l : List AskT) (hll : l.length ≤ 100) (n : Nat) (hn : (n : Int) = c.s) (f : SupF) (o r : Nat → Nat) (hK : KInv c n f o r) (k : Nat) (hk : k < l.length) (ih : Goods (gKs c l) (ksSt c l n f o r (k + 1))) : Goods (gKs c l) (ksAt c l n f o r k) := by
  have wh := whole_tri false c hc n hn f o r hK
  have l1 := uW_len n o
  have l2 := uW_len n r
  have l3 := hW_len n f
  refine Goods.to 2000 [.c (.of wh), .l, .stop] mixed (ih) (by kernel_rfl) ?_
  show Yes _
  repeat' apply And.intro
  (all_goals first | rfl | assumption | trivial | omega | (simp [-List.getD_eq_getElem?_getD] <;> omega) | (simp (disch := omega) only [w64, wu64] <;> omega) | (simp (disch := omega) [-List.getD_eq_getElem?_getD, List.getD_cons_zero, List.getD_cons_succ, kCast_self, dfl_pair, dfl_int, w64, wu64] <;> omega) | (rw [Bool.eq_iff_iff]; simp (disch := omega) [-List.getD_eq_getElem?_getD, List.getD_cons_zero, List.getD_cons_succ, kCast_self, dfl_pair, dfl_int, w64, wu64] <;> omega) | (simp_all [-List.getD_eq_getElem?_getD] <;> omega))

set_option maxHeartbeats 4000000 in
theorem ks1_no (c : Cnf) (hc : c.Ok) (l : List AskT) (n : Nat) (hn : n ≤ 64) (f : SupF) (o r : Nat → Nat) (k : Nat) (hk : k < l.length) (q m ra rb : Int) (z : Nat) (hy : l.getD k (dfl AskK) = (1, q, m, ra, rb)) (h1 : Tri En 18 [.int .i64 q] [] (opA z 0) []) (ha : TAp true c n f z 0 (opA 0 0) f) (nx : Goods (gKs c l) (ksAt c l n f o r k)) : Goods (gKs c l) (ksSt c l n f o r k) := by
  have l3 := hW_len n f
  refine Goods.to 2000 [.b true, .b true, .k 55 (.of h1), .k 56 (.of ha), .b false, .upto 43] mixed (nx) (by kernel_rfl) ?_
  show Yes _
  repeat' apply And.intro
  (all_goals first | rfl | assumption | trivial | omega | (simp [-List.getD_eq_getElem?_getD, hy] <;> omega) | (simp (disch := omega) only [w64, wu64] <;> omega) | (simp (disch := omega) [-List.getD_eq_getElem?_getD, List.getD_cons_zero, List.getD_cons_succ, kCast_self, dfl_pair, dfl_int, w64, wu64, hy] <;> omega) | (rw [Bool.eq_iff_iff]; simp (disch := omega) [-List.getD_eq_getElem?_getD, List.getD_cons_zero, List.getD_cons_succ, kCast_self, dfl_pair, dfl_int, w64, wu64, hy] <;> omega) | (simp_all [-List.getD_eq_getElem?_getD] <;> omega))
theorem ix_of {i : Nat} (h : i < 64) : IntKind.i64.wrap (IntKind.i64.wrap ((i + 1 : Nat) : Int) - 1) = (i : Int) := by
  rw [w64 (x := ((i + 1 : Nat) : Int)) (by omega) (by omega), w64 (by omega) (by omega)]; omega
set_option maxHeartbeats 4000000 in
theorem ks1_yes (c : Cnf) (hc : c.Ok) (l : List AskT) (n : Nat) (hn : (n : Int) = c.s) (f f' : SupF) (o r : Nat → Nat) (k : Nat) (hk : k < l.length) (q m ra rb : Int) (z : Nat) (hy : l.getD k (dfl AskK) = (1, q, m, ra, rb)) (i y : Nat) (hi : i < n) (hy1 : y < 18446744073709551616) (hy0 : y ≠ 0) (hoi : o i < 18446744073709551616) (hand : o i &&& y = 0) (hcnt : ((bitsL y).length : Int) ≤ c.b) (h1 : Tri En 18 [.int .i64 q] [] (opA z 0) []) (ha : TAp true c n f z 0 (opA (i + 1) y) f') (nx : Goods (gKs c l) (ksAt c l n f' (updN o i (o i ||| y)) r k)) : Goods (gKs c l) (ksSt c l n f o r k) := by
  have s1 := hc.s1
  have hct := count_tri y hy1
  have l1 := uW_len n o
  have l3 := hW_len n f
  have l4 := hW_len n f'
  have ex := ix_of (i := i) (by omega)
  have exn : (IntKind.i64.wrap (IntKind.i64.wrap ((i + 1 : Nat) : Int) - 1)).toNat = i := by rw [ex]; omega
  have e1 := and_eq (o i) y hoi hy1
  have e2 := or_eq (o i) y hoi hy1
  rw [hand] at e1
  have eg : (uW n o).getD (IntKind.i64.wrap (IntKind.i64.wrap ((i + 1 : Nat) : Int) - 1)).toNat 0 = (o i : Int) := by rw [exn]; exact uW_get hi
  have g1 : (IntKind.u64.wrap (BitVec.ofInt IntKind.u64.bits ((uW n o).getD (IntKind.i64.wrap (IntKind.i64.wrap ((i + 1 : Nat) : Int) - 1)).toNat 0) &&& BitVec.ofInt IntKind.u64.bits (y : Int)).toNat != 0) = false := by rw [eg, e1]; rfl
  have g2 : (uW n o).set (IntKind.i64.wrap (IntKind.i64.wrap ((i + 1 : Nat) : Int) - 1)).toNat (IntKind.u64.wrap (BitVec.ofInt IntKind.u64.bits ((uW n o).getD (IntKind.i64.wrap (IntKind.i64.wrap ((i + 1 : Nat) : Int) - 1)).toNat 0) ||| BitVec.ofInt IntKind.u64.bits (y : Int)).toNat) = uW n (updN o i (o i ||| y)) := by rw [eg, e2, exn, uW_set]
  have l5 := uW_len n (updN o i (o i ||| y))
  clear e1 e2 eg hand
  unfold TAp at ha
  unfold ksAt ksOs at nx
  unfold ksSt ksOs
  generalize uW n (updN o i (o i ||| y)) = O2 at *
  generalize uW n o = O1 at *
  generalize hW n f' = W2 at *
  refine Goods.to 2000 [.b true, .b true, .k 55 (.of h1), .k 56 (.of ha), .b true, .s 66 (some false) true true, .s 70 (some false) true true, .s 80 (some false) true true, .k 85 (.of hct), .s 88 (some false) true true, .upto 43] mixed (nx) (by kernel_rfl) ?_
  show Yes _
  repeat' apply And.intro
  all_goals try first | exact g1 | exact g2
  (all_goals first | rfl | assumption | trivial | omega | (simp [-List.getD_eq_getElem?_getD, hy, ex] <;> omega) | (simp (disch := omega) only [w64, wu64] <;> omega) | (simp (disch := omega) [-List.getD_eq_getElem?_getD, List.getD_cons_zero, List.getD_cons_succ, kCast_self, dfl_pair, dfl_int, w64, wu64, hy, ex] <;> omega) | (rw [Bool.eq_iff_iff]; simp (disch := omega) [-List.getD_eq_getElem?_getD, List.getD_cons_zero, List.getD_cons_succ, kCast_self, dfl_pair, dfl_int, w64, wu64, hy, ex] <;> omega) | (simp_all [-List.getD_eq_getElem?_getD] <;> omega))
set_option maxHeartbeats 4000000 in
theorem ks3_no (c : Cnf) (hc : c.Ok) (l : List AskT) (n : Nat) (hn : n ≤ 64) (f : SupF) (o r : Nat → Nat) (k : Nat) (hk : k < l.length) (q m ra rb : Int) (z : Nat) (hy : l.getD k (dfl AskK) = (3, q, m, ra, rb)) (h1 : Tri En 13 [.int .i64 q] [] (opA z 0) []) (ha : TAp true c n f z 0 (opA 0 0) f) (nx : Goods (gKs c l) (ksAt c l n f o r k)) : Goods (gKs c l) (ksSt c l n f o r k) := by
  have l3 := hW_len n f
  refine Goods.to 2000 [.b true, .b false, .b false, .b true, .k 156 (.of h1), .k 157 (.of ha), .b false, .upto 43] mixed (nx) (by kernel_rfl) ?_
  show Yes _
  repeat' apply And.intro
  (all_goals first | rfl | assumption | trivial | omega | (simp [-List.getD_eq_getElem?_getD, hy] <;> omega) | (simp (disch := omega) only [w64, wu64] <;> omega) | (simp (disch := omega) [-List.getD_eq_getElem?_getD, List.getD_cons_zero, List.getD_cons_succ, kCast_self, dfl_pair, dfl_int, w64, wu64, hy] <;> omega) | (rw [Bool.eq_iff_iff]; simp (disch := omega) [-List.getD_eq_getElem?_getD, List.getD_cons_zero, List.getD_cons_succ, kCast_self, dfl_pair, dfl_int, w64, wu64, hy] <;> omega) | (simp_all [-List.getD_eq_getElem?_getD] <;> omega))
set_option maxHeartbeats 4000000 in
theorem ks3_yes (c : Cnf) (hc : c.Ok) (l : List AskT) (n : Nat) (hn : (n : Int) = c.s) (f f' : SupF) (o r : Nat → Nat) (k : Nat) (hk : k < l.length) (q : Nat) (m ra rb : Int) (z : Nat) (hy : l.getD k (dfl AskK) = (3, (q : Int), m, ra, rb)) (i : Nat) (hi : i < n) (hq : i + q ≤ n) (hri : r i = 0) (h1 : Tri En 13 [.int .i64 q] [] (opA z 0) []) (ha : TAp true c n f z 0 (opA (i + 1) 0) f') (nx : Goods (gKs c l) (ksAt c l n f' o (updN r i q) k)) : Goods (gKs c l) (ksSt c l n f o r k) := by
  have s1 := hc.s1
  have l1 := uW_len n r
  have l3 := hW_len n f
  have l4 := hW_len n f'
  have ex := ix_of (i := i) (by omega)
  have exn : (IntKind.i64.wrap (IntKind.i64.wrap ((i + 1 : Nat) : Int) - 1)).toNat = i := by rw [ex]; omega
  have eg : (uW n r).getD (IntKind.i64.wrap (IntKind.i64.wrap ((i + 1 : Nat) : Int) - 1)).toNat 0 = ((0 : Nat) : Int) := by rw [exn, uW_get hi, hri]
  have g1 : ((uW n r).getD (IntKind.i64.wrap (IntKind.i64.wrap ((i + 1 : Nat) : Int) - 1)).toNat 0 != 0) = false := by rw [eg]; rfl
  have g2 : (uW n r).set (IntKind.i64.wrap (IntKind.i64.wrap ((i + 1 : Nat) : Int) - 1)).toNat (l.getD k (dfl AskK)).2.1 = uW n (updN r i q) := by rw [hy, exn]; exact uW_set n r i q
  have g3 : decide (IntKind.i64.wrap (IntKind.i64.wrap (IntKind.i64.wrap ((i + 1 : Nat) : Int) - 1) + (l.getD k (dfl AskK)).2.1) > c.s) = false := by
    rw [hy, ex]; exact decide_eq_false (by simp only; rw [w64 (by omega) (by omega)]; omega)
  have l5 := uW_len n (updN r i q)
  clear eg
  unfold TAp at ha
  unfold ksAt ksOs at nx
  unfold ksSt ksOs
  generalize uW n (updN r i q) = O2 at *
  generalize uW n r = O1 at *
  generalize hW n f' = W2 at *
  refine Goods.to 2000 [.b true, .b false, .b false, .b true, .k 156 (.of h1), .k 157 (.of ha), .b true, .s 170 (some false) true true, .s 176 (some false) true true, .upto 43] mixed (nx) (by kernel_rfl) ?_
  show Yes _
  repeat' apply And.intro
  all_goals try first | exact g1 | exact g2 | exact g3
  (all_goals first | rfl | assumption | trivial | omega | (simp [-List.getD_eq_getElem?_getD, hy, ex] <;> omega) | (simp (disch := omega) only [w64, wu64] <;> omega) | (simp (disch := omega) [-List.getD_eq_getElem?_getD, List.getD_cons_zero, List.getD_cons_succ, kCast_self, dfl_pair, dfl_int, w64, wu64, hy, ex] <;> omega) | (rw [Bool.eq_iff_iff]; simp (disch := omega) [-List.getD_eq_getElem?_getD, List.getD_cons_zero, List.getD_cons_succ, kCast_self, dfl_pair, dfl_int, w64, wu64, hy, ex] <;> omega) | (simp_all [-List.getD_eq_getElem?_getD] <;> omega))
set_option maxHeartbeats 4000000 in
theorem ks_odd (c : Cnf) (hc : c.Ok) (l : List AskT) (n : Nat) (f : SupF) (o r : Nat → Nat) (k : Nat) (hk : k < l.length) (kd q m ra rb : Int) (hy : l.getD k (dfl AskK) = (kd, q, m, ra, rb)) (k1 : kd ≠ 1) (k2 : kd ≠ 2) (k3 : kd ≠ 3) (k4 : kd ≠ 4) (nx : Goods (gKs c l) (ksAt c l n f o r k)) : Goods (gKs c l) (ksSt c l n f o r k) := by
  refine Goods.to 2000 [.b true, .b false, .b false, .b false, .b false, .upto 43] mixed (nx) (by kernel_rfl) ?_
  show Yes _
  repeat' apply And.intro
  (all_goals first | rfl | assumption | trivial | omega | (simp [-List.getD_eq_getElem?_getD, hy, k1, k2, k3, k4] <;> omega) | (simp (disch := omega) only [w64, wu64] <;> omega) | (simp (disch := omega) [-List.getD_eq_getElem?_getD, List.getD_cons_zero, List.getD_cons_succ, kCast_self, dfl_pair, dfl_int, w64, wu64, hy, k1, k2, k3, k4] <;> omega) | (rw [Bool.eq_iff_iff]; simp (disch := omega) [-List.getD_eq_getElem?_getD, List.getD_cons_zero, List.getD_cons_succ, kCast_self, dfl_pair, dfl_int, w64, wu64, hy, k1, k2, k3, k4] <;> omega) | (simp_all [-List.getD_eq_getElem?_getD] <;> omega))
end Go.Proofs.YtdnhnglhdabkgaaDoor.E
