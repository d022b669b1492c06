/- The document's superblocks: Flush. -/
import Derived.Test.YtdnhnglhdabkgaaDoorPreflb
namespace Go.Proofs.YtdnhnglhdabkgaaDoor.E
set_option linter.unusedSimpArgs false
set_option linter.unusedVariables false
open Go
set_option maxRecDepth 100000

abbrev TRf (own : Bool) (c : Cnf) (n : Nat) (f : SupF) (i : Int) (m : Nat) (v : AV) (os : List AObj) : Prop := Tri En 34 [cnfA 0 c, .slice 1 0 n, .int .i64 i, .int .u64 m] [.tab own (.int .i64) c.cl, rlT n f] v os
abbrev oldR (n : Nat) : AV := .tuple [.slice 1 0 n, opA 0 0]
theorem rflush_out (own : Bool) (c : Cnf) (n : Nat) (hn : n ≤ 64) (f : SupF) (i : Int) (m : Nat) (hi : ¬ (0 ≤ i ∧ i < n)) : TRf own c n f i m (oldR n) [.tab own (.int .i64) c.cl, rlT n f] := by
  have hl := rL_len n f
  refine Tri.of Tryd.func34 rfl Tryd.call34 rfl ?_
  by_cases h0 : i < 0
  · refine Goods.fin 2000 [.s 13 (some true) true true] mixed Tryd.func34 ?_
    show Yes _
    repeat' apply And.intro
    (all_goals first | rfl | assumption | trivial | omega | (simp [-List.getD_eq_getElem?_getD] <;> omega) | (simp (disch := omega) only [w64, wu64] <;> omega) | (simp (disch := omega) [-List.getD_eq_getElem?_getD, List.getD_cons_zero, List.getD_cons_succ, kCast_self, dfl_pair, dfl_int, w64, wu64] <;> omega) | (rw [Bool.eq_iff_iff]; simp (disch := omega) [-List.getD_eq_getElem?_getD, List.getD_cons_zero, List.getD_cons_succ, kCast_self, dfl_pair, dfl_int, w64, wu64] <;> omega) | (simp_all [-List.getD_eq_getElem?_getD] <;> omega))
  · refine Goods.fin 2000 [.s 13 (some false) true true, .s 18 (some true) true true] mixed Tryd.func34 ?_
    show Yes _
    repeat' apply And.intro
    (all_goals first | rfl | assumption | trivial | omega | (simp [-List.getD_eq_getElem?_getD] <;> omega) | (simp (disch := omega) only [w64, wu64] <;> omega) | (simp (disch := omega) [-List.getD_eq_getElem?_getD, List.getD_cons_zero, List.getD_cons_succ, kCast_self, dfl_pair, dfl_int, w64, wu64] <;> omega) | (rw [Bool.eq_iff_iff]; simp (disch := omega) [-List.getD_eq_getElem?_getD, List.getD_cons_zero, List.getD_cons_succ, kCast_self, dfl_pair, dfl_int, w64, wu64] <;> omega) | (simp_all [-List.getD_eq_getElem?_getD] <;> omega))
theorem rflush_kind (own : Bool) (c : Cnf) (n : Nat) (hn : n ≤ 64) (f : SupF) (i m kd a b : Nat) (hi : i < n) (hy : (rL n f).getD i (dfl SupK) = ((kd : Int), (a : Int), (b : Int))) (hk : kd ≠ 1) : TRf own c n f i m (oldR n) [.tab own (.int .i64) c.cl, rlT n f] := by
  have hl := rL_len n f
  refine Tri.of Tryd.func34 rfl Tryd.call34 rfl ?_
  refine Goods.fin 2000 [.s 13 (some false) true true, .s 18 (some false) true true, .s 26 (some true) true true] mixed Tryd.func34 ?_
  show Yes _
  repeat' apply And.intro
  (all_goals first | rfl | assumption | trivial | omega | (simp [-List.getD_eq_getElem?_getD, hy] <;> omega) | (simp (disch := omega) only [w64, wu64] <;> omega) | (simp (disch := omega) [-List.getD_eq_getElem?_getD, List.getD_cons_zero, List.getD_cons_succ, kCast_self, dfl_pair, dfl_int, w64, wu64, hy] <;> omega) | (rw [Bool.eq_iff_iff]; simp (disch := omega) [-List.getD_eq_getElem?_getD, List.getD_cons_zero, List.getD_cons_succ, kCast_self, dfl_pair, dfl_int, w64, wu64, hy] <;> omega) | (simp_all [-List.getD_eq_getElem?_getD] <;> omega))
theorem rflush_zero (own : Bool) (c : Cnf) (n : Nat) (hn : n ≤ 64) (f : SupF) (i a b : Nat) (hi : i < n) (hy : (rL n f).getD i (dfl SupK) = (((1 : Nat) : Int), (a : Int), (b : Int))) : TRf own c n f i 0 (oldR n) [.tab own (.int .i64) c.cl, rlT n f] := by
  have hl := rL_len n f
  refine Tri.of Tryd.func34 rfl Tryd.call34 rfl ?_
  refine Goods.fin 2000 [.s 13 (some false) true true, .s 18 (some false) true true, .s 26 (some false) true true, .s 30 (some true) true true] mixed Tryd.func34 ?_
  show Yes _
  repeat' apply And.intro
  (all_goals first | rfl | assumption | trivial | omega | (simp [-List.getD_eq_getElem?_getD, hy] <;> omega) | (simp (disch := omega) only [w64, wu64] <;> omega) | (simp (disch := omega) [-List.getD_eq_getElem?_getD, List.getD_cons_zero, List.getD_cons_succ, kCast_self, dfl_pair, dfl_int, w64, wu64, hy] <;> omega) | (rw [Bool.eq_iff_iff]; simp (disch := omega) [-List.getD_eq_getElem?_getD, List.getD_cons_zero, List.getD_cons_succ, kCast_self, dfl_pair, dfl_int, w64, wu64, hy] <;> omega) | (simp_all [-List.getD_eq_getElem?_getD] <;> omega))
noncomputable abbrev gRF (own : Bool) (c : Cnf) (n : Nat) (f : SupF) (v : AV) (os : List AObj) : Frm := ⟨En, 34, Tryd.f34.ntmps, [.tab own (.int .i64) c.cl, rlT n f], v, os⟩
noncomputable abbrev rfL (own : Bool) (c : Cnf) (n : Nat) (f : SupF) (i m z k : Nat) : Cfg := ⟨.none, lp Tryd.f34 0, [(1, .slice 1 0 n), (2, .int .i64 i), (3, .int .u64 m), (9, .ptr 2 0 0), (10, .int .u64 z), (11, .int .i64 k)], hp [.tab own (.int .i64) c.cl, rlT n f, .cells [.int .u64 0, .int .u64 0]]⟩
def badB (m z b k : Nat) : Prop := m.testBit k = true ∧ (z.testBit k = false ∨ b.testBit k = true)
theorem rfl_a (own : Bool) (c : Cnf) (n : Nat) (hn : n ≤ 64) (f : SupF) (v : AV) (os : List AObj) (i m z k a b : Nat) (hi : i < n) (hm : m < 18446744073709551616) (hz : z < 18446744073709551616) (hb : b < 18446744073709551616) (hy : (rL n f).getD i (dfl SupK) = (((1 : Nat) : Int), (a : Int), (b : Int))) (hk : k < 64) (hx : m.testBit k = false) (ih : Goods (gRF own c n f v os) (rfL own c n f i m z (k + 1))) : Goods (gRF own c n f v os) (rfL own c n f i m z k) := by
  have hl := rL_len n f
  have h1 := (rhas_tri m hm k).bl ((hasN_nat hk).trans hx)
  refine Goods.to 2000 [.b true, .c (.of h1), .l, .stop] mixed (ih) (by kernel_rfl) ?_
  show Yes _
  repeat' apply And.intro
  (all_goals first | rfl | assumption | trivial | omega | (simp [-List.getD_eq_getElem?_getD, hy] <;> omega) | (simp (disch := omega) only [w64, wu64] <;> omega) | (simp (disch := omega) [-List.getD_eq_getElem?_getD, List.getD_cons_zero, List.getD_cons_succ, kCast_self, dfl_pair, dfl_int, w64, wu64, hy] <;> omega) | (rw [Bool.eq_iff_iff]; simp (disch := omega) [-List.getD_eq_getElem?_getD, List.getD_cons_zero, List.getD_cons_succ, kCast_self, dfl_pair, dfl_int, w64, wu64, hy] <;> omega) | (simp_all [-List.getD_eq_getElem?_getD] <;> omega))
theorem rfl_b (own : Bool) (c : Cnf) (n : Nat) (hn : n ≤ 64) (f : SupF) (v : AV) (os : List AObj) (i m z k a b : Nat) (hi : i < n) (hm : m < 18446744073709551616) (hz : z < 18446744073709551616) (hb : b < 18446744073709551616) (hy : (rL n f).getD i (dfl SupK) = (((1 : Nat) : Int), (a : Int), (b : Int))) (hk : k < 64) (hx : m.testBit k = true) (hz1 : z.testBit k = true) (hb1 : b.testBit k = false) (ih : Goods (gRF own c n f v os) (rfL own c n f i m z (k + 1))) : Goods (gRF own c n f v os) (rfL own c n f i m z k) := by
  have hl := rL_len n f
  have h1 := (rhas_tri m hm k).bl ((hasN_nat hk).trans hx)
  have h2 := (rhas_tri z hz k).bl ((hasN_nat hk).trans hz1)
  have h3 := (rhas_tri b hb k).bl ((hasN_nat hk).trans hb1)
  refine Goods.to 2000 [.b true, .c (.of h1), .k 52 (.of h2), .k 61 (.of h3), .l, .stop] mixed (ih) (by kernel_rfl) ?_
  show Yes _
  repeat' apply And.intro
  (all_goals first | rfl | assumption | trivial | omega | (simp [-List.getD_eq_getElem?_getD, hy] <;> omega) | (simp (disch := omega) only [w64, wu64] <;> omega) | (simp (disch := omega) [-List.getD_eq_getElem?_getD, List.getD_cons_zero, List.getD_cons_succ, kCast_self, dfl_pair, dfl_int, w64, wu64, hy] <;> omega) | (rw [Bool.eq_iff_iff]; simp (disch := omega) [-List.getD_eq_getElem?_getD, List.getD_cons_zero, List.getD_cons_succ, kCast_self, dfl_pair, dfl_int, w64, wu64, hy] <;> omega) | (simp_all [-List.getD_eq_getElem?_getD] <;> omega))
theorem rfl_c (own : Bool) (c : Cnf) (n : Nat) (hn : n ≤ 64) (f : SupF) (i m z k a b : Nat) (hi : i < n) (hm : m < 18446744073709551616) (hz : z < 18446744073709551616) (hb : b < 18446744073709551616) (hy : (rL n f).getD i (dfl SupK) = (((1 : Nat) : Int), (a : Int), (b : Int))) (hk : k < 64) (hx : m.testBit k = true) (hz1 : z.testBit k = false) : Goods (gRF own c n f (oldR n) [.tab own (.int .i64) c.cl, rlT n f]) (rfL own c n f i m z k) := by
  have hl := rL_len n f
  have h1 := (rhas_tri m hm k).bl ((hasN_nat hk).trans hx)
  have h2 := (rhas_tri z hz k).bl ((hasN_nat hk).trans hz1)
  refine Goods.fin 2000 [.b true, .c (.of h1), .k 52 (.of h2)] mixed Tryd.func34 ?_
  show Yes _
  repeat' apply And.intro
  (all_goals first | rfl | assumption | trivial | omega | (simp [-List.getD_eq_getElem?_getD, hy] <;> omega) | (simp (disch := omega) only [w64, wu64] <;> omega) | (simp (disch := omega) [-List.getD_eq_getElem?_getD, List.getD_cons_zero, List.getD_cons_succ, kCast_self, dfl_pair, dfl_int, w64, wu64, hy] <;> omega) | (rw [Bool.eq_iff_iff]; simp (disch := omega) [-List.getD_eq_getElem?_getD, List.getD_cons_zero, List.getD_cons_succ, kCast_self, dfl_pair, dfl_int, w64, wu64, hy] <;> omega) | (simp_all [-List.getD_eq_getElem?_getD] <;> omega))
theorem rfl_d (own : Bool) (c : Cnf) (n : Nat) (hn : n ≤ 64) (f : SupF) (i m z k a b : Nat) (hi : i < n) (hm : m < 18446744073709551616) (hz : z < 18446744073709551616) (hb : b < 18446744073709551616) (hy : (rL n f).getD i (dfl SupK) = (((1 : Nat) : Int), (a : Int), (b : Int))) (hk : k < 64) (hx : m.testBit k = true) (hz1 : z.testBit k = true) (hb1 : b.testBit k = true) : Goods (gRF own c n f (oldR n) [.tab own (.int .i64) c.cl, rlT n f]) (rfL own c n f i m z k) := by
  have hl := rL_len n f
  have h1 := (rhas_tri m hm k).bl ((hasN_nat hk).trans hx)
  have h2 := (rhas_tri z hz k).bl ((hasN_nat hk).trans hz1)
  have h3 := (rhas_tri b hb k).bl ((hasN_nat hk).trans hb1)
  refine Goods.fin 2000 [.b true, .c (.of h1), .k 52 (.of h2), .k 61 (.of h3)] mixed Tryd.func34 ?_
  show Yes _
  repeat' apply And.intro
  (all_goals first | rfl | assumption | trivial | omega | (simp [-List.getD_eq_getElem?_getD, hy] <;> omega) | (simp (disch := omega) only [w64, wu64] <;> omega) | (simp (disch := omega) [-List.getD_eq_getElem?_getD, List.getD_cons_zero, List.getD_cons_succ, kCast_self, dfl_pair, dfl_int, w64, wu64, hy] <;> omega) | (rw [Bool.eq_iff_iff]; simp (disch := omega) [-List.getD_eq_getElem?_getD, List.getD_cons_zero, List.getD_cons_succ, kCast_self, dfl_pair, dfl_int, w64, wu64, hy] <;> omega) | (simp_all [-List.getD_eq_getElem?_getD] <;> omega))
end Go.Proofs.YtdnhnglhdabkgaaDoor.E
