/- Package heart: what is asked, and what is granted. -/
import Derived.Test.YtcicfbccdgkfhaaDoorPheart
namespace Go.Proofs.YtcicfbccdgkfhaaDoor.E
set_option linter.unusedSimpArgs false
set_option linter.unusedVariables false
open Go
set_option maxRecDepth 100000

def opA (a b : Nat) : AV := .agg [.int .u64 a, .int .u64 b]
def askN (k n : Nat) : Nat := 256 * n + k
theorem put_lo (k : Nat) (hk : k < 256) : putN 0 k 0 8 = k := by
  refine bit_ext (by rw [pow64]; exact putN_lt ..) (by rw [pow64]; omega) fun i hi => ?_
  rw [putN_bit _ _ _ _ _ hi hk]
  by_cases h : i < 8
  · rw [if_pos (by omega), Nat.sub_zero]
  · rw [if_neg (by omega), Nat.zero_testBit, Nat.testBit_lt_two_pow (Nat.lt_of_lt_of_le (show k < 2 ^ 8 from hk) (Nat.pow_le_pow_right (by omega) (by omega)))]
theorem put_hi (k n : Nat) (hk : k < 256) (hn : n < 4294967296) : putN k n 8 32 = askN k n := by
  refine bit_ext (by rw [pow64]; exact putN_lt ..) (by rw [pow64]; unfold askN; omega) fun i hi => ?_
  rw [putN_bit _ _ _ _ _ hi hn, askN, show (256 : Nat) = 2 ^ 8 by decide, add_bit _ _ _ _ hk]
  by_cases h : i < 8
  · rw [if_neg (by omega), if_pos h]
  · rw [if_neg h]
    by_cases h2 : i < 40
    · rw [if_pos (by omega)]
    · rw [if_neg (by omega), Nat.testBit_lt_two_pow (Nat.lt_of_lt_of_le (show k < 2 ^ 8 from hk) (Nat.pow_le_pow_right (by omega) (by omega))), Nat.testBit_lt_two_pow (Nat.lt_of_lt_of_le (show n < 2 ^ 32 from hn) (Nat.pow_le_pow_right (by omega) (by omega)))]
theorem askN_lt {k n : Nat} (hk : k < 256) (hn : n < 4294967296) : askN k n < 18446744073709551616 := by unfold askN; omega
theorem ask_get {k n : Nat} (hk : k < 256) (hn : n < 4294967296) : getN (askN k n) 0 8 = k ∧ getN (askN k n) 8 32 = n := by
  unfold getN askN
  rw [show (2 : Nat) ^ 0 = 1 by decide, show (2 : Nat) ^ 8 = 256 by decide, show (2 : Nat) ^ 32 = 4294967296 by decide]
  omega
theorem op_yes (k n m : Nat) (hk : k < 256) (hn : n < 4294967296) : Tri En 74 [.int .i64 k, .int .i64 n, .int .u64 m] [] (opA (askN k n) m) [] := by
  have p0 := put_yes 0 k 0 8 (by omega) f08 hk
  rw [put_lo k hk] at p0
  have p1 := put_yes k n 8 32 (by omega) f832 hn
  rw [put_hi k n hk hn] at p1
  generalize askN k n = w at *
  refine Tri.of Tryd.func74 rfl Tryd.call74 rfl ?_
  refine Goods.fin 2000 [.c (.of p0), .c (.of p1)] mixed Tryd.func74 ?_
  show Yes _
  repeat' apply And.intro
  (all_goals first | rfl | assumption | trivial | omega | (simp [-List.getD_eq_getElem?_getD] <;> omega) | (simp (disch := omega) only [w64, wu64] <;> omega) | (simp (disch := omega) [-List.getD_eq_getElem?_getD, List.getD_cons_zero, List.getD_cons_succ, kCast_self, dfl_pair, dfl_int, w64, wu64] <;> omega) | (rw [Bool.eq_iff_iff]; simp (disch := omega) [-List.getD_eq_getElem?_getD, List.getD_cons_zero, List.getD_cons_succ, kCast_self, dfl_pair, dfl_int, w64, wu64] <;> omega) | (simp_all [-List.getD_eq_getElem?_getD] <;> omega))
theorem op_no (k : Nat) (n : Int) (m x : Nat) (hk : k < 256) (hx : IntKind.u64.wrap n = x) (hn : ¬ x < 4294967296) : Tri En 74 [.int .i64 k, .int .i64 n, .int .u64 m] [] (opA 0 0) [] := by
  have p0 := put_yes 0 k 0 8 (by omega) f08 hk
  rw [put_lo k hk] at p0
  have p1 := put_great k x 8 32 f832 hn
  refine Tri.of Tryd.func74 rfl Tryd.call74 rfl ?_
  refine Goods.fin 2000 [.c (.of p0), .c (.of p1)] mixed Tryd.func74 ?_
  show Yes _
  repeat' apply And.intro
  (all_goals first | rfl | assumption | trivial | omega | (simp [-List.getD_eq_getElem?_getD] <;> omega) | (simp (disch := omega) only [w64, wu64] <;> omega) | (simp (disch := omega) [-List.getD_eq_getElem?_getD, List.getD_cons_zero, List.getD_cons_succ, kCast_self, dfl_pair, dfl_int, w64, wu64] <;> omega) | (rw [Bool.eq_iff_iff]; simp (disch := omega) [-List.getD_eq_getElem?_getD, List.getD_cons_zero, List.getD_cons_succ, kCast_self, dfl_pair, dfl_int, w64, wu64] <;> omega) | (simp_all [-List.getD_eq_getElem?_getD] <;> omega))
theorem not_in (n : Int) (h : ¬ (0 ≤ n ∧ n < 4294967296)) (h1 : -9223372036854775808 ≤ n) (h2 : n ≤ 9223372036854775807) : ∃ x : Nat, IntKind.u64.wrap n = x ∧ ¬ x < 4294967296 := by
  have e : IntKind.u64.wrap n = n % 18446744073709551616 := by
    simp only [IntKind.wrap, IntKind.bits, IntKind.signed]
    simp
  exact ⟨(n % 18446744073709551616).toNat, by rw [e]; omega, by omega⟩
theorem ask_refill (n : Nat) (hn : n < 4294967296) : Tri En 36 [.int .i64 n] [] (opA (askN 1 n) 0) [] := by
  have h := op_yes 1 n 0 (by omega) hn
  refine Tri.of Tryd.func36 rfl Tryd.call36 rfl ?_
  refine Goods.fin 2000 [.c (.of h)] mixed Tryd.func36 ?_
  show Yes _
  repeat' apply And.intro
  (all_goals first | rfl | assumption | trivial | omega | (simp [-List.getD_eq_getElem?_getD] <;> omega) | (simp (disch := omega) only [w64, wu64] <;> omega) | (simp (disch := omega) [-List.getD_eq_getElem?_getD, List.getD_cons_zero, List.getD_cons_succ, kCast_self, dfl_pair, dfl_int, w64, wu64] <;> omega) | (rw [Bool.eq_iff_iff]; simp (disch := omega) [-List.getD_eq_getElem?_getD, List.getD_cons_zero, List.getD_cons_succ, kCast_self, dfl_pair, dfl_int, w64, wu64] <;> omega) | (simp_all [-List.getD_eq_getElem?_getD] <;> omega))
theorem ask_refill_no (n : Int) (h : ¬ (0 ≤ n ∧ n < 4294967296)) (h1 : -9223372036854775808 ≤ n) (h2 : n ≤ 9223372036854775807) : Tri En 36 [.int .i64 n] [] (opA 0 0) [] := by
  obtain ⟨x, x1, x2⟩ := not_in n h h1 h2
  have h := op_no 1 n 0 x (by omega) x1 x2
  refine Tri.of Tryd.func36 rfl Tryd.call36 rfl ?_
  refine Goods.fin 2000 [.c (.of h)] mixed Tryd.func36 ?_
  show Yes _
  repeat' apply And.intro
  (all_goals first | rfl | assumption | trivial | omega | (simp [-List.getD_eq_getElem?_getD] <;> omega) | (simp (disch := omega) only [w64, wu64] <;> omega) | (simp (disch := omega) [-List.getD_eq_getElem?_getD, List.getD_cons_zero, List.getD_cons_succ, kCast_self, dfl_pair, dfl_int, w64, wu64] <;> omega) | (rw [Bool.eq_iff_iff]; simp (disch := omega) [-List.getD_eq_getElem?_getD, List.getD_cons_zero, List.getD_cons_succ, kCast_self, dfl_pair, dfl_int, w64, wu64] <;> omega) | (simp_all [-List.getD_eq_getElem?_getD] <;> omega))
theorem ask_flush (n m : Nat) (hn : n < 4294967296) : Tri En 40 [.int .i64 n, .int .u64 m] [] (opA (askN 2 n) m) [] := by
  have h := op_yes 2 n m (by omega) hn
  refine Tri.of Tryd.func40 rfl Tryd.call40 rfl ?_
  refine Goods.fin 2000 [.c (.of h)] mixed Tryd.func40 ?_
  show Yes _
  repeat' apply And.intro
  (all_goals first | rfl | assumption | trivial | omega | (simp [-List.getD_eq_getElem?_getD] <;> omega) | (simp (disch := omega) only [w64, wu64] <;> omega) | (simp (disch := omega) [-List.getD_eq_getElem?_getD, List.getD_cons_zero, List.getD_cons_succ, kCast_self, dfl_pair, dfl_int, w64, wu64] <;> omega) | (rw [Bool.eq_iff_iff]; simp (disch := omega) [-List.getD_eq_getElem?_getD, List.getD_cons_zero, List.getD_cons_succ, kCast_self, dfl_pair, dfl_int, w64, wu64] <;> omega) | (simp_all [-List.getD_eq_getElem?_getD] <;> omega))
theorem ask_flush_no (n : Int) (m : Nat) (h : ¬ (0 ≤ n ∧ n < 4294967296)) (h1 : -9223372036854775808 ≤ n) (h2 : n ≤ 9223372036854775807) : Tri En 40 [.int .i64 n, .int .u64 m] [] (opA 0 0) [] := by
  obtain ⟨x, x1, x2⟩ := not_in n h h1 h2
  have h := op_no 2 n m x (by omega) x1 x2
  refine Tri.of Tryd.func40 rfl Tryd.call40 rfl ?_
  refine Goods.fin 2000 [.c (.of h)] mixed Tryd.func40 ?_
  show Yes _
  repeat' apply And.intro
  (all_goals first | rfl | assumption | trivial | omega | (simp [-List.getD_eq_getElem?_getD] <;> omega) | (simp (disch := omega) only [w64, wu64] <;> omega) | (simp (disch := omega) [-List.getD_eq_getElem?_getD, List.getD_cons_zero, List.getD_cons_succ, kCast_self, dfl_pair, dfl_int, w64, wu64] <;> omega) | (rw [Bool.eq_iff_iff]; simp (disch := omega) [-List.getD_eq_getElem?_getD, List.getD_cons_zero, List.getD_cons_succ, kCast_self, dfl_pair, dfl_int, w64, wu64] <;> omega) | (simp_all [-List.getD_eq_getElem?_getD] <;> omega))
theorem grant_tri (own : Bool) (c : Cnf) (hc : c.Ok) (n : Nat) (hn : n ≤ 64) (f : SupF) (i : Nat) (hi : i < n) (cl m : Nat) (hcl : cl < 256) (hm : m < 18446744073709551616) : Tri En 91 [cnfA 0 c, .slice 1 0 (2 * n), .int .i64 i, .int .i64 cl, .int .u64 m] [.tab own (.int .i64) c.cl, .tab true (.int .u64) (hW n f)] (opA (i + 1) (leastN m c.b)) [.tab own (.int .i64) c.cl, .tab true (.int .u64) (hW n (updS f i (1, cl, m - leastN m c.b)))] := by
  have b1 := hc.b1
  have ea := andNot_eq m (leastN m c.b)
  rw [(not_sub (leastN_lt ..) hm (least_sub m c.b)).1] at ea
  have hl := least_tri m hm c.b (by omega)
  have hp1 := put_tri n hn f i hi 1 cl (m - leastN m c.b) (by omega) hcl
  have hl2 := leastN_lt m c.b
  generalize leastN m c.b = s at *
  generalize m - s = d at *
  refine Tri.of Tryd.func91 rfl Tryd.call91 rfl ?_
  refine Goods.fin 2000 [.c (.of hl), .c (.of hp1)] mixed Tryd.func91 ?_
  show Yes _
  repeat' apply And.intro
  (all_goals first | rfl | assumption | trivial | omega | (simp [-List.getD_eq_getElem?_getD] <;> omega) | (simp (disch := omega) only [w64, wu64] <;> omega) | (simp (disch := omega) [-List.getD_eq_getElem?_getD, List.getD_cons_zero, List.getD_cons_succ, kCast_self, dfl_pair, dfl_int, w64, wu64] <;> omega) | (rw [Bool.eq_iff_iff]; simp (disch := omega) [-List.getD_eq_getElem?_getD, List.getD_cons_zero, List.getD_cons_succ, kCast_self, dfl_pair, dfl_int, w64, wu64] <;> omega) | (simp_all [-List.getD_eq_getElem?_getD] <;> omega))
end Go.Proofs.YtcicfbccdgkfhaaDoor.E
