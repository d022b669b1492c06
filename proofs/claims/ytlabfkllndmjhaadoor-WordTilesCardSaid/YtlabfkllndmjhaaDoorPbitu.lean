/- What the document says of fields of bits: Put. -/
import Derived.Test.YtlabfkllndmjhaaDoorPbitt
namespace Go.Proofs.YtlabfkllndmjhaaDoor.E
open Go
set_option maxRecDepth 100000

noncomputable abbrev gRput (w n a b : Nat) (o : Int) (ok : Bool) : Frm := ⟨En, 17, Tryd.f17.ntmps, [], .tuple [.int .u64 o, .bl ok], []⟩
theorem high_bit {n b i : Nat} (hn : n < 2 ^ b) (hi : b ≤ i) : n.testBit i = false := Nat.testBit_lt_two_pow (Nat.lt_of_lt_of_le hn (Nat.pow_le_pow_right (by omega) hi))
theorem rput_1 (w n a b : Nat) (hn : n < 2 ^ b) (hn2 : n < 18446744073709551616) (o : Int) : ∀ (j k : Nat), k + j = 64 → b ≤ k → Goods (gRput w n a b o true) ⟨.none, lp Tryd.f17 1, [(0, .int .u64 w), (1, .int .u64 n), (10, .int .u64 o), (13, .int .i64 k)], hp []⟩
  | 0, k, hk, hb => by
    refine Goods.fin 2000 [.b false] mixed Tryd.func17 ?_
    show Yes _
    repeat' apply And.intro
    (all_goals first | rfl | assumption | trivial | omega | (simp [-List.getD_eq_getElem?_getD] <;> omega) | (simp (disch := omega) only [w64, wu64] <;> omega) | (simp (disch := omega) [-List.getD_eq_getElem?_getD, List.getD_cons_zero, List.getD_cons_succ, kCast_self, dfl_pair, dfl_int, w64, wu64] <;> omega) | (rw [Bool.eq_iff_iff]; simp (disch := omega) [-List.getD_eq_getElem?_getD, List.getD_cons_zero, List.getD_cons_succ, kCast_self, dfl_pair, dfl_int, w64, wu64] <;> omega) | (simp_all [-List.getD_eq_getElem?_getD] <;> omega))
  | j + 1, k, hk, hb => by
    have ih := rput_1 w n a b hn hn2 o j (k + 1) (by omega) (by omega)
    have h1 := bit_tri n k hn2 (by omega)
    have h2 := high_bit hn hb
    refine Goods.to 2000 [.b true, .c (.of h1), .b false, .l, .stop] mixed (ih) (by kernel_rfl) ?_
    show Yes _
    repeat' apply And.intro
    (all_goals first | rfl | assumption | trivial | omega | (simp [-List.getD_eq_getElem?_getD] <;> omega) | (simp (disch := omega) only [w64, wu64] <;> omega) | (simp (disch := omega) [-List.getD_eq_getElem?_getD, List.getD_cons_zero, List.getD_cons_succ, kCast_self, dfl_pair, dfl_int, w64, wu64] <;> omega) | (rw [Bool.eq_iff_iff]; simp (disch := omega) [-List.getD_eq_getElem?_getD, List.getD_cons_zero, List.getD_cons_succ, kCast_self, dfl_pair, dfl_int, w64, wu64] <;> omega) | (simp_all [-List.getD_eq_getElem?_getD] <;> omega))
theorem rput_0 (w n a b : Nat) (hw : w < 18446744073709551616) (hn : n < 2 ^ b) (hn2 : n < 18446744073709551616) (hab : a + b ≤ 64) : ∀ (j k : Nat), k + j = 64 → Goods (gRput w n a b (putN w n a b) true) ⟨.none, lp Tryd.f17 0, [(0, .int .u64 w), (1, .int .u64 n), (2, .int .i64 a), (3, .int .i64 b), (10, .int .u64 (getN (putN w n a b) 0 k : Int)), (11, .int .i64 k)], hp []⟩
  | 0, k, hk => by
    obtain rfl : k = 64 := by omega
    have e : getN (putN w n a b) 0 64 = putN w n a b := by
      unfold getN
      rw [Nat.pow_zero, Nat.div_one, pow64]
      exact Nat.mod_eq_of_lt (putN_lt ..)
    rw [e]
    have ih := rput_1 w n a b hn hn2 (putN w n a b) (64 - b) b (by omega) (Nat.le_refl _)
    refine Goods.to 2000 [.b false, .l, .stop] mixed (ih) (by kernel_rfl) ?_
    show Yes _
    repeat' apply And.intro
    (all_goals first | rfl | assumption | trivial | omega | (simp [-List.getD_eq_getElem?_getD] <;> omega) | (simp (disch := omega) only [w64, wu64] <;> omega) | (simp (disch := omega) [-List.getD_eq_getElem?_getD, List.getD_cons_zero, List.getD_cons_succ, kCast_self, dfl_pair, dfl_int, w64, wu64] <;> omega) | (rw [Bool.eq_iff_iff]; simp (disch := omega) [-List.getD_eq_getElem?_getD, List.getD_cons_zero, List.getD_cons_succ, kCast_self, dfl_pair, dfl_int, w64, wu64] <;> omega) | (simp_all [-List.getD_eq_getElem?_getD] <;> omega))
  | j + 1, k, hk => by
    have ih := rput_0 w n a b hw hn hn2 hab j (k + 1) (by omega)
    have hw1 := bit_tri w k hw (by omega)
    have hpw := power_tri k (by omega)
    have hs := getN_succ (putN w n a b) 0 k
    rw [Nat.zero_add] at hs
    have hq := putN_bit w n a b k (by omega) hn
    have hl := getN_lt (putN w n a b) 0 (b := k)
    have h1 : 2 ^ (k + 1) ≤ 2 ^ 64 := Nat.pow_le_pow_right (by omega) (by omega)
    rw [Nat.pow_succ, pow64] at h1
    by_cases c1 : a ≤ k
    · by_cases c2 : k < a + b
      · have hb1 := bit_tri n (k - a) hn2 (by omega)
        rw [show ((k - a : Nat) : Int) = (k : Int) - a by omega] at hb1
        rw [if_pos ⟨c1, c2⟩] at hq
        rw [hq] at hs
        by_cases hbit : n.testBit (k - a) = true
        · rw [if_pos hbit] at hs
          have e : IntKind.u64.wrap ((getN (putN w n a b) 0 k : Int) + ((2 ^ k : Nat) : Int)) = (getN (putN w n a b) 0 (k + 1) : Int) := by rw [wu64 (by omega) (by omega)]; omega
          refine Goods.to 2000 [.b true, .c (.of hw1), .s 23 (some true) true true, .s 29 (some true) true true, .c (.of hb1), .b true, .c (.of hpw), .l, .stop] mixed (ih) (by kernel_rfl) ?_
          show Yes _
          repeat' apply And.intro
          (all_goals first | rfl | assumption | trivial | omega | (simp [-List.getD_eq_getElem?_getD] <;> omega) | (simp (disch := omega) only [w64, wu64] <;> omega) | (simp (disch := omega) [-List.getD_eq_getElem?_getD, List.getD_cons_zero, List.getD_cons_succ, kCast_self, dfl_pair, dfl_int, w64, wu64] <;> omega) | (rw [Bool.eq_iff_iff]; simp (disch := omega) [-List.getD_eq_getElem?_getD, List.getD_cons_zero, List.getD_cons_succ, kCast_self, dfl_pair, dfl_int, w64, wu64] <;> omega) | (simp_all [-List.getD_eq_getElem?_getD] <;> omega))
        · rw [if_neg hbit] at hs
          have hbit' : n.testBit (k - a) = false := by simpa using hbit
          have e : (getN (putN w n a b) 0 k : Int) = (getN (putN w n a b) 0 (k + 1) : Int) := by omega
          refine Goods.to 2000 [.b true, .c (.of hw1), .s 23 (some true) true true, .s 29 (some true) true true, .c (.of hb1), .b false, .l, .stop] mixed (ih) (by kernel_rfl) ?_
          show Yes _
          repeat' apply And.intro
          (all_goals first | rfl | assumption | trivial | omega | (simp [-List.getD_eq_getElem?_getD] <;> omega) | (simp (disch := omega) only [w64, wu64] <;> omega) | (simp (disch := omega) [-List.getD_eq_getElem?_getD, List.getD_cons_zero, List.getD_cons_succ, kCast_self, dfl_pair, dfl_int, w64, wu64] <;> omega) | (rw [Bool.eq_iff_iff]; simp (disch := omega) [-List.getD_eq_getElem?_getD, List.getD_cons_zero, List.getD_cons_succ, kCast_self, dfl_pair, dfl_int, w64, wu64] <;> omega) | (simp_all [-List.getD_eq_getElem?_getD] <;> omega))
      · have hb1 := bit_tri n k hn2 (by omega)
        have hb2 := high_bit (i := k) hn (by omega)
        rw [if_neg (fun x => c2 x.2)] at hq
        rw [hq] at hs
        by_cases hbit : w.testBit k = true
        · rw [if_pos hbit] at hs
          have e : IntKind.u64.wrap ((getN (putN w n a b) 0 k : Int) + ((2 ^ k : Nat) : Int)) = (getN (putN w n a b) 0 (k + 1) : Int) := by rw [wu64 (by omega) (by omega)]; omega
          refine Goods.to 2000 [.b true, .c (.of hw1), .s 23 (some true) true true, .s 29 (some false) true true, .s 38 (some true) true true, .c (.of hb1), .b false, .b true, .c (.of hpw), .l, .stop] mixed (ih) (by kernel_rfl) ?_
          show Yes _
          repeat' apply And.intro
          (all_goals first | rfl | assumption | trivial | omega | (simp [-List.getD_eq_getElem?_getD] <;> omega) | (simp (disch := omega) only [w64, wu64] <;> omega) | (simp (disch := omega) [-List.getD_eq_getElem?_getD, List.getD_cons_zero, List.getD_cons_succ, kCast_self, dfl_pair, dfl_int, w64, wu64] <;> omega) | (rw [Bool.eq_iff_iff]; simp (disch := omega) [-List.getD_eq_getElem?_getD, List.getD_cons_zero, List.getD_cons_succ, kCast_self, dfl_pair, dfl_int, w64, wu64] <;> omega) | (simp_all [-List.getD_eq_getElem?_getD] <;> omega))
        · rw [if_neg hbit] at hs
          have hbit' : w.testBit k = false := by simpa using hbit
          have e : (getN (putN w n a b) 0 k : Int) = (getN (putN w n a b) 0 (k + 1) : Int) := by omega
          refine Goods.to 2000 [.b true, .c (.of hw1), .s 23 (some true) true true, .s 29 (some false) true true, .s 38 (some true) true true, .c (.of hb1), .b false, .b false, .l, .stop] mixed (ih) (by kernel_rfl) ?_
          show Yes _
          repeat' apply And.intro
          (all_goals first | rfl | assumption | trivial | omega | (simp [-List.getD_eq_getElem?_getD] <;> omega) | (simp (disch := omega) only [w64, wu64] <;> omega) | (simp (disch := omega) [-List.getD_eq_getElem?_getD, List.getD_cons_zero, List.getD_cons_succ, kCast_self, dfl_pair, dfl_int, w64, wu64] <;> omega) | (rw [Bool.eq_iff_iff]; simp (disch := omega) [-List.getD_eq_getElem?_getD, List.getD_cons_zero, List.getD_cons_succ, kCast_self, dfl_pair, dfl_int, w64, wu64] <;> omega) | (simp_all [-List.getD_eq_getElem?_getD] <;> omega))
    · rw [if_neg (fun x => c1 x.1)] at hq
      rw [hq] at hs
      by_cases c3 : b ≤ k
      · have hb1 := bit_tri n k hn2 (by omega)
        have hb2 := high_bit (i := k) hn c3
        by_cases hbit : w.testBit k = true
        · rw [if_pos hbit] at hs
          have e : IntKind.u64.wrap ((getN (putN w n a b) 0 k : Int) + ((2 ^ k : Nat) : Int)) = (getN (putN w n a b) 0 (k + 1) : Int) := by rw [wu64 (by omega) (by omega)]; omega
          refine Goods.to 2000 [.b true, .c (.of hw1), .s 23 (some false) true true, .s 38 (some true) true true, .c (.of hb1), .b false, .b true, .c (.of hpw), .l, .stop] mixed (ih) (by kernel_rfl) ?_
          show Yes _
          repeat' apply And.intro
          (all_goals first | rfl | assumption | trivial | omega | (simp [-List.getD_eq_getElem?_getD] <;> omega) | (simp (disch := omega) only [w64, wu64] <;> omega) | (simp (disch := omega) [-List.getD_eq_getElem?_getD, List.getD_cons_zero, List.getD_cons_succ, kCast_self, dfl_pair, dfl_int, w64, wu64] <;> omega) | (rw [Bool.eq_iff_iff]; simp (disch := omega) [-List.getD_eq_getElem?_getD, List.getD_cons_zero, List.getD_cons_succ, kCast_self, dfl_pair, dfl_int, w64, wu64] <;> omega) | (simp_all [-List.getD_eq_getElem?_getD] <;> omega))
        · rw [if_neg hbit] at hs
          have hbit' : w.testBit k = false := by simpa using hbit
          have e : (getN (putN w n a b) 0 k : Int) = (getN (putN w n a b) 0 (k + 1) : Int) := by omega
          refine Goods.to 2000 [.b true, .c (.of hw1), .s 23 (some false) true true, .s 38 (some true) true true, .c (.of hb1), .b false, .b false, .l, .stop] mixed (ih) (by kernel_rfl) ?_
          show Yes _
          repeat' apply And.intro
          (all_goals first | rfl | assumption | trivial | omega | (simp [-List.getD_eq_getElem?_getD] <;> omega) | (simp (disch := omega) only [w64, wu64] <;> omega) | (simp (disch := omega) [-List.getD_eq_getElem?_getD, List.getD_cons_zero, List.getD_cons_succ, kCast_self, dfl_pair, dfl_int, w64, wu64] <;> omega) | (rw [Bool.eq_iff_iff]; simp (disch := omega) [-List.getD_eq_getElem?_getD, List.getD_cons_zero, List.getD_cons_succ, kCast_self, dfl_pair, dfl_int, w64, wu64] <;> omega) | (simp_all [-List.getD_eq_getElem?_getD] <;> omega))
      · by_cases hbit : w.testBit k = true
        · rw [if_pos hbit] at hs
          have e : IntKind.u64.wrap ((getN (putN w n a b) 0 k : Int) + ((2 ^ k : Nat) : Int)) = (getN (putN w n a b) 0 (k + 1) : Int) := by rw [wu64 (by omega) (by omega)]; omega
          refine Goods.to 2000 [.b true, .c (.of hw1), .s 23 (some false) true true, .s 38 (some false) true true, .b true, .c (.of hpw), .l, .stop] mixed (ih) (by kernel_rfl) ?_
          show Yes _
          repeat' apply And.intro
          (all_goals first | rfl | assumption | trivial | omega | (simp [-List.getD_eq_getElem?_getD] <;> omega) | (simp (disch := omega) only [w64, wu64] <;> omega) | (simp (disch := omega) [-List.getD_eq_getElem?_getD, List.getD_cons_zero, List.getD_cons_succ, kCast_self, dfl_pair, dfl_int, w64, wu64] <;> omega) | (rw [Bool.eq_iff_iff]; simp (disch := omega) [-List.getD_eq_getElem?_getD, List.getD_cons_zero, List.getD_cons_succ, kCast_self, dfl_pair, dfl_int, w64, wu64] <;> omega) | (simp_all [-List.getD_eq_getElem?_getD] <;> omega))
        · rw [if_neg hbit] at hs
          have hbit' : w.testBit k = false := by simpa using hbit
          have e : (getN (putN w n a b) 0 k : Int) = (getN (putN w n a b) 0 (k + 1) : Int) := by omega
          refine Goods.to 2000 [.b true, .c (.of hw1), .s 23 (some false) true true, .s 38 (some false) true true, .b false, .l, .stop] mixed (ih) (by kernel_rfl) ?_
          show Yes _
          repeat' apply And.intro
          (all_goals first | rfl | assumption | trivial | omega | (simp [-List.getD_eq_getElem?_getD] <;> omega) | (simp (disch := omega) only [w64, wu64] <;> omega) | (simp (disch := omega) [-List.getD_eq_getElem?_getD, List.getD_cons_zero, List.getD_cons_succ, kCast_self, dfl_pair, dfl_int, w64, wu64] <;> omega) | (rw [Bool.eq_iff_iff]; simp (disch := omega) [-List.getD_eq_getElem?_getD, List.getD_cons_zero, List.getD_cons_succ, kCast_self, dfl_pair, dfl_int, w64, wu64] <;> omega) | (simp_all [-List.getD_eq_getElem?_getD] <;> omega))
theorem rput_yes (w n a b : Nat) (hw : w < 18446744073709551616) (hn : n < 2 ^ b) (hn2 : n < 18446744073709551616) (hab : a + b ≤ 64) : Tri En 17 [.int .u64 w, .int .u64 n, .int .i64 a, .int .i64 b] [] (.tuple [.int .u64 (putN w n a b), .bl true]) [] := by
  have ih := rput_0 w n a b hw hn hn2 hab 64 0 (by omega)
  have e : getN (putN w n a b) 0 0 = 0 := by unfold getN; omega
  rw [e] at ih
  refine Tri.of Tryd.func17 rfl Tryd.call17 rfl ?_
  refine Goods.to 2000 [.l, .stop] mixed (ih) (by kernel_rfl) ?_
  show Yes _
  repeat' apply And.intro
  (all_goals first | rfl | assumption | trivial | omega | (simp [-List.getD_eq_getElem?_getD] <;> omega) | (simp (disch := omega) only [w64, wu64] <;> omega) | (simp (disch := omega) [-List.getD_eq_getElem?_getD, List.getD_cons_zero, List.getD_cons_succ, kCast_self, dfl_pair, dfl_int, w64, wu64] <;> omega) | (rw [Bool.eq_iff_iff]; simp (disch := omega) [-List.getD_eq_getElem?_getD, List.getD_cons_zero, List.getD_cons_succ, kCast_self, dfl_pair, dfl_int, w64, wu64] <;> omega) | (simp_all [-List.getD_eq_getElem?_getD] <;> omega))
end Go.Proofs.YtlabfkllndmjhaaDoor.E
