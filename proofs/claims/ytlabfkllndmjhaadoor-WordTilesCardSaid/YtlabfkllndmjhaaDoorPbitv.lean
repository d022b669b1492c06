/- What the document says of a number that doesn't fit; references. -/
import Derived.Test.YtlabfkllndmjhaaDoorPbitu
namespace Go.Proofs.YtlabfkllndmjhaaDoor.E
open Go
set_option maxRecDepth 100000

theorem rputn_1 (w n a b : Nat) (hn2 : n < 18446744073709551616) (o : Int) : ∀ (j k : Nat), k + j = 64 → (∃ m, k ≤ m ∧ m < 64 ∧ n.testBit m = true) → Goods (gRput w n a b w false) ⟨.none, lp Tryd.f17 1, [(0, .int .u64 w), (1, .int .u64 n), (10, .int .u64 o), (13, .int .i64 k)], hp []⟩
  | 0, k, hk, hm => by obtain ⟨m, h1, h2, _⟩ := hm; omega
  | j + 1, k, hk, hm => by
    have h1 := bit_tri n k hn2 (by omega)
    by_cases hb : n.testBit k = true
    · refine Goods.fin 2000 [.b true, .c (.of h1), .b true] mixed Tryd.func17 ?_
      show Yes _
      repeat' apply And.intro
      (all_goals first | rfl | assumption | trivial | omega | (simp [-List.getD_eq_getElem?_getD] <;> omega) | (simp (disch := omega) only [w64, wu64] <;> omega) | (simp (disch := omega) [-List.getD_eq_getElem?_getD, List.getD_cons_zero, List.getD_cons_succ, kCast_self, dfl_pair, dfl_int, w64, wu64] <;> omega) | (rw [Bool.eq_iff_iff]; simp (disch := omega) [-List.getD_eq_getElem?_getD, List.getD_cons_zero, List.getD_cons_succ, kCast_self, dfl_pair, dfl_int, w64, wu64] <;> omega) | (simp_all [-List.getD_eq_getElem?_getD] <;> omega))
    · have hb' : n.testBit k = false := by simpa using hb
      have ih := rputn_1 w n a b hn2 o j (k + 1) (by omega) (by
        obtain ⟨m, h1, h2, h3⟩ := hm
        refine ⟨m, ?_, h2, h3⟩
        by_cases e : m = k
        · subst e; exact absurd h3 hb
        · omega)
      refine Goods.to 2000 [.b true, .c (.of h1), .b false, .l, .stop] mixed (ih) (by kernel_rfl) ?_
      show Yes _
      repeat' apply And.intro
      (all_goals first | rfl | assumption | trivial | omega | (simp [-List.getD_eq_getElem?_getD] <;> omega) | (simp (disch := omega) only [w64, wu64] <;> omega) | (simp (disch := omega) [-List.getD_eq_getElem?_getD, List.getD_cons_zero, List.getD_cons_succ, kCast_self, dfl_pair, dfl_int, w64, wu64] <;> omega) | (rw [Bool.eq_iff_iff]; simp (disch := omega) [-List.getD_eq_getElem?_getD, List.getD_cons_zero, List.getD_cons_succ, kCast_self, dfl_pair, dfl_int, w64, wu64] <;> omega) | (simp_all [-List.getD_eq_getElem?_getD] <;> omega))
theorem rputn_0 (w n a b : Nat) (hw : w < 18446744073709551616) (hn2 : n < 18446744073709551616) (hb : b ≤ 64) (hab : a + b ≤ 64) (hm : ∃ m, b ≤ m ∧ m < 64 ∧ n.testBit m = true) : ∀ (j k : Nat) (o : Int), k + j = 64 → Goods (gRput w n a b w false) ⟨.none, lp Tryd.f17 0, [(0, .int .u64 w), (1, .int .u64 n), (2, .int .i64 a), (3, .int .i64 b), (10, .int .u64 o), (11, .int .i64 k)], hp []⟩
  | 0, k, o, hk => by
    have ih := rputn_1 w n a b hn2 o (64 - b) b (by omega) hm
    refine Goods.to 2000 [.b false, .l, .stop] mixed (ih) (by kernel_rfl) ?_
    show Yes _
    repeat' apply And.intro
    (all_goals first | rfl | assumption | trivial | omega | (simp [-List.getD_eq_getElem?_getD] <;> omega) | (simp (disch := omega) only [w64, wu64] <;> omega) | (simp (disch := omega) [-List.getD_eq_getElem?_getD, List.getD_cons_zero, List.getD_cons_succ, kCast_self, dfl_pair, dfl_int, w64, wu64] <;> omega) | (rw [Bool.eq_iff_iff]; simp (disch := omega) [-List.getD_eq_getElem?_getD, List.getD_cons_zero, List.getD_cons_succ, kCast_self, dfl_pair, dfl_int, w64, wu64] <;> omega) | (simp_all [-List.getD_eq_getElem?_getD] <;> omega))
  | j + 1, k, o, hk => by
    have hw1 := bit_tri w k hw (by omega)
    have hpw := power_tri k (by omega)
    have ih1 := rputn_0 w n a b hw hn2 hb hab hm j (k + 1) (IntKind.u64.wrap (o + ((2 ^ k : Nat) : Int))) (by omega)
    have ih0 := rputn_0 w n a b hw hn2 hb hab hm j (k + 1) o (by omega)
    by_cases c1 : a ≤ k ∧ k < a + b
    · have hb1 := bit_tri n (k - a) hn2 (by omega)
      rw [show ((k - a : Nat) : Int) = (k : Int) - a by omega] at hb1
      by_cases hbit : n.testBit (k - a) = true
      · refine Goods.to 2000 [.b true, .c (.of hw1), .s 23 (some true) true true, .s 29 (some true) true true, .c (.of hb1), .b true, .c (.of hpw), .l, .stop] mixed (ih1) (by kernel_rfl) ?_
        show Yes _
        repeat' apply And.intro
        (all_goals first | rfl | assumption | trivial | omega | (simp [-List.getD_eq_getElem?_getD] <;> omega) | (simp (disch := omega) only [w64, wu64] <;> omega) | (simp (disch := omega) [-List.getD_eq_getElem?_getD, List.getD_cons_zero, List.getD_cons_succ, kCast_self, dfl_pair, dfl_int, w64, wu64] <;> omega) | (rw [Bool.eq_iff_iff]; simp (disch := omega) [-List.getD_eq_getElem?_getD, List.getD_cons_zero, List.getD_cons_succ, kCast_self, dfl_pair, dfl_int, w64, wu64] <;> omega) | (simp_all [-List.getD_eq_getElem?_getD] <;> omega))
      · have hbit' : n.testBit (k - a) = false := by simpa using hbit
        refine Goods.to 2000 [.b true, .c (.of hw1), .s 23 (some true) true true, .s 29 (some true) true true, .c (.of hb1), .b false, .l, .stop] mixed (ih0) (by kernel_rfl) ?_
        show Yes _
        repeat' apply And.intro
        (all_goals first | rfl | assumption | trivial | omega | (simp [-List.getD_eq_getElem?_getD] <;> omega) | (simp (disch := omega) only [w64, wu64] <;> omega) | (simp (disch := omega) [-List.getD_eq_getElem?_getD, List.getD_cons_zero, List.getD_cons_succ, kCast_self, dfl_pair, dfl_int, w64, wu64] <;> omega) | (rw [Bool.eq_iff_iff]; simp (disch := omega) [-List.getD_eq_getElem?_getD, List.getD_cons_zero, List.getD_cons_succ, kCast_self, dfl_pair, dfl_int, w64, wu64] <;> omega) | (simp_all [-List.getD_eq_getElem?_getD] <;> omega))
    · have hb1 := bit_tri n k hn2 (by omega)
      by_cases c2 : a ≤ k
      · by_cases c3 : b ≤ k
        · by_cases hn : n.testBit k = true
          · refine Goods.fin 2000 [.b true, .c (.of hw1), .s 23 (some true) true true, .s 29 (some false) true true, .s 38 (some true) true true, .c (.of hb1), .b true] mixed Tryd.func17 ?_
            show Yes _
            repeat' apply And.intro
            (all_goals first | rfl | assumption | trivial | omega | (simp [-List.getD_eq_getElem?_getD] <;> omega) | (simp (disch := omega) only [w64, wu64] <;> omega) | (simp (disch := omega) [-List.getD_eq_getElem?_getD, List.getD_cons_zero, List.getD_cons_succ, kCast_self, dfl_pair, dfl_int, w64, wu64] <;> omega) | (rw [Bool.eq_iff_iff]; simp (disch := omega) [-List.getD_eq_getElem?_getD, List.getD_cons_zero, List.getD_cons_succ, kCast_self, dfl_pair, dfl_int, w64, wu64] <;> omega) | (simp_all [-List.getD_eq_getElem?_getD] <;> omega))
          · have hn' : n.testBit k = false := by simpa using hn
            by_cases hbit : w.testBit k = true
            · refine Goods.to 2000 [.b true, .c (.of hw1), .s 23 (some true) true true, .s 29 (some false) true true, .s 38 (some true) true true, .c (.of hb1), .b false, .b true, .c (.of hpw), .l, .stop] mixed (ih1) (by kernel_rfl) ?_
              show Yes _
              repeat' apply And.intro
              (all_goals first | rfl | assumption | trivial | omega | (simp [-List.getD_eq_getElem?_getD] <;> omega) | (simp (disch := omega) only [w64, wu64] <;> omega) | (simp (disch := omega) [-List.getD_eq_getElem?_getD, List.getD_cons_zero, List.getD_cons_succ, kCast_self, dfl_pair, dfl_int, w64, wu64] <;> omega) | (rw [Bool.eq_iff_iff]; simp (disch := omega) [-List.getD_eq_getElem?_getD, List.getD_cons_zero, List.getD_cons_succ, kCast_self, dfl_pair, dfl_int, w64, wu64] <;> omega) | (simp_all [-List.getD_eq_getElem?_getD] <;> omega))
            · have hbit' : w.testBit k = false := by simpa using hbit
              refine Goods.to 2000 [.b true, .c (.of hw1), .s 23 (some true) true true, .s 29 (some false) true true, .s 38 (some true) true true, .c (.of hb1), .b false, .b false, .l, .stop] mixed (ih0) (by kernel_rfl) ?_
              show Yes _
              repeat' apply And.intro
              (all_goals first | rfl | assumption | trivial | omega | (simp [-List.getD_eq_getElem?_getD] <;> omega) | (simp (disch := omega) only [w64, wu64] <;> omega) | (simp (disch := omega) [-List.getD_eq_getElem?_getD, List.getD_cons_zero, List.getD_cons_succ, kCast_self, dfl_pair, dfl_int, w64, wu64] <;> omega) | (rw [Bool.eq_iff_iff]; simp (disch := omega) [-List.getD_eq_getElem?_getD, List.getD_cons_zero, List.getD_cons_succ, kCast_self, dfl_pair, dfl_int, w64, wu64] <;> omega) | (simp_all [-List.getD_eq_getElem?_getD] <;> omega))
        · by_cases hbit : w.testBit k = true
          · refine Goods.to 2000 [.b true, .c (.of hw1), .s 23 (some true) true true, .s 29 (some false) true true, .s 38 (some false) true true, .b true, .c (.of hpw), .l, .stop] mixed (ih1) (by kernel_rfl) ?_
            show Yes _
            repeat' apply And.intro
            (all_goals first | rfl | assumption | trivial | omega | (simp [-List.getD_eq_getElem?_getD] <;> omega) | (simp (disch := omega) only [w64, wu64] <;> omega) | (simp (disch := omega) [-List.getD_eq_getElem?_getD, List.getD_cons_zero, List.getD_cons_succ, kCast_self, dfl_pair, dfl_int, w64, wu64] <;> omega) | (rw [Bool.eq_iff_iff]; simp (disch := omega) [-List.getD_eq_getElem?_getD, List.getD_cons_zero, List.getD_cons_succ, kCast_self, dfl_pair, dfl_int, w64, wu64] <;> omega) | (simp_all [-List.getD_eq_getElem?_getD] <;> omega))
          · have hbit' : w.testBit k = false := by simpa using hbit
            refine Goods.to 2000 [.b true, .c (.of hw1), .s 23 (some true) true true, .s 29 (some false) true true, .s 38 (some false) true true, .b false, .l, .stop] mixed (ih0) (by kernel_rfl) ?_
            show Yes _
            repeat' apply And.intro
            (all_goals first | rfl | assumption | trivial | omega | (simp [-List.getD_eq_getElem?_getD] <;> omega) | (simp (disch := omega) only [w64, wu64] <;> omega) | (simp (disch := omega) [-List.getD_eq_getElem?_getD, List.getD_cons_zero, List.getD_cons_succ, kCast_self, dfl_pair, dfl_int, w64, wu64] <;> omega) | (rw [Bool.eq_iff_iff]; simp (disch := omega) [-List.getD_eq_getElem?_getD, List.getD_cons_zero, List.getD_cons_succ, kCast_self, dfl_pair, dfl_int, w64, wu64] <;> omega) | (simp_all [-List.getD_eq_getElem?_getD] <;> omega))
      by_cases c2 : ¬ a ≤ k
      · by_cases c3 : b ≤ k
        · by_cases hn : n.testBit k = true
          · refine Goods.fin 2000 [.b true, .c (.of hw1), .s 23 (some false) true true, .s 38 (some true) true true, .c (.of hb1), .b true] mixed Tryd.func17 ?_
            show Yes _
            repeat' apply And.intro
            (all_goals first | rfl | assumption | trivial | omega | (simp [-List.getD_eq_getElem?_getD] <;> omega) | (simp (disch := omega) only [w64, wu64] <;> omega) | (simp (disch := omega) [-List.getD_eq_getElem?_getD, List.getD_cons_zero, List.getD_cons_succ, kCast_self, dfl_pair, dfl_int, w64, wu64] <;> omega) | (rw [Bool.eq_iff_iff]; simp (disch := omega) [-List.getD_eq_getElem?_getD, List.getD_cons_zero, List.getD_cons_succ, kCast_self, dfl_pair, dfl_int, w64, wu64] <;> omega) | (simp_all [-List.getD_eq_getElem?_getD] <;> omega))
          · have hn' : n.testBit k = false := by simpa using hn
            by_cases hbit : w.testBit k = true
            · refine Goods.to 2000 [.b true, .c (.of hw1), .s 23 (some false) true true, .s 38 (some true) true true, .c (.of hb1), .b false, .b true, .c (.of hpw), .l, .stop] mixed (ih1) (by kernel_rfl) ?_
              show Yes _
              repeat' apply And.intro
              (all_goals first | rfl | assumption | trivial | omega | (simp [-List.getD_eq_getElem?_getD] <;> omega) | (simp (disch := omega) only [w64, wu64] <;> omega) | (simp (disch := omega) [-List.getD_eq_getElem?_getD, List.getD_cons_zero, List.getD_cons_succ, kCast_self, dfl_pair, dfl_int, w64, wu64] <;> omega) | (rw [Bool.eq_iff_iff]; simp (disch := omega) [-List.getD_eq_getElem?_getD, List.getD_cons_zero, List.getD_cons_succ, kCast_self, dfl_pair, dfl_int, w64, wu64] <;> omega) | (simp_all [-List.getD_eq_getElem?_getD] <;> omega))
            · have hbit' : w.testBit k = false := by simpa using hbit
              refine Goods.to 2000 [.b true, .c (.of hw1), .s 23 (some false) true true, .s 38 (some true) true true, .c (.of hb1), .b false, .b false, .l, .stop] mixed (ih0) (by kernel_rfl) ?_
              show Yes _
              repeat' apply And.intro
              (all_goals first | rfl | assumption | trivial | omega | (simp [-List.getD_eq_getElem?_getD] <;> omega) | (simp (disch := omega) only [w64, wu64] <;> omega) | (simp (disch := omega) [-List.getD_eq_getElem?_getD, List.getD_cons_zero, List.getD_cons_succ, kCast_self, dfl_pair, dfl_int, w64, wu64] <;> omega) | (rw [Bool.eq_iff_iff]; simp (disch := omega) [-List.getD_eq_getElem?_getD, List.getD_cons_zero, List.getD_cons_succ, kCast_self, dfl_pair, dfl_int, w64, wu64] <;> omega) | (simp_all [-List.getD_eq_getElem?_getD] <;> omega))
        · by_cases hbit : w.testBit k = true
          · refine Goods.to 2000 [.b true, .c (.of hw1), .s 23 (some false) true true, .s 38 (some false) true true, .b true, .c (.of hpw), .l, .stop] mixed (ih1) (by kernel_rfl) ?_
            show Yes _
            repeat' apply And.intro
            (all_goals first | rfl | assumption | trivial | omega | (simp [-List.getD_eq_getElem?_getD] <;> omega) | (simp (disch := omega) only [w64, wu64] <;> omega) | (simp (disch := omega) [-List.getD_eq_getElem?_getD, List.getD_cons_zero, List.getD_cons_succ, kCast_self, dfl_pair, dfl_int, w64, wu64] <;> omega) | (rw [Bool.eq_iff_iff]; simp (disch := omega) [-List.getD_eq_getElem?_getD, List.getD_cons_zero, List.getD_cons_succ, kCast_self, dfl_pair, dfl_int, w64, wu64] <;> omega) | (simp_all [-List.getD_eq_getElem?_getD] <;> omega))
          · have hbit' : w.testBit k = false := by simpa using hbit
            refine Goods.to 2000 [.b true, .c (.of hw1), .s 23 (some false) true true, .s 38 (some false) true true, .b false, .l, .stop] mixed (ih0) (by kernel_rfl) ?_
            show Yes _
            repeat' apply And.intro
            (all_goals first | rfl | assumption | trivial | omega | (simp [-List.getD_eq_getElem?_getD] <;> omega) | (simp (disch := omega) only [w64, wu64] <;> omega) | (simp (disch := omega) [-List.getD_eq_getElem?_getD, List.getD_cons_zero, List.getD_cons_succ, kCast_self, dfl_pair, dfl_int, w64, wu64] <;> omega) | (rw [Bool.eq_iff_iff]; simp (disch := omega) [-List.getD_eq_getElem?_getD, List.getD_cons_zero, List.getD_cons_succ, kCast_self, dfl_pair, dfl_int, w64, wu64] <;> omega) | (simp_all [-List.getD_eq_getElem?_getD] <;> omega))
      omega
theorem rput_no (w n a b : Nat) (hw : w < 18446744073709551616) (hn2 : n < 18446744073709551616) (hab : a + b ≤ 64) (hn : ¬ n < 2 ^ b) : Tri En 17 [.int .u64 w, .int .u64 n, .int .i64 a, .int .i64 b] [] (.tuple [.int .u64 w, .bl false]) [] := by
  have hm : ∃ m, b ≤ m ∧ m < 64 ∧ n.testBit m = true := by
    apply Classical.byContradiction
    intro hno
    refine hn (Nat.lt_pow_two_of_testBit n fun i hi => ?_)
    by_cases h64 : i < 64
    · apply Classical.byContradiction
      intro hb
      exact hno ⟨i, hi, h64, by simpa using hb⟩
    · exact high_bit (b := 64) (by rw [pow64]; exact hn2) (by omega)
  have ih := rputn_0 w n a b hw hn2 (by omega) hab hm 64 0 0 (by omega)
  refine Tri.of Tryd.func17 rfl Tryd.call17 rfl ?_
  refine Goods.to 2000 [.l, .stop] mixed (ih) (by kernel_rfl) ?_
  show Yes _
  repeat' apply And.intro
  (all_goals first | rfl | assumption | trivial | omega | (simp [-List.getD_eq_getElem?_getD] <;> omega) | (simp (disch := omega) only [w64, wu64] <;> omega) | (simp (disch := omega) [-List.getD_eq_getElem?_getD, List.getD_cons_zero, List.getD_cons_succ, kCast_self, dfl_pair, dfl_int, w64, wu64] <;> omega) | (rw [Bool.eq_iff_iff]; simp (disch := omega) [-List.getD_eq_getElem?_getD, List.getD_cons_zero, List.getD_cons_succ, kCast_self, dfl_pair, dfl_int, w64, wu64] <;> omega) | (simp_all [-List.getD_eq_getElem?_getD] <;> omega))
end Go.Proofs.YtlabfkllndmjhaaDoor.E
