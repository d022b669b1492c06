/- What the document says of fields of bits: its own functions' contracts. -/
import Derived.Test.YtlabfkllndmjhaaDoorPword
namespace Go.Proofs.YtlabfkllndmjhaaDoor.E
open Go
set_option maxRecDepth 100000

theorem rright_yes (a b : Int) (h : FldOk a b) : Tri En 11 [.int .i64 a, .int .i64 b] [] (.bl true) [] := by
  obtain ⟨a0, b1, a1, b2⟩ := h
  refine Tri.of Tryd.func11 rfl Tryd.call11 rfl ?_
  refine Goods.fin 2000 [.s 6 (some true) true true, .s 9 (some true) true true, .s 13 (some true) true true, .s 17 (some true) true true] mixed Tryd.func11 ?_
  show Yes _
  repeat' apply And.intro
  (all_goals first | rfl | assumption | trivial | omega | (simp [-List.getD_eq_getElem?_getD] <;> omega) | (simp (disch := omega) only [w64, wu64] <;> omega) | (simp (disch := omega) [-List.getD_eq_getElem?_getD, List.getD_cons_zero, List.getD_cons_succ, kCast_self, dfl_pair, dfl_int, w64, wu64] <;> omega) | (rw [Bool.eq_iff_iff]; simp (disch := omega) [-List.getD_eq_getElem?_getD, List.getD_cons_zero, List.getD_cons_succ, kCast_self, dfl_pair, dfl_int, w64, wu64] <;> omega) | (simp_all [-List.getD_eq_getElem?_getD] <;> omega))
theorem rright_no (a b : Int) (h : ¬ FldOk a b) : Tri En 11 [.int .i64 a, .int .i64 b] [] (.bl false) [] := by
  refine Tri.of Tryd.func11 rfl Tryd.call11 rfl ?_
  by_cases a0 : 0 ≤ a
  · by_cases a1 : a ≤ 63
    · by_cases b1 : 1 ≤ b
      · by_cases b2 : b ≤ 64
        · have b3 : ¬ b ≤ 64 - a := fun x => h ⟨a0, b1, a1, x⟩
          refine Goods.fin 2000 [.s 6 (some true) true true, .s 9 (some true) true true, .s 13 (some true) true true, .s 17 (some true) true true] mixed Tryd.func11 ?_
          show Yes _
          repeat' apply And.intro
          (all_goals first | rfl | assumption | trivial | omega | (simp [-List.getD_eq_getElem?_getD] <;> omega) | (simp (disch := omega) only [w64, wu64] <;> omega) | (simp (disch := omega) [-List.getD_eq_getElem?_getD, List.getD_cons_zero, List.getD_cons_succ, kCast_self, dfl_pair, dfl_int, w64, wu64] <;> omega) | (rw [Bool.eq_iff_iff]; simp (disch := omega) [-List.getD_eq_getElem?_getD, List.getD_cons_zero, List.getD_cons_succ, kCast_self, dfl_pair, dfl_int, w64, wu64] <;> omega) | (simp_all [-List.getD_eq_getElem?_getD] <;> omega))
        · refine Goods.fin 2000 [.s 6 (some true) true true, .s 9 (some true) true true, .s 13 (some true) true true, .s 17 (some false) true true] mixed Tryd.func11 ?_
          show Yes _
          repeat' apply And.intro
          (all_goals first | rfl | assumption | trivial | omega | (simp [-List.getD_eq_getElem?_getD] <;> omega) | (simp (disch := omega) only [w64, wu64] <;> omega) | (simp (disch := omega) [-List.getD_eq_getElem?_getD, List.getD_cons_zero, List.getD_cons_succ, kCast_self, dfl_pair, dfl_int, w64, wu64] <;> omega) | (rw [Bool.eq_iff_iff]; simp (disch := omega) [-List.getD_eq_getElem?_getD, List.getD_cons_zero, List.getD_cons_succ, kCast_self, dfl_pair, dfl_int, w64, wu64] <;> omega) | (simp_all [-List.getD_eq_getElem?_getD] <;> omega))
      · refine Goods.fin 2000 [.s 6 (some true) true true, .s 9 (some true) true true, .s 13 (some false) true true] mixed Tryd.func11 ?_
        show Yes _
        repeat' apply And.intro
        (all_goals first | rfl | assumption | trivial | omega | (simp [-List.getD_eq_getElem?_getD] <;> omega) | (simp (disch := omega) only [w64, wu64] <;> omega) | (simp (disch := omega) [-List.getD_eq_getElem?_getD, List.getD_cons_zero, List.getD_cons_succ, kCast_self, dfl_pair, dfl_int, w64, wu64] <;> omega) | (rw [Bool.eq_iff_iff]; simp (disch := omega) [-List.getD_eq_getElem?_getD, List.getD_cons_zero, List.getD_cons_succ, kCast_self, dfl_pair, dfl_int, w64, wu64] <;> omega) | (simp_all [-List.getD_eq_getElem?_getD] <;> omega))
    · refine Goods.fin 2000 [.s 6 (some true) true true, .s 9 (some false) true true] mixed Tryd.func11 ?_
      show Yes _
      repeat' apply And.intro
      (all_goals first | rfl | assumption | trivial | omega | (simp [-List.getD_eq_getElem?_getD] <;> omega) | (simp (disch := omega) only [w64, wu64] <;> omega) | (simp (disch := omega) [-List.getD_eq_getElem?_getD, List.getD_cons_zero, List.getD_cons_succ, kCast_self, dfl_pair, dfl_int, w64, wu64] <;> omega) | (rw [Bool.eq_iff_iff]; simp (disch := omega) [-List.getD_eq_getElem?_getD, List.getD_cons_zero, List.getD_cons_succ, kCast_self, dfl_pair, dfl_int, w64, wu64] <;> omega) | (simp_all [-List.getD_eq_getElem?_getD] <;> omega))
  · refine Goods.fin 2000 [.s 6 (some false) true true] mixed Tryd.func11 ?_
    show Yes _
    repeat' apply And.intro
    (all_goals first | rfl | assumption | trivial | omega | (simp [-List.getD_eq_getElem?_getD] <;> omega) | (simp (disch := omega) only [w64, wu64] <;> omega) | (simp (disch := omega) [-List.getD_eq_getElem?_getD, List.getD_cons_zero, List.getD_cons_succ, kCast_self, dfl_pair, dfl_int, w64, wu64] <;> omega) | (rw [Bool.eq_iff_iff]; simp (disch := omega) [-List.getD_eq_getElem?_getD, List.getD_cons_zero, List.getD_cons_succ, kCast_self, dfl_pair, dfl_int, w64, wu64] <;> omega) | (simp_all [-List.getD_eq_getElem?_getD] <;> omega))
theorem bit_of (w n : Nat) : (Int.tmod ((w / 2 ^ n : Nat) : Int) 2 == 1) = w.testBit n := by
  rw [Nat.testBit_eq_decide_div_mod_eq]
  generalize w / 2 ^ n = y
  rw [Int.tmod_eq_emod_of_nonneg (by omega), Bool.eq_iff_iff]
  simp
  omega
noncomputable abbrev gBit (w n : Nat) : Frm := ⟨En, 21, Tryd.f21.ntmps, [], .bool (w.testBit n), []⟩
theorem bit_0 (w n : Nat) (hw : w < 18446744073709551616) (hn : n ≤ 1000) : ∀ (j k : Nat), k + j = n → Goods (gBit w n) ⟨.none, lp Tryd.f21 0, [(0, .int .u64 ((w / 2 ^ k : Nat) : Int)), (1, .int .i64 n), (5, .int .i64 k)], hp []⟩
  | 0, k, h => by
    obtain rfl : k = n := by omega
    have e := bit_of w k
    refine Goods.fin 2000 [.b false] mixed Tryd.func21 ?_
    show Yes _
    repeat' apply And.intro
    (all_goals first | rfl | assumption | trivial | omega | (simp [-List.getD_eq_getElem?_getD, e] <;> omega) | (simp (disch := omega) only [w64, wu64] <;> omega) | (simp (disch := omega) [-List.getD_eq_getElem?_getD, List.getD_cons_zero, List.getD_cons_succ, kCast_self, dfl_pair, dfl_int, w64, wu64, e] <;> omega) | (rw [Bool.eq_iff_iff]; simp (disch := omega) [-List.getD_eq_getElem?_getD, List.getD_cons_zero, List.getD_cons_succ, kCast_self, dfl_pair, dfl_int, w64, wu64, e] <;> omega) | (simp_all [-List.getD_eq_getElem?_getD] <;> omega))
  | j + 1, k, h => by
    have ih := bit_0 w n hw hn j (k + 1) (by omega)
    have h1 : w / 2 ^ k ≤ w := Nat.div_le_self _ _
    have e : IntKind.u64.wrap (Int.tdiv ((w / 2 ^ k : Nat) : Int) 2) = ((w / 2 ^ (k + 1) : Nat) : Int) := by
      rw [Nat.pow_succ, ← Nat.div_div_eq_div_mul]
      generalize w / 2 ^ k = y at *
      rw [Int.tdiv_eq_ediv_of_nonneg (by omega), wu64 (by omega) (by omega)]
      omega
    refine Goods.to 2000 [.b true, .l, .stop] mixed (ih) (by kernel_rfl) ?_
    show Yes _
    repeat' apply And.intro
    (all_goals first | rfl | assumption | trivial | omega | (simp [-List.getD_eq_getElem?_getD] <;> omega) | (simp (disch := omega) only [w64, wu64] <;> omega) | (simp (disch := omega) [-List.getD_eq_getElem?_getD, List.getD_cons_zero, List.getD_cons_succ, kCast_self, dfl_pair, dfl_int, w64, wu64] <;> omega) | (rw [Bool.eq_iff_iff]; simp (disch := omega) [-List.getD_eq_getElem?_getD, List.getD_cons_zero, List.getD_cons_succ, kCast_self, dfl_pair, dfl_int, w64, wu64] <;> omega) | (simp_all [-List.getD_eq_getElem?_getD] <;> omega))
theorem bit_tri (w n : Nat) (hw : w < 18446744073709551616) (hn : n ≤ 1000) : Tri En 21 [.int .u64 w, .int .i64 n] [] (.bool (w.testBit n)) [] := by
  have ih := bit_0 w n hw hn n 0 (by omega)
  refine Tri.of Tryd.func21 rfl Tryd.call21 rfl ?_
  refine Goods.to 2000 [.l, .stop] mixed (ih) (by kernel_rfl) ?_
  show Yes _
  repeat' apply And.intro
  (all_goals first | rfl | assumption | trivial | omega | (simp [-List.getD_eq_getElem?_getD] <;> omega) | (simp (disch := omega) only [w64, wu64] <;> omega) | (simp (disch := omega) [-List.getD_eq_getElem?_getD, List.getD_cons_zero, List.getD_cons_succ, kCast_self, dfl_pair, dfl_int, w64, wu64] <;> omega) | (rw [Bool.eq_iff_iff]; simp (disch := omega) [-List.getD_eq_getElem?_getD, List.getD_cons_zero, List.getD_cons_succ, kCast_self, dfl_pair, dfl_int, w64, wu64] <;> omega) | (simp_all [-List.getD_eq_getElem?_getD] <;> omega))
noncomputable abbrev gPower (n : Nat) : Frm := ⟨En, 22, Tryd.f22.ntmps, [], .int .u64 ((2 ^ n : Nat) : Int), []⟩
theorem power_0 (n : Nat) (hn : n ≤ 63) : ∀ (j k : Nat), k + j = n → Goods (gPower n) ⟨.none, lp Tryd.f22 0, [(0, .int .i64 n), (3, .int .u64 ((2 ^ k : Nat) : Int)), (4, .int .i64 k)], hp []⟩
  | 0, k, h => by
    obtain rfl : k = n := by omega
    refine Goods.fin 2000 [.b false] mixed Tryd.func22 ?_
    show Yes _
    repeat' apply And.intro
    (all_goals first | rfl | assumption | trivial | omega | (simp [-List.getD_eq_getElem?_getD] <;> omega) | (simp (disch := omega) only [w64, wu64] <;> omega) | (simp (disch := omega) [-List.getD_eq_getElem?_getD, List.getD_cons_zero, List.getD_cons_succ, kCast_self, dfl_pair, dfl_int, w64, wu64] <;> omega) | (rw [Bool.eq_iff_iff]; simp (disch := omega) [-List.getD_eq_getElem?_getD, List.getD_cons_zero, List.getD_cons_succ, kCast_self, dfl_pair, dfl_int, w64, wu64] <;> omega) | (simp_all [-List.getD_eq_getElem?_getD] <;> omega))
  | j + 1, k, h => by
    have ih := power_0 n hn j (k + 1) (by omega)
    have h1 : 2 ^ (k + 1) ≤ 2 ^ 63 := Nat.pow_le_pow_right (by omega) (by omega)
    have e : IntKind.u64.wrap (((2 ^ k : Nat) : Int) * 2) = ((2 ^ (k + 1) : Nat) : Int) := by
      rw [Nat.pow_succ] at h1 ⊢
      generalize 2 ^ k = y at *
      rw [wu64 (by omega) (by omega)]
      omega
    refine Goods.to 2000 [.b true, .l, .stop] mixed (ih) (by kernel_rfl) ?_
    show Yes _
    repeat' apply And.intro
    (all_goals first | rfl | assumption | trivial | omega | (simp [-List.getD_eq_getElem?_getD] <;> omega) | (simp (disch := omega) only [w64, wu64] <;> omega) | (simp (disch := omega) [-List.getD_eq_getElem?_getD, List.getD_cons_zero, List.getD_cons_succ, kCast_self, dfl_pair, dfl_int, w64, wu64] <;> omega) | (rw [Bool.eq_iff_iff]; simp (disch := omega) [-List.getD_eq_getElem?_getD, List.getD_cons_zero, List.getD_cons_succ, kCast_self, dfl_pair, dfl_int, w64, wu64] <;> omega) | (simp_all [-List.getD_eq_getElem?_getD] <;> omega))
theorem power_tri (n : Nat) (hn : n ≤ 63) : Tri En 22 [.int .i64 n] [] (.int .u64 ((2 ^ n : Nat) : Int)) [] := by
  have ih := power_0 n hn n 0 (by omega)
  refine Tri.of Tryd.func22 rfl Tryd.call22 rfl ?_
  refine Goods.to 2000 [.l, .stop] mixed (ih) (by kernel_rfl) ?_
  show Yes _
  repeat' apply And.intro
  (all_goals first | rfl | assumption | trivial | omega | (simp [-List.getD_eq_getElem?_getD] <;> omega) | (simp (disch := omega) only [w64, wu64] <;> omega) | (simp (disch := omega) [-List.getD_eq_getElem?_getD, List.getD_cons_zero, List.getD_cons_succ, kCast_self, dfl_pair, dfl_int, w64, wu64] <;> omega) | (rw [Bool.eq_iff_iff]; simp (disch := omega) [-List.getD_eq_getElem?_getD, List.getD_cons_zero, List.getD_cons_succ, kCast_self, dfl_pair, dfl_int, w64, wu64] <;> omega) | (simp_all [-List.getD_eq_getElem?_getD] <;> omega))
theorem getN_succ (w a k : Nat) : getN w a (k + 1) = getN w a k + (if w.testBit (a + k) then 2 ^ k else 0) := by
  unfold getN
  rw [Nat.mod_pow_succ, Nat.testBit_eq_decide_div_mod_eq, Nat.pow_add 2 a k, ← Nat.div_div_eq_div_mul]
  have h2 := Nat.mod_two_eq_zero_or_one (w / 2 ^ a / 2 ^ k)
  rcases h2 with h2 | h2 <;> simp [h2]
noncomputable abbrev gRget (w a b : Nat) : Frm := ⟨En, 15, Tryd.f15.ntmps, [], .int .u64 (getN w a b : Int), []⟩
theorem rget_0 (w a b : Nat) (hw : w < 18446744073709551616) (h : a + b ≤ 64) : ∀ (j k : Nat), k + j = b → Goods (gRget w a b) ⟨.none, lp Tryd.f15 0, [(0, .int .u64 w), (1, .int .i64 a), (2, .int .i64 b), (7, .int .u64 (getN w a k : Int)), (8, .int .i64 k)], hp []⟩
  | 0, k, hk => by
    obtain rfl : k = b := by omega
    refine Goods.fin 2000 [.b false] mixed Tryd.func15 ?_
    show Yes _
    repeat' apply And.intro
    (all_goals first | rfl | assumption | trivial | omega | (simp [-List.getD_eq_getElem?_getD] <;> omega) | (simp (disch := omega) only [w64, wu64] <;> omega) | (simp (disch := omega) [-List.getD_eq_getElem?_getD, List.getD_cons_zero, List.getD_cons_succ, kCast_self, dfl_pair, dfl_int, w64, wu64] <;> omega) | (rw [Bool.eq_iff_iff]; simp (disch := omega) [-List.getD_eq_getElem?_getD, List.getD_cons_zero, List.getD_cons_succ, kCast_self, dfl_pair, dfl_int, w64, wu64] <;> omega) | (simp_all [-List.getD_eq_getElem?_getD] <;> omega))
  | j + 1, k, hk => by
    have ih := rget_0 w a b hw h j (k + 1) (by omega)
    have hb := bit_tri w (a + k) hw (by omega)
    have hp' := power_tri k (by omega)
    have hs := getN_succ w a k
    have hl := getN_lt w a (b := k)
    have h1 : 2 ^ (k + 1) ≤ 2 ^ 64 := Nat.pow_le_pow_right (by omega) (by omega)
    rw [Nat.pow_succ, pow64] at h1
    by_cases hbit : w.testBit (a + k) = true
    · rw [if_pos hbit] at hs
      have e : IntKind.u64.wrap ((getN w a k : Int) + ((2 ^ k : Nat) : Int)) = (getN w a (k + 1) : Int) := by rw [wu64 (by omega) (by omega)]; omega
      refine Goods.to 2000 [.b true, .c (.of hb), .b true, .c (.of hp'), .l, .stop] mixed (ih) (by kernel_rfl) ?_
      show Yes _
      repeat' apply And.intro
      (all_goals first | rfl | assumption | trivial | omega | (simp [-List.getD_eq_getElem?_getD] <;> omega) | (simp (disch := omega) only [w64, wu64] <;> omega) | (simp (disch := omega) [-List.getD_eq_getElem?_getD, List.getD_cons_zero, List.getD_cons_succ, kCast_self, dfl_pair, dfl_int, w64, wu64] <;> omega) | (rw [Bool.eq_iff_iff]; simp (disch := omega) [-List.getD_eq_getElem?_getD, List.getD_cons_zero, List.getD_cons_succ, kCast_self, dfl_pair, dfl_int, w64, wu64] <;> omega) | (simp_all [-List.getD_eq_getElem?_getD] <;> omega))
    · rw [if_neg hbit] at hs
      have hbit' : w.testBit (a + k) = false := by simpa using hbit
      have e : (getN w a k : Int) = (getN w a (k + 1) : Int) := by omega
      refine Goods.to 2000 [.b true, .c (.of hb), .b false, .l, .stop] mixed (ih) (by kernel_rfl) ?_
      show Yes _
      repeat' apply And.intro
      (all_goals first | rfl | assumption | trivial | omega | (simp [-List.getD_eq_getElem?_getD] <;> omega) | (simp (disch := omega) only [w64, wu64] <;> omega) | (simp (disch := omega) [-List.getD_eq_getElem?_getD, List.getD_cons_zero, List.getD_cons_succ, kCast_self, dfl_pair, dfl_int, w64, wu64] <;> omega) | (rw [Bool.eq_iff_iff]; simp (disch := omega) [-List.getD_eq_getElem?_getD, List.getD_cons_zero, List.getD_cons_succ, kCast_self, dfl_pair, dfl_int, w64, wu64] <;> omega) | (simp_all [-List.getD_eq_getElem?_getD] <;> omega))
theorem rget_tri (w a b : Nat) (hw : w < 18446744073709551616) (h : a + b ≤ 64) : Tri En 15 [.int .u64 w, .int .i64 a, .int .i64 b] [] (.int .u64 (getN w a b : Int)) [] := by
  have ih := rget_0 w a b hw h b 0 (by omega)
  have e : getN w a 0 = 0 := by unfold getN; omega
  rw [e] at ih
  refine Tri.of Tryd.func15 rfl Tryd.call15 rfl ?_
  refine Goods.to 2000 [.l, .stop] mixed (ih) (by kernel_rfl) ?_
  show Yes _
  repeat' apply And.intro
  (all_goals first | rfl | assumption | trivial | omega | (simp [-List.getD_eq_getElem?_getD] <;> omega) | (simp (disch := omega) only [w64, wu64] <;> omega) | (simp (disch := omega) [-List.getD_eq_getElem?_getD, List.getD_cons_zero, List.getD_cons_succ, kCast_self, dfl_pair, dfl_int, w64, wu64] <;> omega) | (rw [Bool.eq_iff_iff]; simp (disch := omega) [-List.getD_eq_getElem?_getD, List.getD_cons_zero, List.getD_cons_succ, kCast_self, dfl_pair, dfl_int, w64, wu64] <;> omega) | (simp_all [-List.getD_eq_getElem?_getD] <;> omega))
end Go.Proofs.YtlabfkllndmjhaaDoor.E
