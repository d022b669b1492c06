/- Package mask: the functions with loops. -/
import Derived.Test.YtcicfbccdgkfhaaDoorPmask
namespace Go.Proofs.YtcicfbccdgkfhaaDoor.E
set_option linter.unusedSimpArgs false
set_option linter.unusedVariables false
open Go
set_option maxRecDepth 100000

theorem and_lt64 (x y : Nat) (hx : x < 18446744073709551616) : x &&& y < 18446744073709551616 := Nat.lt_of_le_of_lt Nat.and_le_left hx
theorem or_lt64 {x y : Nat} (hx : x < 18446744073709551616) (hy : y < 18446744073709551616) : x ||| y < 18446744073709551616 := by
  rw [← pow64] at hx hy ⊢; exact Nat.or_lt_two_pow hx hy
theorem pow_lt64 {t : Nat} (h : t < 64) : 2 ^ t < 18446744073709551616 := by rw [← pow64]; exact Nat.pow_lt_pow_right (by omega) h
theorem bits_zero {x : Nat} (hx : x < 18446744073709551616) (h : (bitsL x).length = 0) : x = 0 := L_nil (by rw [pow64]; exact hx) (List.eq_nil_of_length_eq_zero h)
theorem bits_ne {x j : Nat} (h : (bitsL x).length = j + 1) : x ≠ 0 := by rintro rfl; rw [L_zero] at h; simp at h
noncomputable abbrev gLeast (r : Nat) : Frm := ⟨En, 102, Tryd.f102.ntmps, [], .int .u64 r, []⟩
theorem least_0 (r : Nat) : ∀ (j x : Nat) (n : Int) (out : Nat), (bitsL x).length = j → x < 18446744073709551616 → out < 18446744073709551616 → n ≤ 9223372036854775807 → r = out ||| setS ((bitsL x).take n.toNat) → Goods (gLeast r) ⟨.none, lp Tryd.f102 0, [(0, .int .u64 x), (1, .int .i64 n), (5, .int .u64 out)], hp []⟩
  | 0, x, n, out, h, hx, ho, hn, hr => by
    obtain rfl := bits_zero hx h
    have e : r = out := by rw [hr, L_zero]; simp [setS]
    refine Goods.fin 2000 [.s 7 (some false) true true] mixed Tryd.func102 ?_
    show Yes _
    repeat' apply And.intro
    (all_goals first | rfl | assumption | trivial | omega | (simp [-List.getD_eq_getElem?_getD, e] <;> omega) | (simp (disch := omega) only [w64, wu64] <;> omega) | (simp (disch := omega) [-List.getD_eq_getElem?_getD, List.getD_cons_zero, List.getD_cons_succ, kCast_self, dfl_pair, dfl_int, w64, wu64, e] <;> omega) | (rw [Bool.eq_iff_iff]; simp (disch := omega) [-List.getD_eq_getElem?_getD, List.getD_cons_zero, List.getD_cons_succ, kCast_self, dfl_pair, dfl_int, w64, wu64, e] <;> omega) | (simp_all [-List.getD_eq_getElem?_getD] <;> omega))
  | j + 1, x, n, out, h, hx, ho, hn, hr => by
    have h0 := bits_ne h
    by_cases hn0 : 0 < n
    · obtain ⟨t, ht, hL, hlow, _⟩ := L_cons (by rw [pow64]; exact hx) h0
      have e1 := lowest_eq h0 hx hlow
      have e2 := clr_eq h0 hx
      have e3 := or_eq out (2 ^ t) ho (pow_lt64 ht)
      rw [← e1] at e3
      have hr' : r = (out ||| 2 ^ t) ||| setS ((bitsL (x &&& (x - 1))).take (n - 1).toNat) := by
        rw [hr, hL, show n.toNat = (n - 1).toNat + 1 by omega, List.take_succ_cons, setS, Nat.or_assoc]
      have ih := least_0 r j (x &&& (x - 1)) (n - 1) (out ||| 2 ^ t) (by rw [hL] at h; simpa using h) (and_lt64 _ _ hx) (or_lt64 ho (pow_lt64 ht)) (by omega) hr'
      refine Goods.to 2000 [.s 7 (some true) true true, .b true, .l, .stop] mixed (ih) (by kernel_rfl) ?_
      show Yes _
      repeat' apply And.intro
      (all_goals first | rfl | assumption | trivial | omega | (simp [-List.getD_eq_getElem?_getD] <;> omega) | (simp (disch := omega) only [w64, wu64] <;> omega) | (simp (disch := omega) [-List.getD_eq_getElem?_getD, List.getD_cons_zero, List.getD_cons_succ, kCast_self, dfl_pair, dfl_int, w64, wu64] <;> omega) | (rw [Bool.eq_iff_iff]; simp (disch := omega) [-List.getD_eq_getElem?_getD, List.getD_cons_zero, List.getD_cons_succ, kCast_self, dfl_pair, dfl_int, w64, wu64] <;> omega) | (simp_all [-List.getD_eq_getElem?_getD] <;> omega))
    · have e : r = out := by rw [hr, show n.toNat = 0 by omega]; simp [setS]
      refine Goods.fin 2000 [.s 7 (some true) true true, .b false] mixed Tryd.func102 ?_
      show Yes _
      repeat' apply And.intro
      (all_goals first | rfl | assumption | trivial | omega | (simp [-List.getD_eq_getElem?_getD, e] <;> omega) | (simp (disch := omega) only [w64, wu64] <;> omega) | (simp (disch := omega) [-List.getD_eq_getElem?_getD, List.getD_cons_zero, List.getD_cons_succ, kCast_self, dfl_pair, dfl_int, w64, wu64, e] <;> omega) | (rw [Bool.eq_iff_iff]; simp (disch := omega) [-List.getD_eq_getElem?_getD, List.getD_cons_zero, List.getD_cons_succ, kCast_self, dfl_pair, dfl_int, w64, wu64, e] <;> omega) | (simp_all [-List.getD_eq_getElem?_getD] <;> omega))
theorem least_tri (m : Nat) (hm : m < 18446744073709551616) (n : Int) (hn : n ≤ 9223372036854775807) : Tri En 102 [.int .u64 m, .int .i64 n] [] (.int .u64 (leastN m n)) [] := by
  have ih := least_0 (leastN m n) _ m n 0 rfl hm (by omega) hn (by unfold leastN; simp)
  refine Tri.of Tryd.func102 rfl Tryd.call102 rfl ?_
  refine Goods.to 2000 [.l, .stop] mixed (ih) (by kernel_rfl) ?_
  show Yes _
  repeat' apply And.intro
  (all_goals first | rfl | assumption | trivial | omega | (simp [-List.getD_eq_getElem?_getD] <;> omega) | (simp (disch := omega) only [w64, wu64] <;> omega) | (simp (disch := omega) [-List.getD_eq_getElem?_getD, List.getD_cons_zero, List.getD_cons_succ, kCast_self, dfl_pair, dfl_int, w64, wu64] <;> omega) | (rw [Bool.eq_iff_iff]; simp (disch := omega) [-List.getD_eq_getElem?_getD, List.getD_cons_zero, List.getD_cons_succ, kCast_self, dfl_pair, dfl_int, w64, wu64] <;> omega) | (simp_all [-List.getD_eq_getElem?_getD] <;> omega))
/-- All of so many numbers in a row are there. -/
def runOk (m n i : Nat) : Prop := ∀ k, k < n → m.testBit (i + k) = true
theorem run_and (m n i : Nat) : m &&& (2 ^ n - 1) * 2 ^ i = (2 ^ n - 1) * 2 ^ i ↔ runOk m n i := by
  constructor
  · intro h k hk
    have h1 : (m &&& (2 ^ n - 1) * 2 ^ i).testBit (i + k) = ((2 ^ n - 1) * 2 ^ i).testBit (i + k) := by rw [h]
    rw [Nat.testBit_and, Nat.testBit_mul_two_pow, Nat.testBit_two_pow_sub_one] at h1
    simpa [hk] using h1
  · intro h
    apply Nat.eq_of_testBit_eq
    intro j
    rw [Nat.testBit_and, Nat.testBit_mul_two_pow, Nat.testBit_two_pow_sub_one]
    by_cases hj : i ≤ j ∧ j - i < n
    · have := h (j - i) hj.2
      rw [show i + (j - i) = j by omega] at this
      simp [hj, this]
    · have : (decide (i ≤ j) && decide (j - i < n)) = false := by simp; omega
      rw [this]; simp
theorem run_test (m n i : Nat) (hm : m < 18446744073709551616) (hn1 : 1 ≤ n) (hn : i + n ≤ 64) : IntKind.u64.wrap ((lowN n : Int) * 2 ^ min (IntKind.u64.wrap (i : Int)).toNat IntKind.u64.bits) = (((2 ^ n - 1) * 2 ^ i : Nat) : Int) ∧
    (IntKind.u64.wrap (BitVec.ofInt IntKind.u64.bits (m : Int) &&& BitVec.ofInt IntKind.u64.bits (((2 ^ n - 1) * 2 ^ i : Nat) : Int)).toNat == (((2 ^ n - 1) * 2 ^ i : Nat) : Int)) = decide (m &&& (2 ^ n - 1) * 2 ^ i = (2 ^ n - 1) * 2 ^ i) := by
  have hlt : (2 ^ n - 1) * 2 ^ i < 18446744073709551616 := by
    have h1 : 2 ^ n * 2 ^ i ≤ 18446744073709551616 := by rw [← Nat.pow_add]; exact pow_le64 (by omega)
    have h2 : 0 < 2 ^ i := Nat.pow_pos (by omega)
    have h3 : 1 ≤ 2 ^ n := Nat.one_le_two_pow
    rw [Nat.sub_mul]; omega
  have e : lowN n = 2 ^ n - 1 := by unfold lowN; rw [Int.toNat_natCast, show min n 64 = n by omega]
  refine ⟨by rw [e, shl_eq _ (by omega), Nat.mod_eq_of_lt hlt], ?_⟩
  rw [and_eq _ _ hm hlt, Bool.eq_iff_iff]
  simp
  exact_mod_cast Iff.rfl
noncomputable abbrev gRun (v : AV) : Frm := ⟨En, 94, Tryd.f94.ntmps, [], v, []⟩
theorem run_y (m n i : Nat) (hm : m < 18446744073709551616) (hn1 : 1 ≤ n) (hn : i + n ≤ 64) (hr : runOk m n i) (hf : ∀ j, j < i → ¬ runOk m n j) : ∀ (j k : Nat), k + j = i → Goods (gRun (.tuple [.int .i64 i, .bl true])) ⟨.none, lp Tryd.f94 0, [(0, .int .u64 m), (1, .int .i64 n), (6, .int .i64 k)], hp []⟩
  | 0, k, h => by
    obtain rfl : k = i := by omega
    have hl := low_tri n
    obtain ⟨e1, e2⟩ := run_test m n k hm hn1 hn
    rw [decide_eq_true ((run_and m n k).2 hr)] at e2
    have e0 := sh_pos (a := k) (by omega)
    refine Goods.fin 2000 [.b true, .c (.of hl), .b true] mixed Tryd.func94 ?_
    show Yes _
    repeat' apply And.intro
    (all_goals first | rfl | assumption | trivial | omega | (simp [-List.getD_eq_getElem?_getD, e1, e2] <;> omega) | (simp (disch := omega) only [w64, wu64] <;> omega) | (simp (disch := omega) [-List.getD_eq_getElem?_getD, List.getD_cons_zero, List.getD_cons_succ, kCast_self, dfl_pair, dfl_int, w64, wu64, e1, e2] <;> omega) | (rw [Bool.eq_iff_iff]; simp (disch := omega) [-List.getD_eq_getElem?_getD, List.getD_cons_zero, List.getD_cons_succ, kCast_self, dfl_pair, dfl_int, w64, wu64, e1, e2] <;> omega) | (simp_all [-List.getD_eq_getElem?_getD] <;> omega))
  | j + 1, k, h => by
    have ih := run_y m n i hm hn1 hn hr hf j (k + 1) (by omega)
    have hl := low_tri n
    obtain ⟨e1, e2⟩ := run_test m n k hm hn1 (by omega)
    rw [decide_eq_false (fun h => hf k (by omega) ((run_and m n k).1 h))] at e2
    have e0 := sh_pos (a := k) (by omega)
    refine Goods.to 2000 [.b true, .c (.of hl), .b false, .l, .stop] mixed (ih) (by kernel_rfl) ?_
    show Yes _
    repeat' apply And.intro
    (all_goals first | rfl | assumption | trivial | omega | (simp [-List.getD_eq_getElem?_getD, e1, e2] <;> omega) | (simp (disch := omega) only [w64, wu64] <;> omega) | (simp (disch := omega) [-List.getD_eq_getElem?_getD, List.getD_cons_zero, List.getD_cons_succ, kCast_self, dfl_pair, dfl_int, w64, wu64, e1, e2] <;> omega) | (rw [Bool.eq_iff_iff]; simp (disch := omega) [-List.getD_eq_getElem?_getD, List.getD_cons_zero, List.getD_cons_succ, kCast_self, dfl_pair, dfl_int, w64, wu64, e1, e2] <;> omega) | (simp_all [-List.getD_eq_getElem?_getD] <;> omega))
theorem run_n (m n : Nat) (hm : m < 18446744073709551616) (hn1 : 1 ≤ n) (hn : n ≤ 64) (hf : ∀ j, j + n ≤ 64 → ¬ runOk m n j) : ∀ (j k : Nat), k + j + n = 65 → Goods (gRun (.tuple [.int .i64 0, .bl false])) ⟨.none, lp Tryd.f94 0, [(0, .int .u64 m), (1, .int .i64 n), (6, .int .i64 k)], hp []⟩
  | 0, k, h => by
    refine Goods.fin 2000 [.b false] mixed Tryd.func94 ?_
    show Yes _
    repeat' apply And.intro
    (all_goals first | rfl | assumption | trivial | omega | (simp [-List.getD_eq_getElem?_getD] <;> omega) | (simp (disch := omega) only [w64, wu64] <;> omega) | (simp (disch := omega) [-List.getD_eq_getElem?_getD, List.getD_cons_zero, List.getD_cons_succ, kCast_self, dfl_pair, dfl_int, w64, wu64] <;> omega) | (rw [Bool.eq_iff_iff]; simp (disch := omega) [-List.getD_eq_getElem?_getD, List.getD_cons_zero, List.getD_cons_succ, kCast_self, dfl_pair, dfl_int, w64, wu64] <;> omega) | (simp_all [-List.getD_eq_getElem?_getD] <;> omega))
  | j + 1, k, h => by
    have ih := run_n m n hm hn1 hn hf j (k + 1) (by omega)
    have hl := low_tri n
    obtain ⟨e1, e2⟩ := run_test m n k hm hn1 (by omega)
    rw [decide_eq_false (fun h => hf k (by omega) ((run_and m n k).1 h))] at e2
    have e0 := sh_pos (a := k) (by omega)
    refine Goods.to 2000 [.b true, .c (.of hl), .b false, .l, .stop] mixed (ih) (by kernel_rfl) ?_
    show Yes _
    repeat' apply And.intro
    (all_goals first | rfl | assumption | trivial | omega | (simp [-List.getD_eq_getElem?_getD, e1, e2] <;> omega) | (simp (disch := omega) only [w64, wu64] <;> omega) | (simp (disch := omega) [-List.getD_eq_getElem?_getD, List.getD_cons_zero, List.getD_cons_succ, kCast_self, dfl_pair, dfl_int, w64, wu64, e1, e2] <;> omega) | (rw [Bool.eq_iff_iff]; simp (disch := omega) [-List.getD_eq_getElem?_getD, List.getD_cons_zero, List.getD_cons_succ, kCast_self, dfl_pair, dfl_int, w64, wu64, e1, e2] <;> omega) | (simp_all [-List.getD_eq_getElem?_getD] <;> omega))
theorem run_yes (m n i : Nat) (hm : m < 18446744073709551616) (hn1 : 1 ≤ n) (hn : i + n ≤ 64) (hr : runOk m n i) (hf : ∀ j, j < i → ¬ runOk m n j) : Tri En 94 [.int .u64 m, .int .i64 n] [] (.tuple [.int .i64 i, .bl true]) [] := by
  have ih := run_y m n i hm hn1 hn hr hf i 0 (by omega)
  refine Tri.of Tryd.func94 rfl Tryd.call94 rfl ?_
  refine Goods.to 2000 [.s 9 (some false) true true, .s 12 (some false) true true, .l, .stop] mixed (ih) (by kernel_rfl) ?_
  show Yes _
  repeat' apply And.intro
  (all_goals first | rfl | assumption | trivial | omega | (simp [-List.getD_eq_getElem?_getD] <;> omega) | (simp (disch := omega) only [w64, wu64] <;> omega) | (simp (disch := omega) [-List.getD_eq_getElem?_getD, List.getD_cons_zero, List.getD_cons_succ, kCast_self, dfl_pair, dfl_int, w64, wu64] <;> omega) | (rw [Bool.eq_iff_iff]; simp (disch := omega) [-List.getD_eq_getElem?_getD, List.getD_cons_zero, List.getD_cons_succ, kCast_self, dfl_pair, dfl_int, w64, wu64] <;> omega) | (simp_all [-List.getD_eq_getElem?_getD] <;> omega))
theorem run_no (m : Nat) (hm : m < 18446744073709551616) (n : Int) (hf : 1 ≤ n → n ≤ 64 → ∀ j, j + n.toNat ≤ 64 → ¬ runOk m n.toNat j) : Tri En 94 [.int .u64 m, .int .i64 n] [] (.tuple [.int .i64 0, .bl false]) [] := by
  refine Tri.of Tryd.func94 rfl Tryd.call94 rfl ?_
  by_cases h1 : 1 ≤ n
  · by_cases h2 : n ≤ 64
    · obtain ⟨b, rfl⟩ : ∃ b : Nat, n = b := ⟨n.toNat, by omega⟩
      have ih := run_n m b hm (by omega) (by omega) (by simpa using hf h1 h2) (65 - b) 0 (by omega)
      refine Goods.to 2000 [.s 9 (some false) true true, .s 12 (some false) true true, .l, .stop] mixed (ih) (by kernel_rfl) ?_
      show Yes _
      repeat' apply And.intro
      (all_goals first | rfl | assumption | trivial | omega | (simp [-List.getD_eq_getElem?_getD] <;> omega) | (simp (disch := omega) only [w64, wu64] <;> omega) | (simp (disch := omega) [-List.getD_eq_getElem?_getD, List.getD_cons_zero, List.getD_cons_succ, kCast_self, dfl_pair, dfl_int, w64, wu64] <;> omega) | (rw [Bool.eq_iff_iff]; simp (disch := omega) [-List.getD_eq_getElem?_getD, List.getD_cons_zero, List.getD_cons_succ, kCast_self, dfl_pair, dfl_int, w64, wu64] <;> omega) | (simp_all [-List.getD_eq_getElem?_getD] <;> omega))
    · refine Goods.fin 2000 [.s 9 (some false) true true, .s 12 (some true) true true] mixed Tryd.func94 ?_
      show Yes _
      repeat' apply And.intro
      (all_goals first | rfl | assumption | trivial | omega | (simp [-List.getD_eq_getElem?_getD] <;> omega) | (simp (disch := omega) only [w64, wu64] <;> omega) | (simp (disch := omega) [-List.getD_eq_getElem?_getD, List.getD_cons_zero, List.getD_cons_succ, kCast_self, dfl_pair, dfl_int, w64, wu64] <;> omega) | (rw [Bool.eq_iff_iff]; simp (disch := omega) [-List.getD_eq_getElem?_getD, List.getD_cons_zero, List.getD_cons_succ, kCast_self, dfl_pair, dfl_int, w64, wu64] <;> omega) | (simp_all [-List.getD_eq_getElem?_getD] <;> omega))
  · refine Goods.fin 2000 [.s 9 (some true) true true] mixed Tryd.func94 ?_
    show Yes _
    repeat' apply And.intro
    (all_goals first | rfl | assumption | trivial | omega | (simp [-List.getD_eq_getElem?_getD] <;> omega) | (simp (disch := omega) only [w64, wu64] <;> omega) | (simp (disch := omega) [-List.getD_eq_getElem?_getD, List.getD_cons_zero, List.getD_cons_succ, kCast_self, dfl_pair, dfl_int, w64, wu64] <;> omega) | (rw [Bool.eq_iff_iff]; simp (disch := omega) [-List.getD_eq_getElem?_getD, List.getD_cons_zero, List.getD_cons_succ, kCast_self, dfl_pair, dfl_int, w64, wu64] <;> omega) | (simp_all [-List.getD_eq_getElem?_getD] <;> omega))
noncomputable abbrev gList (l : List Int) : Frm := ⟨En, 75, Tryd.f75.ntmps, [], .slice 0 0 l.length, [.tab true (.int .i64) l]⟩
theorem list_0 (l : List Int) (hl64 : l.length ≤ 64) : ∀ (j x : Nat) (out : List Int), (bitsL x).length = j → x < 18446744073709551616 → out ++ intsL (bitsL x) = l → Goods (gList l) ⟨.none, lp Tryd.f75 0, [(0, .int .u64 x), (3, .slice 0 0 out.length)], hp [.tab true (.int .i64) out]⟩
  | 0, x, out, h, hx, hr => by
    obtain rfl := bits_zero hx h
    have e : out = l := by rw [← hr, L_zero]; simp [intsL]
    subst e
    refine Goods.fin 2000 [.b false] mixed Tryd.func75 ?_
    show Yes _
    repeat' apply And.intro
    (all_goals first | rfl | assumption | trivial | omega | (simp [-List.getD_eq_getElem?_getD] <;> omega) | (simp (disch := omega) only [w64, wu64] <;> omega) | (simp (disch := omega) [-List.getD_eq_getElem?_getD, List.getD_cons_zero, List.getD_cons_succ, kCast_self, dfl_pair, dfl_int, w64, wu64] <;> omega) | (rw [Bool.eq_iff_iff]; simp (disch := omega) [-List.getD_eq_getElem?_getD, List.getD_cons_zero, List.getD_cons_succ, kCast_self, dfl_pair, dfl_int, w64, wu64] <;> omega) | (simp_all [-List.getD_eq_getElem?_getD] <;> omega))
  | j + 1, x, out, h, hx, hr => by
    have h0 := bits_ne h
    obtain ⟨t, ht, hL, hlow, _⟩ := L_cons (by rw [pow64]; exact hx) h0
    have e2 := clr_eq h0 hx
    have hft := first_tri x hx
    rw [show firstN x = t by unfold firstN; rw [hL]; rfl] at hft
    have hle : out.length + 1 ≤ 64 := by rw [← hr, hL] at hl64; simp [intsL] at hl64; omega
    have ih := list_0 l hl64 j (x &&& (x - 1)) (out ++ [(t : Int)]) (by rw [hL] at h; simpa using h) (and_lt64 _ _ hx) (by rw [← hr, hL]; simp [intsL])
    refine Goods.to 2000 [.b true, .c (.of hft), .l, .stop] mixed (ih) (by kernel_rfl) ?_
    show Yes _
    repeat' apply And.intro
    (all_goals first | rfl | assumption | trivial | omega | (simp [-List.getD_eq_getElem?_getD] <;> omega) | (simp (disch := omega) only [w64, wu64] <;> omega) | (simp (disch := omega) [-List.getD_eq_getElem?_getD, List.getD_cons_zero, List.getD_cons_succ, kCast_self, dfl_pair, dfl_int, w64, wu64] <;> omega) | (rw [Bool.eq_iff_iff]; simp (disch := omega) [-List.getD_eq_getElem?_getD, List.getD_cons_zero, List.getD_cons_succ, kCast_self, dfl_pair, dfl_int, w64, wu64] <;> omega) | (simp_all [-List.getD_eq_getElem?_getD] <;> omega))
theorem list_tri (m : Nat) (hm : m < 18446744073709551616) : Tri En 75 [.int .u64 m] [] (.slice 0 0 (intsL (bitsL m)).length) [.tab true (.int .i64) (intsL (bitsL m))] := by
  have ih := list_0 (intsL (bitsL m)) (by rw [intsL_len]; exact L_le m) _ m [] rfl hm rfl
  refine Tri.of Tryd.func75 rfl Tryd.call75 rfl ?_
  refine Goods.to 2000 [.l, .stop] mixed (ih) (by kernel_rfl) ?_
  show Yes _
  repeat' apply And.intro
  (all_goals first | rfl | assumption | trivial | omega | (simp [-List.getD_eq_getElem?_getD] <;> omega) | (simp (disch := omega) only [w64, wu64] <;> omega) | (simp (disch := omega) [-List.getD_eq_getElem?_getD, List.getD_cons_zero, List.getD_cons_succ, kCast_self, dfl_pair, dfl_int, w64, wu64] <;> omega) | (rw [Bool.eq_iff_iff]; simp (disch := omega) [-List.getD_eq_getElem?_getD, List.getD_cons_zero, List.getD_cons_succ, kCast_self, dfl_pair, dfl_int, w64, wu64] <;> omega) | (simp_all [-List.getD_eq_getElem?_getD] <;> omega))
end Go.Proofs.YtcicfbccdgkfhaaDoor.E
