/- Package mask: the functions with loops. -/
import Derived.Test.YtcicfbccdgkfhaaPmask
namespace Go.Proofs.Ytcicfbccdgkfhaa.E
set_option linter.unusedSimpArgs false
set_option linter.unusedVariables false
open Go
set_option maxRecDepth 100000

theorem and_lt64 (x y : Nat) (hx : x < 18446744073709551616) : x &&& y < 18446744073709551616 := Nat.lt_of_le_of_lt Nat.and_le_left hx
theorem or_lt64 {x y : Nat} (hx : x < 18446744073709551616) (hy : y < 18446744073709551616) : x ||| y < 18446744073709551616 := by
  rw [← pow64] at hx hy ⊢; exact Nat.or_lt_two_pow hx hy
theorem pow_lt64 {t : Nat} (h : t < 64) : 2 ^ t < 18446744073709551616 := by rw [← pow64]; exact Nat.pow_lt_pow_right (by omega) h
theorem bits_zero {x : Nat} (hx : x < 18446744073709551616) (h : (bitsL x).length = 0) : x = 0 := L_nil (by rw [pow64]; exact hx) (List.eq_nil_of_length_eq_zero h)
theorem bits_ne {x j : Nat} (h : (bitsL x).length = j + 1) : x ≠ 0 := by rintro rfl; rw [L_zero] at h; simp at h
/-- All of so many numbers in a row are there. -/
def runOk (m n i : Nat) : Prop := ∀ k, k < n → m.testBit (i + k) = true
theorem run_and (m n i : Nat) : m &&& (2 ^ n - 1) * 2 ^ i = (2 ^ n - 1) * 2 ^ i ↔ runOk m n i := by
  constructor
  · intro h k hk
    have h1 : (m &&& (2 ^ n - 1) * 2 ^ i).testBit (i + k) = ((2 ^ n - 1) * 2 ^ i).testBit (i + k) := by rw [h]
    rw [Nat.testBit_and, Nat.testBit_mul_two_pow, Nat.testBit_two_pow_sub_one] at h1
    simpa [hk] using h1
  · intro h
    apply Nat.eq_of_testBit_eq
    intro j
    rw [Nat.testBit_and, Nat.testBit_mul_two_pow, Nat.testBit_two_pow_sub_one]
    by_cases hj : i ≤ j ∧ j - i < n
    · have := h (j - i) hj.2
      rw [show i + (j - i) = j by omega] at this
      simp [hj, this]
    · have : (decide (i ≤ j) && decide (j - i < n)) = false := by simp; omega
      rw [this]; simp
end Go.Proofs.Ytcicfbccdgkfhaa.E
