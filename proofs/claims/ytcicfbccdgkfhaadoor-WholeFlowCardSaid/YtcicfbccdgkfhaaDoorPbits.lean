/- What the document says of fields of bits: its own functions' contracts. -/
import Derived.Test.YtcicfbccdgkfhaaDoorPword
namespace Go.Proofs.YtcicfbccdgkfhaaDoor.E
set_option linter.unusedSimpArgs false
set_option linter.unusedVariables false
open Go
set_option maxRecDepth 100000

theorem bit_of (w n : Nat) : (Int.tmod ((w / 2 ^ n : Nat) : Int) 2 == 1) = w.testBit n := by
  rw [Nat.testBit_eq_decide_div_mod_eq]
  generalize w / 2 ^ n = y
  rw [Int.tmod_eq_emod_of_nonneg (by omega), Bool.eq_iff_iff]
  simp
  omega
theorem getN_succ (w a k : Nat) : getN w a (k + 1) = getN w a k + (if w.testBit (a + k) then 2 ^ k else 0) := by
  unfold getN
  rw [Nat.mod_pow_succ, Nat.testBit_eq_decide_div_mod_eq, Nat.pow_add 2 a k, ← Nat.div_div_eq_div_mul]
  have h2 := Nat.mod_two_eq_zero_or_one (w / 2 ^ a / 2 ^ k)
  rcases h2 with h2 | h2 <;> simp [h2]
end Go.Proofs.YtcicfbccdgkfhaaDoor.E
