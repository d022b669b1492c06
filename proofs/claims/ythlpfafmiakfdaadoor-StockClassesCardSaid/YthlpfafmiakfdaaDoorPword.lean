/- Package word: fields of bits, their plain numbers, and the contract of each function. -/
import Derived.Test.YthlpfafmiakfdaaDoorEn
namespace Go.Proofs.YthlpfafmiakfdaaDoor.E
set_option linter.unusedSimpArgs false
set_option linter.unusedVariables false
open Go
set_option maxRecDepth 100000

def fldA (a b : Int) : AV := .agg [.int .i64 a, .int .i64 b]
/-- It can be a field. -/
structure FldOk (a b : Int) : Prop where
  a0 : 0 ≤ a
  b1 : 1 ≤ b
  a1 : a ≤ 63
  b2 : b ≤ 64 - a
/-- A word's number at a field. -/
def getN (w a b : Nat) : Nat := w / 2 ^ a % 2 ^ b
theorem pow_le64 {b : Nat} (h : b ≤ 64) : 2 ^ b ≤ 18446744073709551616 := Nat.pow_le_pow_right (by omega) h
theorem pow64 : (2 : Nat) ^ 64 = 18446744073709551616 := by decide
theorem sh_min {a : Nat} (ha : a ≤ 64) : min (IntKind.u64.wrap (a : Int)).toNat IntKind.u64.bits = a := by
  rw [wu64 (by omega) (by omega), Int.toNat_natCast]
  show min a 64 = a
  omega
theorem sh_pos {a : Nat} (ha : a ≤ 64) : 0 ≤ IntKind.u64.wrap (a : Int) := by rw [wu64 (by omega) (by omega)]; omega
theorem shr_eq (w : Nat) {a : Nat} (ha : a ≤ 64) : (w : Int).fdiv (2 ^ min (IntKind.u64.wrap (a : Int)).toNat IntKind.u64.bits) = ((w / 2 ^ a : Nat) : Int) := by
  rw [sh_min ha, Int.fdiv_eq_ediv_of_nonneg _ (Int.le_of_lt (Int.pow_pos (by omega)))]
  simp
theorem wu_nat (x : Nat) : IntKind.u64.wrap (x : Int) = ((x % 18446744073709551616 : Nat) : Int) := by
  show (x : Int) % 18446744073709551616 = _
  simp
theorem shl_eq (x : Nat) {a : Nat} (ha : a ≤ 64) : IntKind.u64.wrap ((x : Int) * 2 ^ min (IntKind.u64.wrap (a : Int)).toNat IntKind.u64.bits) = ((x * 2 ^ a % 18446744073709551616 : Nat) : Int) := by
  rw [sh_min ha, ← wu_nat]
  simp
theorem bv_nat (x : Nat) (h : x < 18446744073709551616) : (BitVec.ofInt 64 (x : Int)).toNat = x := by
  rw [BitVec.ofInt_natCast, BitVec.toNat_ofNat]
  exact Nat.mod_eq_of_lt h
theorem and_eq (x y : Nat) (hx : x < 18446744073709551616) (hy : y < 18446744073709551616) : IntKind.u64.wrap (BitVec.ofInt IntKind.u64.bits (x : Int) &&& BitVec.ofInt IntKind.u64.bits (y : Int)).toNat = ((x &&& y : Nat) : Int) := by
  show IntKind.u64.wrap (BitVec.ofInt 64 (x : Int) &&& BitVec.ofInt 64 (y : Int)).toNat = _
  rw [BitVec.toNat_and, bv_nat x hx, bv_nat y hy]
  have := Nat.and_le_left (n := x) (m := y)
  exact wu64 (by omega) (by omega)
theorem or_eq (x y : Nat) (hx : x < 18446744073709551616) (hy : y < 18446744073709551616) : IntKind.u64.wrap (BitVec.ofInt IntKind.u64.bits (x : Int) ||| BitVec.ofInt IntKind.u64.bits (y : Int)).toNat = ((x ||| y : Nat) : Int) := by
  show IntKind.u64.wrap (BitVec.ofInt 64 (x : Int) ||| BitVec.ofInt 64 (y : Int)).toNat = _
  rw [BitVec.toNat_or, bv_nat x hx, bv_nat y hy]
  have : x ||| y < 2 ^ 64 := Nat.or_lt_two_pow (by rw [pow64]; exact hx) (by rw [pow64]; exact hy)
  rw [pow64] at this
  exact wu64 (by omega) (by omega)
/-- All bits of one number that another one hasn't. -/
def andNotN (x y : Nat) : Nat := (BitVec.ofNat 64 x &&& ~~~ BitVec.ofNat 64 y).toNat
theorem andNotN_lt (x y : Nat) : andNotN x y < 18446744073709551616 := (BitVec.ofNat 64 x &&& ~~~ BitVec.ofNat 64 y).isLt
theorem andNotN_bit (x y : Nat) {i : Nat} (hi : i < 64) : (andNotN x y).testBit i = (x.testBit i && !y.testBit i) := by
  unfold andNotN
  rw [BitVec.testBit_toNat, BitVec.getLsbD_and, BitVec.getLsbD_not, BitVec.getLsbD_ofNat, BitVec.getLsbD_ofNat]
  simp [hi]
theorem andNot_eq (x y : Nat) : IntKind.u64.wrap (BitVec.ofInt IntKind.u64.bits (x : Int) &&& ~~~ BitVec.ofInt IntKind.u64.bits (y : Int)).toNat = ((andNotN x y : Nat) : Int) := by
  show IntKind.u64.wrap (BitVec.ofInt 64 (x : Int) &&& ~~~ BitVec.ofInt 64 (y : Int)).toNat = _
  rw [BitVec.ofInt_natCast, BitVec.ofInt_natCast]
  have := andNotN_lt x y
  unfold andNotN at this ⊢
  exact wu64 (by omega) (by omega)
theorem getN_lt (w a : Nat) {b : Nat} : getN w a b < 2 ^ b := Nat.mod_lt _ (Nat.pow_pos (by omega))
theorem getN_bit (w a b i : Nat) : (getN w a b).testBit i = (decide (i < b) && w.testBit (a + i)) := by
  unfold getN
  rw [Nat.testBit_mod_two_pow, Nat.testBit_div_two_pow, Nat.add_comm]
/-- A word with another number at a field. -/
def putN (w n a b : Nat) : Nat := andNotN w ((2 ^ b - 1) * 2 ^ a % 18446744073709551616) ||| n * 2 ^ a % 18446744073709551616
theorem putN_lt (w n a b : Nat) : putN w n a b < 18446744073709551616 := by
  rw [← pow64]
  refine Nat.or_lt_two_pow ?_ ?_
  · rw [pow64]; exact andNotN_lt _ _
  · rw [pow64]; exact Nat.mod_lt _ (by omega)
theorem putN_bit (w n a b i : Nat) (hi : i < 64) (hn : n < 2 ^ b) : (putN w n a b).testBit i = if a ≤ i ∧ i < a + b then n.testBit (i - a) else w.testBit i := by
  unfold putN
  rw [Nat.testBit_or, andNotN_bit _ _ hi, ← pow64, Nat.testBit_mod_two_pow, Nat.testBit_mod_two_pow, Nat.testBit_mul_two_pow, Nat.testBit_mul_two_pow, Nat.testBit_two_pow_sub_one]
  by_cases h1 : a ≤ i
  · by_cases h2 : i < a + b
    · rw [if_pos ⟨h1, h2⟩]; simp [hi, h1, show i - a < b by omega]
    · rw [if_neg (fun x => h2 x.2)]
      have : n.testBit (i - a) = false := Nat.testBit_lt_two_pow (Nat.lt_of_lt_of_le hn (Nat.pow_le_pow_right (by omega) (by omega)))
      simp [hi, h1, this, show ¬ i - a < b by omega]
  · rw [if_neg (fun x => h1 x.1)]; simp [h1]
theorem get_eq (w : Nat) {a b : Nat} (hw : w < 18446744073709551616) (ha : a ≤ 64) (hb : b ≤ 64) : IntKind.u64.wrap (BitVec.ofInt IntKind.u64.bits ((w : Int).fdiv (2 ^ min (IntKind.u64.wrap (a : Int)).toNat IntKind.u64.bits)) &&& BitVec.ofInt IntKind.u64.bits ((2 ^ b - 1 : Nat) : Int)).toNat = (getN w a b : Int) := by
  have h1 := pow_le64 hb
  have h2 : 1 ≤ 2 ^ b := Nat.one_le_two_pow
  have h3 : w / 2 ^ a ≤ w := Nat.div_le_self _ _
  rw [shr_eq w ha, and_eq _ _ (by omega) (by omega), Nat.and_two_pow_sub_one_eq_mod]
  rfl
theorem put_eq (w n : Nat) {a b : Nat} (hw : w < 18446744073709551616) (ha : a ≤ 64) (hb : b ≤ 64) : IntKind.u64.wrap (BitVec.ofInt IntKind.u64.bits (IntKind.u64.wrap (BitVec.ofInt IntKind.u64.bits (w : Int) &&& ~~~ BitVec.ofInt IntKind.u64.bits (IntKind.u64.wrap (((2 ^ b - 1 : Nat) : Int) * 2 ^ min (IntKind.u64.wrap (a : Int)).toNat IntKind.u64.bits))).toNat) ||| BitVec.ofInt IntKind.u64.bits (IntKind.u64.wrap ((n : Int) * 2 ^ min (IntKind.u64.wrap (a : Int)).toNat IntKind.u64.bits))).toNat = (putN w n a b : Int) := by
  rw [shl_eq _ ha, shl_eq _ ha, andNot_eq, or_eq _ _ (andNotN_lt _ _) (Nat.mod_lt _ (by omega))]
  rfl
theorem mask_eq {b : Nat} (hb : b < 64) : IntKind.u64.wrap (IntKind.u64.wrap (1 * 2 ^ min (IntKind.u64.wrap (b : Int)).toNat IntKind.u64.bits) - 1) = ((2 ^ b - 1 : Nat) : Int) := by
  have h3 : 2 ^ b < 2 ^ 64 := Nat.pow_lt_pow_right (by omega) (by omega)
  have h2 : 1 ≤ 2 ^ b := Nat.one_le_two_pow
  rw [pow64] at h3
  have e := shl_eq 1 (a := b) (by omega)
  rw [Nat.one_mul, Nat.mod_eq_of_lt h3] at e
  rw [show (1 : Int) = ((1 : Nat) : Int) from rfl, e, show ((2 ^ b : Nat) : Int) - ((1 : Nat) : Int) = ((2 ^ b - 1 : Nat) : Int) by omega]
  exact wu64 (by omega) (by omega)
/-- A field's number, its highest bit below nought. -/
def sgnN (w a b : Nat) : Int := if getN w a b < 2 ^ (b - 1) then getN w a b else (getN w a b : Int) - 2 ^ b
theorem sgn_core (w a b : Nat) (hab : a + b ≤ 64) (hb : 1 ≤ b) : (IntKind.i64.wrap ((w * 2 ^ (64 - a - b) % 18446744073709551616 : Nat) : Int)).fdiv (2 ^ (64 - b)) = sgnN w a b := by
  obtain ⟨s, hs⟩ : ∃ s, s = 64 - a - b := ⟨_, rfl⟩
  have ht : 64 - b = a + s := by omega
  have hX : w * 2 ^ s % 18446744073709551616 = w % 2 ^ a * 2 ^ s + getN w a b * 2 ^ (a + s) := by
    rw [← pow64, show (64 : Nat) = a + b + s by omega, Nat.pow_add 2 (a + b) s, Nat.mul_mod_mul_right, Nat.pow_add 2 a b, Nat.mod_mul, Nat.add_mul]
    unfold getN
    rw [Nat.pow_add 2 a s, Nat.mul_assoc, Nat.mul_left_comm]
  rw [← hs, hX, ht]
  have hq : w % 2 ^ a * 2 ^ s < 2 ^ (a + s) := by
    rw [Nat.pow_add]
    exact Nat.mul_lt_mul_of_pos_right (Nat.mod_lt _ (Nat.pow_pos (by omega))) (Nat.pow_pos (by omega))
  generalize w % 2 ^ a * 2 ^ s = q at *
  have hg := getN_lt w a (b := b)
  have h63 : (2 : Nat) ^ (b - 1) * 2 ^ (a + s) = 9223372036854775808 := by rw [← Nat.pow_add, show b - 1 + (a + s) = 63 by omega]
  have h64 : (2 : Nat) ^ b * 2 ^ (a + s) = 18446744073709551616 := by rw [← Nat.pow_add, show b + (a + s) = 64 by omega]
  unfold sgnN
  rw [show (2 : Int) ^ (a + s) = ((2 ^ (a + s) : Nat) : Int) by simp, show (2 : Int) ^ b = ((2 ^ b : Nat) : Int) by simp]
  generalize getN w a b = g at *
  generalize 2 ^ (a + s) = T at *
  generalize 2 ^ (b - 1) = B1 at *
  generalize 2 ^ b = B at *
  have hT : (0 : Int) < T := by omega
  have hq0 : (q : Int) / T = 0 := Int.ediv_eq_zero_of_lt (by omega) (by omega)
  rw [Int.fdiv_eq_ediv_of_nonneg _ (Int.le_of_lt hT)]
  by_cases h : g < B1
  · rw [if_pos h]
    have h1 := Nat.mul_le_mul_right T (show g + 1 ≤ B1 from h)
    rw [Nat.add_mul, Nat.one_mul] at h1
    rw [w64 (by omega) (by omega)]
    rw [show ((q + g * T : Nat) : Int) = (q : Int) + (g : Int) * T by simp, Int.add_mul_ediv_right _ _ (by omega), hq0]
    omega
  · rw [if_neg h]
    have h1 := Nat.mul_le_mul_right T (show B1 ≤ g by omega)
    have h2 := Nat.mul_le_mul_right T (show g + 1 ≤ B from hg)
    rw [Nat.add_mul, Nat.one_mul] at h2
    have e : IntKind.i64.wrap ((q + g * T : Nat) : Int) = (q : Int) + ((g : Int) - B) * T := by
      have e1 : ((B * T : Nat) : Int) = 18446744073709551616 := by omega
      rw [Int.sub_mul, show (B : Int) * T = 18446744073709551616 by rw [← e1]; simp, show (g : Int) * T = ((g * T : Nat) : Int) by simp]
      generalize g * T = y at *
      unfold IntKind.wrap
      simp [IntKind.bits, IntKind.signed]
      omega
    rw [e, Int.add_mul_ediv_right _ _ (by omega), hq0]
    omega
theorem sh_minI {a : Nat} (ha : a ≤ 64) : min (IntKind.u64.wrap (a : Int)).toNat IntKind.i64.bits = a := by
  rw [wu64 (by omega) (by omega), Int.toNat_natCast]
  show min a 64 = a
  omega
theorem sgn_eq (w a b : Nat) (hab : a + b ≤ 64) (hb : 1 ≤ b) : (IntKind.i64.wrap (IntKind.u64.wrap ((w : Int) * 2 ^ min (IntKind.u64.wrap (IntKind.i64.wrap (IntKind.i64.wrap (64 - (a : Int)) - b))).toNat IntKind.u64.bits))).fdiv (2 ^ min (IntKind.u64.wrap (IntKind.i64.wrap (64 - (b : Int)))).toNat IntKind.i64.bits) = sgnN w a b := by
  have e1 : IntKind.i64.wrap (64 - (a : Int)) = 64 - a := w64 (by omega) (by omega)
  have e2 : IntKind.i64.wrap (64 - (a : Int) - b) = ((64 - a - b : Nat) : Int) := by rw [w64 (by omega) (by omega)]; omega
  have e3 : IntKind.i64.wrap (64 - (b : Int)) = ((64 - b : Nat) : Int) := by rw [w64 (by omega) (by omega)]; omega
  rw [e1, e2, e3, shl_eq _ (by omega), sh_minI (by omega)]
  exact sgn_core w a b hab hb
end Go.Proofs.YthlpfafmiakfdaaDoor.E
