/- Several texts in one. -/
import Derived.Test.YtnheodgffackoaaDoorEn
import Derived.Test.YtnheodgffackoaaDoorPmap
import Derived.Test.YtnheodgffackoaaDoorPmem
/- Package word: fields of bits, their plain numbers, and the contract of each function. -/
namespace Go.Proofs.YtnheodgffackoaaDoor.E
set_option linter.unusedSimpArgs false
set_option linter.unusedVariables false
open Go
set_option maxRecDepth 100000

def fldA (a b : Int) : AV := .agg [.int .i64 a, .int .i64 b]
/-- It can be a field. -/
structure FldOk (a b : Int) : Prop where
  a0 : 0 ≤ a
  b1 : 1 ≤ b
  a1 : a ≤ 63
  b2 : b ≤ 64 - a
/-- A word's number at a field. -/
def getN (w a b : Nat) : Nat := w / 2 ^ a % 2 ^ b
theorem right_yes (a b : Int) (h : FldOk a b) : Tri En 49 [fldA a b] [] (.bl true) [] := by
  obtain ⟨a0, b1, a1, b2⟩ := h
  refine Tri.of Tryd.func49 rfl Tryd.call49 rfl ?_
  refine Goods.fin 2000 [.s 5 (some true) true true, .s 9 (some true) true true, .s 14 (some true) true true] mixed Tryd.func49 ?_
  show Yes _
  repeat' apply And.intro
  (all_goals first | rfl | assumption | trivial | omega | (simp [-List.getD_eq_getElem?_getD] <;> omega) | (simp (disch := omega) only [w64, wu64] <;> omega) | (simp (disch := omega) [-List.getD_eq_getElem?_getD, List.getD_cons_zero, List.getD_cons_succ, kCast_self, dfl_pair, dfl_int, w64, wu64] <;> omega) | (rw [Bool.eq_iff_iff]; simp (disch := omega) [-List.getD_eq_getElem?_getD, List.getD_cons_zero, List.getD_cons_succ, kCast_self, dfl_pair, dfl_int, w64, wu64] <;> omega) | (simp_all [-List.getD_eq_getElem?_getD] <;> omega))
theorem right_no (a b : Int) (h : ¬ FldOk a b) : Tri En 49 [fldA a b] [] (.bl false) [] := by
  refine Tri.of Tryd.func49 rfl Tryd.call49 rfl ?_
  by_cases a0 : 0 ≤ a
  · by_cases b1 : 1 ≤ b
    · by_cases a1 : a ≤ 63
      · have b2 : ¬ b ≤ 64 - a := fun x => h ⟨a0, b1, a1, x⟩
        refine Goods.fin 2000 [.s 5 (some true) true true, .s 9 (some true) true true, .s 14 (some true) true true] mixed Tryd.func49 ?_
        show Yes _
        repeat' apply And.intro
        (all_goals first | rfl | assumption | trivial | omega | (simp [-List.getD_eq_getElem?_getD] <;> omega) | (simp (disch := omega) only [w64, wu64] <;> omega) | (simp (disch := omega) [-List.getD_eq_getElem?_getD, List.getD_cons_zero, List.getD_cons_succ, kCast_self, dfl_pair, dfl_int, w64, wu64] <;> omega) | (rw [Bool.eq_iff_iff]; simp (disch := omega) [-List.getD_eq_getElem?_getD, List.getD_cons_zero, List.getD_cons_succ, kCast_self, dfl_pair, dfl_int, w64, wu64] <;> omega) | (simp_all [-List.getD_eq_getElem?_getD] <;> omega))
      · refine Goods.fin 2000 [.s 5 (some true) true true, .s 9 (some true) true true, .s 14 (some false) true true] mixed Tryd.func49 ?_
        show Yes _
        repeat' apply And.intro
        (all_goals first | rfl | assumption | trivial | omega | (simp [-List.getD_eq_getElem?_getD] <;> omega) | (simp (disch := omega) only [w64, wu64] <;> omega) | (simp (disch := omega) [-List.getD_eq_getElem?_getD, List.getD_cons_zero, List.getD_cons_succ, kCast_self, dfl_pair, dfl_int, w64, wu64] <;> omega) | (rw [Bool.eq_iff_iff]; simp (disch := omega) [-List.getD_eq_getElem?_getD, List.getD_cons_zero, List.getD_cons_succ, kCast_self, dfl_pair, dfl_int, w64, wu64] <;> omega) | (simp_all [-List.getD_eq_getElem?_getD] <;> omega))
    · refine Goods.fin 2000 [.s 5 (some true) true true, .s 9 (some false) true true] mixed Tryd.func49 ?_
      show Yes _
      repeat' apply And.intro
      (all_goals first | rfl | assumption | trivial | omega | (simp [-List.getD_eq_getElem?_getD] <;> omega) | (simp (disch := omega) only [w64, wu64] <;> omega) | (simp (disch := omega) [-List.getD_eq_getElem?_getD, List.getD_cons_zero, List.getD_cons_succ, kCast_self, dfl_pair, dfl_int, w64, wu64] <;> omega) | (rw [Bool.eq_iff_iff]; simp (disch := omega) [-List.getD_eq_getElem?_getD, List.getD_cons_zero, List.getD_cons_succ, kCast_self, dfl_pair, dfl_int, w64, wu64] <;> omega) | (simp_all [-List.getD_eq_getElem?_getD] <;> omega))
  · refine Goods.fin 2000 [.s 5 (some false) true true] mixed Tryd.func49 ?_
    show Yes _
    repeat' apply And.intro
    (all_goals first | rfl | assumption | trivial | omega | (simp [-List.getD_eq_getElem?_getD] <;> omega) | (simp (disch := omega) only [w64, wu64] <;> omega) | (simp (disch := omega) [-List.getD_eq_getElem?_getD, List.getD_cons_zero, List.getD_cons_succ, kCast_self, dfl_pair, dfl_int, w64, wu64] <;> omega) | (rw [Bool.eq_iff_iff]; simp (disch := omega) [-List.getD_eq_getElem?_getD, List.getD_cons_zero, List.getD_cons_succ, kCast_self, dfl_pair, dfl_int, w64, wu64] <;> omega) | (simp_all [-List.getD_eq_getElem?_getD] <;> omega))
theorem pow_le64 {b : Nat} (h : b ≤ 64) : 2 ^ b ≤ 18446744073709551616 := Nat.pow_le_pow_right (by omega) h
theorem pow64 : (2 : Nat) ^ 64 = 18446744073709551616 := by decide
theorem sh_min {a : Nat} (ha : a ≤ 64) : min (IntKind.u64.wrap (a : Int)).toNat IntKind.u64.bits = a := by
  rw [wu64 (by omega) (by omega), Int.toNat_natCast]
  show min a 64 = a
  omega
theorem sh_pos {a : Nat} (ha : a ≤ 64) : 0 ≤ IntKind.u64.wrap (a : Int) := by rw [wu64 (by omega) (by omega)]; omega
theorem shr_eq (w : Nat) {a : Nat} (ha : a ≤ 64) : (w : Int).fdiv (2 ^ min (IntKind.u64.wrap (a : Int)).toNat IntKind.u64.bits) = ((w / 2 ^ a : Nat) : Int) := by
  rw [sh_min ha, Int.fdiv_eq_ediv_of_nonneg _ (Int.le_of_lt (Int.pow_pos (by omega)))]
  simp
theorem wu_nat (x : Nat) : IntKind.u64.wrap (x : Int) = ((x % 18446744073709551616 : Nat) : Int) := by
  show (x : Int) % 18446744073709551616 = _
  simp
theorem shl_eq (x : Nat) {a : Nat} (ha : a ≤ 64) : IntKind.u64.wrap ((x : Int) * 2 ^ min (IntKind.u64.wrap (a : Int)).toNat IntKind.u64.bits) = ((x * 2 ^ a % 18446744073709551616 : Nat) : Int) := by
  rw [sh_min ha, ← wu_nat]
  simp
theorem bv_nat (x : Nat) (h : x < 18446744073709551616) : (BitVec.ofInt 64 (x : Int)).toNat = x := by
  rw [BitVec.ofInt_natCast, BitVec.toNat_ofNat]
  exact Nat.mod_eq_of_lt h
theorem and_eq (x y : Nat) (hx : x < 18446744073709551616) (hy : y < 18446744073709551616) : IntKind.u64.wrap (BitVec.ofInt IntKind.u64.bits (x : Int) &&& BitVec.ofInt IntKind.u64.bits (y : Int)).toNat = ((x &&& y : Nat) : Int) := by
  show IntKind.u64.wrap (BitVec.ofInt 64 (x : Int) &&& BitVec.ofInt 64 (y : Int)).toNat = _
  rw [BitVec.toNat_and, bv_nat x hx, bv_nat y hy]
  have := Nat.and_le_left (n := x) (m := y)
  exact wu64 (by omega) (by omega)
theorem or_eq (x y : Nat) (hx : x < 18446744073709551616) (hy : y < 18446744073709551616) : IntKind.u64.wrap (BitVec.ofInt IntKind.u64.bits (x : Int) ||| BitVec.ofInt IntKind.u64.bits (y : Int)).toNat = ((x ||| y : Nat) : Int) := by
  show IntKind.u64.wrap (BitVec.ofInt 64 (x : Int) ||| BitVec.ofInt 64 (y : Int)).toNat = _
  rw [BitVec.toNat_or, bv_nat x hx, bv_nat y hy]
  have : x ||| y < 2 ^ 64 := Nat.or_lt_two_pow (by rw [pow64]; exact hx) (by rw [pow64]; exact hy)
  rw [pow64] at this
  exact wu64 (by omega) (by omega)
/-- All bits of one number that another one hasn't. -/
def andNotN (x y : Nat) : Nat := (BitVec.ofNat 64 x &&& ~~~ BitVec.ofNat 64 y).toNat
theorem andNotN_lt (x y : Nat) : andNotN x y < 18446744073709551616 := (BitVec.ofNat 64 x &&& ~~~ BitVec.ofNat 64 y).isLt
theorem andNotN_bit (x y : Nat) {i : Nat} (hi : i < 64) : (andNotN x y).testBit i = (x.testBit i && !y.testBit i) := by
  unfold andNotN
  rw [BitVec.testBit_toNat, BitVec.getLsbD_and, BitVec.getLsbD_not, BitVec.getLsbD_ofNat, BitVec.getLsbD_ofNat]
  simp [hi]
theorem andNot_eq (x y : Nat) : IntKind.u64.wrap (BitVec.ofInt IntKind.u64.bits (x : Int) &&& ~~~ BitVec.ofInt IntKind.u64.bits (y : Int)).toNat = ((andNotN x y : Nat) : Int) := by
  show IntKind.u64.wrap (BitVec.ofInt 64 (x : Int) &&& ~~~ BitVec.ofInt 64 (y : Int)).toNat = _
  rw [BitVec.ofInt_natCast, BitVec.ofInt_natCast]
  have := andNotN_lt x y
  unfold andNotN at this ⊢
  exact wu64 (by omega) (by omega)
theorem getN_lt (w a : Nat) {b : Nat} : getN w a b < 2 ^ b := Nat.mod_lt _ (Nat.pow_pos (by omega))
theorem getN_bit (w a b i : Nat) : (getN w a b).testBit i = (decide (i < b) && w.testBit (a + i)) := by
  unfold getN
  rw [Nat.testBit_mod_two_pow, Nat.testBit_div_two_pow, Nat.add_comm]
/-- A word with another number at a field. -/
def putN (w n a b : Nat) : Nat := andNotN w ((2 ^ b - 1) * 2 ^ a % 18446744073709551616) ||| n * 2 ^ a % 18446744073709551616
theorem putN_lt (w n a b : Nat) : putN w n a b < 18446744073709551616 := by
  rw [← pow64]
  refine Nat.or_lt_two_pow ?_ ?_
  · rw [pow64]; exact andNotN_lt _ _
  · rw [pow64]; exact Nat.mod_lt _ (by omega)
theorem putN_bit (w n a b i : Nat) (hi : i < 64) (hn : n < 2 ^ b) : (putN w n a b).testBit i = if a ≤ i ∧ i < a + b then n.testBit (i - a) else w.testBit i := by
  unfold putN
  rw [Nat.testBit_or, andNotN_bit _ _ hi, ← pow64, Nat.testBit_mod_two_pow, Nat.testBit_mod_two_pow, Nat.testBit_mul_two_pow, Nat.testBit_mul_two_pow, Nat.testBit_two_pow_sub_one]
  by_cases h1 : a ≤ i
  · by_cases h2 : i < a + b
    · rw [if_pos ⟨h1, h2⟩]; simp [hi, h1, show i - a < b by omega]
    · rw [if_neg (fun x => h2 x.2)]
      have : n.testBit (i - a) = false := Nat.testBit_lt_two_pow (Nat.lt_of_lt_of_le hn (Nat.pow_le_pow_right (by omega) (by omega)))
      simp [hi, h1, this, show ¬ i - a < b by omega]
  · rw [if_neg (fun x => h1 x.1)]; simp [h1]
theorem get_eq (w : Nat) {a b : Nat} (hw : w < 18446744073709551616) (ha : a ≤ 64) (hb : b ≤ 64) : IntKind.u64.wrap (BitVec.ofInt IntKind.u64.bits ((w : Int).fdiv (2 ^ min (IntKind.u64.wrap (a : Int)).toNat IntKind.u64.bits)) &&& BitVec.ofInt IntKind.u64.bits ((2 ^ b - 1 : Nat) : Int)).toNat = (getN w a b : Int) := by
  have h1 := pow_le64 hb
  have h2 : 1 ≤ 2 ^ b := Nat.one_le_two_pow
  have h3 : w / 2 ^ a ≤ w := Nat.div_le_self _ _
  rw [shr_eq w ha, and_eq _ _ (by omega) (by omega), Nat.and_two_pow_sub_one_eq_mod]
  rfl
theorem put_eq (w n : Nat) {a b : Nat} (hw : w < 18446744073709551616) (ha : a ≤ 64) (hb : b ≤ 64) : IntKind.u64.wrap (BitVec.ofInt IntKind.u64.bits (IntKind.u64.wrap (BitVec.ofInt IntKind.u64.bits (w : Int) &&& ~~~ BitVec.ofInt IntKind.u64.bits (IntKind.u64.wrap (((2 ^ b - 1 : Nat) : Int) * 2 ^ min (IntKind.u64.wrap (a : Int)).toNat IntKind.u64.bits))).toNat) ||| BitVec.ofInt IntKind.u64.bits (IntKind.u64.wrap ((n : Int) * 2 ^ min (IntKind.u64.wrap (a : Int)).toNat IntKind.u64.bits))).toNat = (putN w n a b : Int) := by
  rw [shl_eq _ ha, shl_eq _ ha, andNot_eq, or_eq _ _ (andNotN_lt _ _) (Nat.mod_lt _ (by omega))]
  rfl
theorem mask_eq {b : Nat} (hb : b < 64) : IntKind.u64.wrap (IntKind.u64.wrap (1 * 2 ^ min (IntKind.u64.wrap (b : Int)).toNat IntKind.u64.bits) - 1) = ((2 ^ b - 1 : Nat) : Int) := by
  have h3 : 2 ^ b < 2 ^ 64 := Nat.pow_lt_pow_right (by omega) (by omega)
  have h2 : 1 ≤ 2 ^ b := Nat.one_le_two_pow
  rw [pow64] at h3
  have e := shl_eq 1 (a := b) (by omega)
  rw [Nat.one_mul, Nat.mod_eq_of_lt h3] at e
  rw [show (1 : Int) = ((1 : Nat) : Int) from rfl, e, show ((2 ^ b : Nat) : Int) - ((1 : Nat) : Int) = ((2 ^ b - 1 : Nat) : Int) by omega]
  exact wu64 (by omega) (by omega)
/-- A field's number, its highest bit below nought. -/
def sgnN (w a b : Nat) : Int := if getN w a b < 2 ^ (b - 1) then getN w a b else (getN w a b : Int) - 2 ^ b
theorem sgn_core (w a b : Nat) (hab : a + b ≤ 64) (hb : 1 ≤ b) : (IntKind.i64.wrap ((w * 2 ^ (64 - a - b) % 18446744073709551616 : Nat) : Int)).fdiv (2 ^ (64 - b)) = sgnN w a b := by
  obtain ⟨s, hs⟩ : ∃ s, s = 64 - a - b := ⟨_, rfl⟩
  have ht : 64 - b = a + s := by omega
  have hX : w * 2 ^ s % 18446744073709551616 = w % 2 ^ a * 2 ^ s + getN w a b * 2 ^ (a + s) := by
    rw [← pow64, show (64 : Nat) = a + b + s by omega, Nat.pow_add 2 (a + b) s, Nat.mul_mod_mul_right, Nat.pow_add 2 a b, Nat.mod_mul, Nat.add_mul]
    unfold getN
    rw [Nat.pow_add 2 a s, Nat.mul_assoc, Nat.mul_left_comm]
  rw [← hs, hX, ht]
  have hq : w % 2 ^ a * 2 ^ s < 2 ^ (a + s) := by
    rw [Nat.pow_add]
    exact Nat.mul_lt_mul_of_pos_right (Nat.mod_lt _ (Nat.pow_pos (by omega))) (Nat.pow_pos (by omega))
  generalize w % 2 ^ a * 2 ^ s = q at *
  have hg := getN_lt w a (b := b)
  have h63 : (2 : Nat) ^ (b - 1) * 2 ^ (a + s) = 9223372036854775808 := by rw [← Nat.pow_add, show b - 1 + (a + s) = 63 by omega]
  have h64 : (2 : Nat) ^ b * 2 ^ (a + s) = 18446744073709551616 := by rw [← Nat.pow_add, show b + (a + s) = 64 by omega]
  unfold sgnN
  rw [show (2 : Int) ^ (a + s) = ((2 ^ (a + s) : Nat) : Int) by simp, show (2 : Int) ^ b = ((2 ^ b : Nat) : Int) by simp]
  generalize getN w a b = g at *
  generalize 2 ^ (a + s) = T at *
  generalize 2 ^ (b - 1) = B1 at *
  generalize 2 ^ b = B at *
  have hT : (0 : Int) < T := by omega
  have hq0 : (q : Int) / T = 0 := Int.ediv_eq_zero_of_lt (by omega) (by omega)
  rw [Int.fdiv_eq_ediv_of_nonneg _ (Int.le_of_lt hT)]
  by_cases h : g < B1
  · rw [if_pos h]
    have h1 := Nat.mul_le_mul_right T (show g + 1 ≤ B1 from h)
    rw [Nat.add_mul, Nat.one_mul] at h1
    rw [w64 (by omega) (by omega)]
    rw [show ((q + g * T : Nat) : Int) = (q : Int) + (g : Int) * T by simp, Int.add_mul_ediv_right _ _ (by omega), hq0]
    omega
  · rw [if_neg h]
    have h1 := Nat.mul_le_mul_right T (show B1 ≤ g by omega)
    have h2 := Nat.mul_le_mul_right T (show g + 1 ≤ B from hg)
    rw [Nat.add_mul, Nat.one_mul] at h2
    have e : IntKind.i64.wrap ((q + g * T : Nat) : Int) = (q : Int) + ((g : Int) - B) * T := by
      have e1 : ((B * T : Nat) : Int) = 18446744073709551616 := by omega
      rw [Int.sub_mul, show (B : Int) * T = 18446744073709551616 by rw [← e1]; simp, show (g : Int) * T = ((g * T : Nat) : Int) by simp]
      generalize g * T = y at *
      unfold IntKind.wrap
      simp [IntKind.bits, IntKind.signed]
      omega
    rw [e, Int.add_mul_ediv_right _ _ (by omega), hq0]
    omega
theorem sh_minI {a : Nat} (ha : a ≤ 64) : min (IntKind.u64.wrap (a : Int)).toNat IntKind.i64.bits = a := by
  rw [wu64 (by omega) (by omega), Int.toNat_natCast]
  show min a 64 = a
  omega
theorem sgn_eq (w a b : Nat) (hab : a + b ≤ 64) (hb : 1 ≤ b) : (IntKind.i64.wrap (IntKind.u64.wrap ((w : Int) * 2 ^ min (IntKind.u64.wrap (IntKind.i64.wrap (IntKind.i64.wrap (64 - (a : Int)) - b))).toNat IntKind.u64.bits))).fdiv (2 ^ min (IntKind.u64.wrap (IntKind.i64.wrap (64 - (b : Int)))).toNat IntKind.i64.bits) = sgnN w a b := by
  have e1 : IntKind.i64.wrap (64 - (a : Int)) = 64 - a := w64 (by omega) (by omega)
  have e2 : IntKind.i64.wrap (64 - (a : Int) - b) = ((64 - a - b : Nat) : Int) := by rw [w64 (by omega) (by omega)]; omega
  have e3 : IntKind.i64.wrap (64 - (b : Int)) = ((64 - b : Nat) : Int) := by rw [w64 (by omega) (by omega)]; omega
  rw [e1, e2, e3, shl_eq _ (by omega), sh_minI (by omega)]
  exact sgn_core w a b hab hb
theorem mask_tri (a : Int) (b : Nat) (hb : b ≤ 64) : Tri En 50 [fldA a b] [] (.int .u64 ((2 ^ b - 1 : Nat) : Int)) [] := by
  have h1 := pow_le64 hb
  have h2 : 1 ≤ 2 ^ b := Nat.one_le_two_pow
  refine Tri.of Tryd.func50 rfl Tryd.call50 rfl ?_
  by_cases h : 64 ≤ b
  · obtain rfl : b = 64 := by omega
    refine Goods.fin 2000 [.b true] mixed Tryd.func50 ?_
    show Yes _
    repeat' apply And.intro
    (all_goals first | rfl | assumption | trivial | omega | (simp [-List.getD_eq_getElem?_getD] <;> omega) | (simp (disch := omega) only [w64, wu64] <;> omega) | (simp (disch := omega) [-List.getD_eq_getElem?_getD, List.getD_cons_zero, List.getD_cons_succ, kCast_self, dfl_pair, dfl_int, w64, wu64] <;> omega) | (rw [Bool.eq_iff_iff]; simp (disch := omega) [-List.getD_eq_getElem?_getD, List.getD_cons_zero, List.getD_cons_succ, kCast_self, dfl_pair, dfl_int, w64, wu64] <;> omega) | (simp_all [-List.getD_eq_getElem?_getD] <;> omega))
  · have h3 : 2 ^ b < 2 ^ 64 := Nat.pow_lt_pow_right (by omega) (by omega)
    have e := mask_eq (b := b) (by omega)
    have e0 := sh_pos (a := b) (by omega)
    refine Goods.fin 2000 [.b false] mixed Tryd.func50 ?_
    show Yes _
    repeat' apply And.intro
    (all_goals first | rfl | assumption | trivial | omega | (simp [-List.getD_eq_getElem?_getD] <;> omega) | (simp (disch := omega) only [w64, wu64] <;> omega) | (simp (disch := omega) [-List.getD_eq_getElem?_getD, List.getD_cons_zero, List.getD_cons_succ, kCast_self, dfl_pair, dfl_int, w64, wu64] <;> omega) | (rw [Bool.eq_iff_iff]; simp (disch := omega) [-List.getD_eq_getElem?_getD, List.getD_cons_zero, List.getD_cons_succ, kCast_self, dfl_pair, dfl_int, w64, wu64] <;> omega) | (simp_all [-List.getD_eq_getElem?_getD] <;> omega))
theorem get_yes (w a b : Nat) (hw : w < 18446744073709551616) (h : FldOk a b) : Tri En 48 [fldA a b, .int .u64 w] [] (.int .u64 (getN w a b)) [] := by
  have h1 := right_yes a b h
  have h2 := mask_tri a b (by have := h.a0; have := h.b2; omega)
  have e := get_eq w (a := a) (b := b) hw (by have := h.a1; omega) (by have := h.a0; have := h.b2; omega)
  have e0 := sh_pos (a := a) (by have := h.a1; omega)
  refine Tri.of Tryd.func48 rfl Tryd.call48 rfl ?_
  refine Goods.fin 2000 [.c (.of h1), .c (.of h2)] mixed Tryd.func48 ?_
  show Yes _
  repeat' apply And.intro
  (all_goals first | rfl | assumption | trivial | omega | (simp [-List.getD_eq_getElem?_getD] <;> omega) | (simp (disch := omega) only [w64, wu64] <;> omega) | (simp (disch := omega) [-List.getD_eq_getElem?_getD, List.getD_cons_zero, List.getD_cons_succ, kCast_self, dfl_pair, dfl_int, w64, wu64] <;> omega) | (rw [Bool.eq_iff_iff]; simp (disch := omega) [-List.getD_eq_getElem?_getD, List.getD_cons_zero, List.getD_cons_succ, kCast_self, dfl_pair, dfl_int, w64, wu64] <;> omega) | (simp_all [-List.getD_eq_getElem?_getD] <;> omega))
theorem get_no (w a b : Int) (h : ¬ FldOk a b) : Tri En 48 [fldA a b, .int .u64 w] [] (.int .u64 0) [] := by
  have h1 := right_no a b h
  refine Tri.of Tryd.func48 rfl Tryd.call48 rfl ?_
  refine Goods.fin 2000 [.c (.of h1)] mixed Tryd.func48 ?_
  show Yes _
  repeat' apply And.intro
  (all_goals first | rfl | assumption | trivial | omega | (simp [-List.getD_eq_getElem?_getD] <;> omega) | (simp (disch := omega) only [w64, wu64] <;> omega) | (simp (disch := omega) [-List.getD_eq_getElem?_getD, List.getD_cons_zero, List.getD_cons_succ, kCast_self, dfl_pair, dfl_int, w64, wu64] <;> omega) | (rw [Bool.eq_iff_iff]; simp (disch := omega) [-List.getD_eq_getElem?_getD, List.getD_cons_zero, List.getD_cons_succ, kCast_self, dfl_pair, dfl_int, w64, wu64] <;> omega) | (simp_all [-List.getD_eq_getElem?_getD] <;> omega))
theorem put_yes (w n a b : Nat) (hw : w < 18446744073709551616) (h : FldOk a b) (hn : n < 2 ^ b) : Tri En 43 [fldA a b, .int .u64 w, .int .u64 n] [] (.tuple [.int .u64 (putN w n a b), .bl true]) [] := by
  have h1 := right_yes a b h
  have hb : b ≤ 64 := by have := h.a0; have := h.b2; omega
  have ha : a ≤ 64 := by have := h.a1; omega
  have h2 := mask_tri a b hb
  have e := put_eq w n (a := a) (b := b) hw ha hb
  have e0 := sh_pos (a := a) ha
  refine Tri.of Tryd.func43 rfl Tryd.call43 rfl ?_
  refine Goods.fin 2000 [.c (.of h1), .c (.of h2), .b false, .c (.of h2)] mixed Tryd.func43 ?_
  show Yes _
  repeat' apply And.intro
  (all_goals first | rfl | assumption | trivial | omega | (simp [-List.getD_eq_getElem?_getD] <;> omega) | (simp (disch := omega) only [w64, wu64] <;> omega) | (simp (disch := omega) [-List.getD_eq_getElem?_getD, List.getD_cons_zero, List.getD_cons_succ, kCast_self, dfl_pair, dfl_int, w64, wu64] <;> omega) | (rw [Bool.eq_iff_iff]; simp (disch := omega) [-List.getD_eq_getElem?_getD, List.getD_cons_zero, List.getD_cons_succ, kCast_self, dfl_pair, dfl_int, w64, wu64] <;> omega) | (simp_all [-List.getD_eq_getElem?_getD] <;> omega))
theorem put_great (w n a b : Nat) (h : FldOk a b) (hn : ¬ n < 2 ^ b) : Tri En 43 [fldA a b, .int .u64 w, .int .u64 n] [] (.tuple [.int .u64 w, .bl false]) [] := by
  have h1 := right_yes a b h
  have hb : b ≤ 64 := by have := h.a0; have := h.b2; omega
  have hp' : 1 ≤ 2 ^ b := Nat.one_le_two_pow
  have h2 := mask_tri a b hb
  refine Tri.of Tryd.func43 rfl Tryd.call43 rfl ?_
  refine Goods.fin 2000 [.c (.of h1), .c (.of h2), .b true] mixed Tryd.func43 ?_
  show Yes _
  repeat' apply And.intro
  (all_goals first | rfl | assumption | trivial | omega | (simp [-List.getD_eq_getElem?_getD] <;> omega) | (simp (disch := omega) only [w64, wu64] <;> omega) | (simp (disch := omega) [-List.getD_eq_getElem?_getD, List.getD_cons_zero, List.getD_cons_succ, kCast_self, dfl_pair, dfl_int, w64, wu64] <;> omega) | (rw [Bool.eq_iff_iff]; simp (disch := omega) [-List.getD_eq_getElem?_getD, List.getD_cons_zero, List.getD_cons_succ, kCast_self, dfl_pair, dfl_int, w64, wu64] <;> omega) | (simp_all [-List.getD_eq_getElem?_getD] <;> omega))
theorem put_no (w n a b : Int) (h : ¬ FldOk a b) : Tri En 43 [fldA a b, .int .u64 w, .int .u64 n] [] (.tuple [.int .u64 w, .bl false]) [] := by
  have h1 := right_no a b h
  refine Tri.of Tryd.func43 rfl Tryd.call43 rfl ?_
  refine Goods.fin 2000 [.c (.of h1)] mixed Tryd.func43 ?_
  show Yes _
  repeat' apply And.intro
  (all_goals first | rfl | assumption | trivial | omega | (simp [-List.getD_eq_getElem?_getD] <;> omega) | (simp (disch := omega) only [w64, wu64] <;> omega) | (simp (disch := omega) [-List.getD_eq_getElem?_getD, List.getD_cons_zero, List.getD_cons_succ, kCast_self, dfl_pair, dfl_int, w64, wu64] <;> omega) | (rw [Bool.eq_iff_iff]; simp (disch := omega) [-List.getD_eq_getElem?_getD, List.getD_cons_zero, List.getD_cons_succ, kCast_self, dfl_pair, dfl_int, w64, wu64] <;> omega) | (simp_all [-List.getD_eq_getElem?_getD] <;> omega))
end Go.Proofs.YtnheodgffackoaaDoor.E

/- References: a word's three numbers. -/
namespace Go.Proofs.YtnheodgffackoaaDoor.E
set_option linter.unusedSimpArgs false
set_option linter.unusedVariables false
open Go
set_option maxRecDepth 100000

/-- A number as 64 bits hold it. -/
def u64N (n : Int) : Nat := (n % 18446744073709551616).toNat
theorem u64N_eq (n : Int) : IntKind.u64.wrap n = (u64N n : Int) := by
  show n % 18446744073709551616 = _
  unfold u64N; omega
theorem u64N_nat {n : Nat} (h : n < 18446744073709551616) : u64N n = n := by unfold u64N; omega
theorem u64N_lt (n : Int) : u64N n < 18446744073709551616 := by unfold u64N; omega
/-- A reference's word. -/
def refN (wk sl tg : Nat) : Nat := putN (putN (putN 9223372036854775808 wk 0 8) sl 8 8) tg 16 32
def refI (wk sl tg : Int) : AV := .agg [.int .i64 wk, .int .i64 sl, .int .i64 tg]
theorem f0 : FldOk ((0 : Nat) : Int) ((8 : Nat) : Int) := ⟨by omega, by omega, by omega, by omega⟩
theorem f1 : FldOk ((8 : Nat) : Int) ((8 : Nat) : Int) := ⟨by omega, by omega, by omega, by omega⟩
theorem f2 : FldOk ((16 : Nat) : Int) ((32 : Nat) : Int) := ⟨by omega, by omega, by omega, by omega⟩
theorem of_yes (wk sl tg : Nat) (h0 : wk < 256) (h1 : sl < 256) (h2 : tg < 4294967296) : Tri En 32 [refI wk sl tg] [] (.int .u64 (refN wk sl tg)) [] := by
  have p0 := put_yes 9223372036854775808 wk 0 8 (by omega) f0 h0
  have p1 := put_yes _ sl 8 8 (putN_lt 9223372036854775808 wk 0 8) f1 h1
  have p2 := put_yes (putN (putN 9223372036854775808 wk 0 8) sl 8 8) tg 16 32 (putN_lt _ _ _ _) f2 h2
  refine Tri.of Tryd.func32 rfl Tryd.call32 rfl ?_
  refine Goods.fin 2000 [.l, .b true, .c (.of p0), .l, .b true, .c (.of p1), .l, .b true, .c (.of p2), .l, .b false] mixed Tryd.func32 ?_
  show Yes _
  repeat' apply And.intro
  (all_goals first | rfl | assumption | trivial | omega | (simp [-List.getD_eq_getElem?_getD] <;> omega) | (simp (disch := omega) only [w64, wu64] <;> omega) | (simp (disch := omega) [-List.getD_eq_getElem?_getD, List.getD_cons_zero, List.getD_cons_succ, kCast_self, dfl_pair, dfl_int, w64, wu64] <;> omega) | (rw [Bool.eq_iff_iff]; simp (disch := omega) [-List.getD_eq_getElem?_getD, List.getD_cons_zero, List.getD_cons_succ, kCast_self, dfl_pair, dfl_int, w64, wu64] <;> omega) | (simp_all [-List.getD_eq_getElem?_getD] <;> omega))
/-- A reference that may not be. -/
theorem of_no (wk sl tg : Int) (h0 : -9223372036854775808 ≤ wk ∧ wk ≤ 9223372036854775807) (h1 : -9223372036854775808 ≤ sl ∧ sl ≤ 9223372036854775807) (h2 : -9223372036854775808 ≤ tg ∧ tg ≤ 9223372036854775807)
    (h : ¬ ((0 ≤ wk ∧ wk < 256) ∧ (0 ≤ sl ∧ sl < 256) ∧ 0 ≤ tg ∧ tg < 4294967296)) : Tri En 32 [refI wk sl tg] [] (.int .u64 0) [] := by
  have e0 := u64N_eq wk
  have e1 := u64N_eq sl
  have e2 := u64N_eq tg
  refine Tri.of Tryd.func32 rfl Tryd.call32 rfl ?_
  by_cases c0 : 0 ≤ wk ∧ wk < 256
  · have p0 := put_yes 9223372036854775808 (u64N wk) 0 8 (by omega) f0 (by unfold u64N; show _ < 256; omega)
    by_cases c1 : 0 ≤ sl ∧ sl < 256
    · have p1 := put_yes _ (u64N sl) 8 8 (putN_lt 9223372036854775808 (u64N wk) 0 8) f1 (by unfold u64N; show _ < 256; omega)
      have p2 := put_great (putN (putN 9223372036854775808 (u64N wk) 0 8) (u64N sl) 8 8) (u64N tg) 16 32 f2 (by unfold u64N; show ¬ _ < 4294967296; omega)
      refine Goods.fin 2000 [.l, .b true, .c (.of p0), .l, .b true, .c (.of p1), .l, .b true, .c (.of p2)] mixed Tryd.func32 ?_
      show Yes _
      repeat' apply And.intro
      (all_goals first | rfl | assumption | trivial | omega | (simp [-List.getD_eq_getElem?_getD] <;> omega) | (simp (disch := omega) only [w64, wu64] <;> omega) | (simp (disch := omega) [-List.getD_eq_getElem?_getD, List.getD_cons_zero, List.getD_cons_succ, kCast_self, dfl_pair, dfl_int, w64, wu64] <;> omega) | (rw [Bool.eq_iff_iff]; simp (disch := omega) [-List.getD_eq_getElem?_getD, List.getD_cons_zero, List.getD_cons_succ, kCast_self, dfl_pair, dfl_int, w64, wu64] <;> omega) | (simp_all [-List.getD_eq_getElem?_getD] <;> omega))
    · have p1 := put_great (putN 9223372036854775808 (u64N wk) 0 8) (u64N sl) 8 8 f1 (by unfold u64N; show ¬ _ < 256; omega)
      refine Goods.fin 2000 [.l, .b true, .c (.of p0), .l, .b true, .c (.of p1)] mixed Tryd.func32 ?_
      show Yes _
      repeat' apply And.intro
      (all_goals first | rfl | assumption | trivial | omega | (simp [-List.getD_eq_getElem?_getD] <;> omega) | (simp (disch := omega) only [w64, wu64] <;> omega) | (simp (disch := omega) [-List.getD_eq_getElem?_getD, List.getD_cons_zero, List.getD_cons_succ, kCast_self, dfl_pair, dfl_int, w64, wu64] <;> omega) | (rw [Bool.eq_iff_iff]; simp (disch := omega) [-List.getD_eq_getElem?_getD, List.getD_cons_zero, List.getD_cons_succ, kCast_self, dfl_pair, dfl_int, w64, wu64] <;> omega) | (simp_all [-List.getD_eq_getElem?_getD] <;> omega))
  · have p0 := put_great 9223372036854775808 (u64N wk) 0 8 f0 (by unfold u64N; show ¬ _ < 256; omega)
    refine Goods.fin 2000 [.l, .b true, .c (.of p0)] mixed Tryd.func32 ?_
    show Yes _
    repeat' apply And.intro
    (all_goals first | rfl | assumption | trivial | omega | (simp [-List.getD_eq_getElem?_getD] <;> omega) | (simp (disch := omega) only [w64, wu64] <;> omega) | (simp (disch := omega) [-List.getD_eq_getElem?_getD, List.getD_cons_zero, List.getD_cons_succ, kCast_self, dfl_pair, dfl_int, w64, wu64] <;> omega) | (rw [Bool.eq_iff_iff]; simp (disch := omega) [-List.getD_eq_getElem?_getD, List.getD_cons_zero, List.getD_cons_succ, kCast_self, dfl_pair, dfl_int, w64, wu64] <;> omega) | (simp_all [-List.getD_eq_getElem?_getD] <;> omega))
/-- What a word says, if it is a reference's. -/
theorem to_yes (w : Nat) (hw : w < 18446744073709551616) (h : refN (getN w 0 8) (getN w 8 8) (getN w 16 32) = w) : Tri En 35 [.int .u64 w] [] (.tuple [refI (getN w 0 8) (getN w 8 8) (getN w 16 32), .bl true]) [] := by
  have g0 := get_yes w 0 8 hw f0
  have g1 := get_yes w 8 8 hw f1
  have g2 := get_yes w 16 32 hw f2
  have l0 : getN w 0 8 < 256 := getN_lt w 0 (b := 8)
  have l1 : getN w 8 8 < 256 := getN_lt w 8 (b := 8)
  have l2 : getN w 16 32 < 4294967296 := getN_lt w 16 (b := 32)
  have ho := of_yes _ _ _ l0 l1 l2
  rw [h] at ho
  refine Tri.of Tryd.func35 rfl Tryd.call35 rfl ?_
  refine Goods.fin 2000 [.k 8 (.of g0), .k 13 (.of g1), .k 18 (.of g2), .k 22 (.of ho), .b false] mixed Tryd.func35 ?_
  show Yes _
  repeat' apply And.intro
  (all_goals first | rfl | assumption | trivial | omega | (simp [-List.getD_eq_getElem?_getD] <;> omega) | (simp (disch := omega) only [w64, wu64] <;> omega) | (simp (disch := omega) [-List.getD_eq_getElem?_getD, List.getD_cons_zero, List.getD_cons_succ, kCast_self, dfl_pair, dfl_int, w64, wu64] <;> omega) | (rw [Bool.eq_iff_iff]; simp (disch := omega) [-List.getD_eq_getElem?_getD, List.getD_cons_zero, List.getD_cons_succ, kCast_self, dfl_pair, dfl_int, w64, wu64] <;> omega) | (simp_all [-List.getD_eq_getElem?_getD] <;> omega))
theorem to_no (w : Nat) (hw : w < 18446744073709551616) (h : refN (getN w 0 8) (getN w 8 8) (getN w 16 32) ≠ w) : Tri En 35 [.int .u64 w] [] (.tuple [refI 0 0 0, .bl false]) [] := by
  have g0 := get_yes w 0 8 hw f0
  have g1 := get_yes w 8 8 hw f1
  have g2 := get_yes w 16 32 hw f2
  have l0 : getN w 0 8 < 256 := getN_lt w 0 (b := 8)
  have l1 : getN w 8 8 < 256 := getN_lt w 8 (b := 8)
  have l2 : getN w 16 32 < 4294967296 := getN_lt w 16 (b := 32)
  have ho := of_yes _ _ _ l0 l1 l2
  refine Tri.of Tryd.func35 rfl Tryd.call35 rfl ?_
  refine Goods.fin 2000 [.k 8 (.of g0), .k 13 (.of g1), .k 18 (.of g2), .k 22 (.of ho), .b true] mixed Tryd.func35 ?_
  show Yes _
  repeat' apply And.intro
  (all_goals first | rfl | assumption | trivial | omega | (simp [-List.getD_eq_getElem?_getD] <;> omega) | (simp (disch := omega) only [w64, wu64] <;> omega) | (simp (disch := omega) [-List.getD_eq_getElem?_getD, List.getD_cons_zero, List.getD_cons_succ, kCast_self, dfl_pair, dfl_int, w64, wu64] <;> omega) | (rw [Bool.eq_iff_iff]; simp (disch := omega) [-List.getD_eq_getElem?_getD, List.getD_cons_zero, List.getD_cons_succ, kCast_self, dfl_pair, dfl_int, w64, wu64] <;> omega) | (simp_all [-List.getD_eq_getElem?_getD] <;> omega))
end Go.Proofs.YtnheodgffackoaaDoor.E

/- Package tag: the least number that isn't used; looking through words for references. -/
namespace Go.Proofs.YtnheodgffackoaaDoor.E
set_option linter.unusedSimpArgs false
set_option linter.unusedVariables false
open Go
set_option maxRecDepth 100000

theorem len_of_sub : ∀ {l m : List Int}, l.Nodup → (∀ x ∈ l, x ∈ m) → l.length ≤ m.length
  | [], _, _, _ => Nat.zero_le _
  | a :: l, m, hn, h => by
    obtain ⟨h1, h2⟩ := List.nodup_cons.1 hn
    have ha : a ∈ m := h a (by simp)
    have := len_of_sub (l := l) (m := m.erase a) h2 fun x hx => by
      have hne : x ≠ a := by rintro rfl; exact h1 hx
      exact (List.mem_erase_of_ne hne).2 (h x (by simp [hx]))
    rw [List.length_erase_of_mem ha] at this
    have := List.length_pos_of_mem ha
    simp only [List.length_cons]; omega
/-- The least number from i on that isn't among some. -/
def leastF (l : List Int) : Nat → Nat → Nat
  | 0, i => i
  | n + 1, i => if (i : Int) ∈ l then leastF l n (i + 1) else i
def leastT (l : List Int) : Nat := leastF l (l.length + 1) 0
theorem leastF_spec (l : List Int) : ∀ (n i : Nat), i ≤ leastF l n i ∧ leastF l n i ≤ i + n ∧ (∀ j : Nat, i ≤ j → j < leastF l n i → (j : Int) ∈ l) ∧ (leastF l n i < i + n → (leastF l n i : Int) ∉ l)
  | 0, i => ⟨Nat.le_refl _, by simp [leastF], fun j h1 h2 => by simp [leastF] at h2; omega, fun h => by simp [leastF] at h⟩
  | n + 1, i => by
    simp only [leastF]
    by_cases hi : (i : Int) ∈ l
    · rw [if_pos hi]
      obtain ⟨h1, h2, h3, h4⟩ := leastF_spec l n (i + 1)
      refine ⟨by omega, by omega, fun j hj hj2 => ?_, fun h => h4 (by omega)⟩
      by_cases he : j = i
      · subst he; exact hi
      · exact h3 j (by omega) hj2
    · rw [if_neg hi]
      exact ⟨Nat.le_refl _, by omega, fun j hj hj2 => by omega, fun _ => hi⟩
theorem leastT_spec (l : List Int) : leastT l ≤ l.length ∧ (∀ j : Nat, j < leastT l → (j : Int) ∈ l) ∧ (leastT l : Int) ∉ l := by
  obtain ⟨_, h2, h3, h4⟩ := leastF_spec l (l.length + 1) 0
  have hle : leastT l ≤ l.length := by
    apply Classical.byContradiction
    intro hn
    have hsub : ∀ x ∈ (List.range (l.length + 1)).map (fun i : Nat => (i : Int)), x ∈ l := by
      intro x hx
      obtain ⟨i, hi, rfl⟩ := List.mem_map.1 hx
      exact h3 i (Nat.zero_le _) (by have := List.mem_range.1 hi; show i < leastT l; omega)
    have hnd : ((List.range (l.length + 1)).map (fun i : Nat => (i : Int))).Nodup := by
      unfold List.Nodup
      rw [List.pairwise_map]
      exact List.nodup_range.imp fun h e => h (by exact_mod_cast e)
    have := len_of_sub hnd hsub
    simp at this
    omega
  exact ⟨hle, fun j hj => h3 j (Nat.zero_le _) hj, h4 (by show leastT l < _; omega)⟩
theorem leastT_eq {l : List Int} {n : Nat} (h1 : ∀ j : Nat, j < n → (j : Int) ∈ l) (h2 : (n : Int) ∉ l) : leastT l = n := by
  obtain ⟨_, h3, h4⟩ := leastT_spec l
  rcases Nat.lt_trichotomy (leastT l) n with h | h | h
  · exact absurd (h1 _ h) h4
  · exact h
  · exact absurd (h3 _ h) h2
theorem leastT_congr {l l' : List Int} (h : ∀ x, x ∈ l ↔ x ∈ l') : leastT l = leastT l' := by
  obtain ⟨_, h3, h4⟩ := leastT_spec l'
  exact leastT_eq (fun j hj => (h _).2 (h3 j hj)) fun hn => h4 ((h _).1 hn)

abbrev SetT := List (Ent (.int .i64) .unit)
noncomputable abbrev gLeast (own : Bool) (l : List Int) : Frm := ⟨En, 80, Tryd.f80.ntmps, [.tab own (.int .i64) l], .int .i64 (leastT l), [.tab own (.int .i64) l]⟩
theorem least_1 (own : Bool) (l : List Int) (hl : l.length < 1000000) (c : Nat) (es : SetT) (he : ∀ z, (mget (kk := .int .i64) (vk := .unit) z es).isSome = decide (z ∈ l)) : ∀ (j i : Nat), i + j = leastT l → Goods (gLeast own l) ⟨.none, lp Tryd.f80 1, [(3, .map 1), (6, .int .i64 i)], hp [.tab own (.int .i64) l, .map (.int .i64) .unit c es]⟩
  | 0, i, h => by
    obtain rfl : i = leastT l := by omega
    have e : mhas (kk := .int .i64) (vk := .unit) (leastT l : Int) es = false := by rw [mhas, he]; exact decide_eq_false (leastT_spec l).2.2
    refine Goods.fin 2000 [.b true] mixed Tryd.func80 ?_
    show Yes _
    repeat' apply And.intro
    (all_goals first | rfl | assumption | trivial | omega | (simp [-List.getD_eq_getElem?_getD, e] <;> omega) | (simp (disch := omega) only [w64, wu64] <;> omega) | (simp (disch := omega) [-List.getD_eq_getElem?_getD, List.getD_cons_zero, List.getD_cons_succ, kCast_self, dfl_pair, dfl_int, w64, wu64, e] <;> omega) | (rw [Bool.eq_iff_iff]; simp (disch := omega) [-List.getD_eq_getElem?_getD, List.getD_cons_zero, List.getD_cons_succ, kCast_self, dfl_pair, dfl_int, w64, wu64, e] <;> omega) | (simp_all [-List.getD_eq_getElem?_getD] <;> omega))
  | j + 1, i, h => by
    have ih := least_1 own l hl c es he j (i + 1) (by omega)
    have e : mhas (kk := .int .i64) (vk := .unit) (i : Int) es = true := by rw [mhas, he]; exact decide_eq_true ((leastT_spec l).2.1 i (by omega))
    have hle := (leastT_spec l).1
    refine Goods.to 2000 [.b false, .l, .stop] mixed (ih) (by kernel_rfl) ?_
    show Yes _
    repeat' apply And.intro
    (all_goals first | rfl | assumption | trivial | omega | (simp [-List.getD_eq_getElem?_getD, e] <;> omega) | (simp (disch := omega) only [w64, wu64] <;> omega) | (simp (disch := omega) [-List.getD_eq_getElem?_getD, List.getD_cons_zero, List.getD_cons_succ, kCast_self, dfl_pair, dfl_int, w64, wu64, e] <;> omega) | (rw [Bool.eq_iff_iff]; simp (disch := omega) [-List.getD_eq_getElem?_getD, List.getD_cons_zero, List.getD_cons_succ, kCast_self, dfl_pair, dfl_int, w64, wu64, e] <;> omega) | (simp_all [-List.getD_eq_getElem?_getD] <;> omega))
theorem least_0 (own : Bool) (l : List Int) (hl : l.length < 1000000) : ∀ (j k : Nat) (c : Nat) (es : SetT), k + j = l.length → (∀ z, (mget (kk := .int .i64) (vk := .unit) z es).isSome = decide (z ∈ l.take k)) → Goods (gLeast own l) ⟨.none, lp Tryd.f80 0, [(3, .map 1), (10, .slice 0 0 l.length), (11, .int .i64 l.length), (12, .int .i64 k)], hp [.tab own (.int .i64) l, .map (.int .i64) .unit c es]⟩
  | 0, k, c, es, h, he => by
    obtain rfl : k = l.length := by omega
    rw [List.take_length] at he
    have ih := least_1 own l hl c es he (leastT l) 0 (by omega)
    refine Goods.to 2000 [.b false, .l, .stop] mixed (ih) (by kernel_rfl) ?_
    show Yes _
    repeat' apply And.intro
    (all_goals first | rfl | assumption | trivial | omega | (simp [-List.getD_eq_getElem?_getD] <;> omega) | (simp (disch := omega) only [w64, wu64] <;> omega) | (simp (disch := omega) [-List.getD_eq_getElem?_getD, List.getD_cons_zero, List.getD_cons_succ, kCast_self, dfl_pair, dfl_int, w64, wu64] <;> omega) | (rw [Bool.eq_iff_iff]; simp (disch := omega) [-List.getD_eq_getElem?_getD, List.getD_cons_zero, List.getD_cons_succ, kCast_self, dfl_pair, dfl_int, w64, wu64] <;> omega) | (simp_all [-List.getD_eq_getElem?_getD] <;> omega))
  | j + 1, k, c, es, h, he => by
    obtain ⟨x, hx⟩ : ∃ x, l.getD k 0 = x := ⟨_, rfl⟩
    have ht : l.take (k + 1) = l.take k ++ [x] := by rw [List.take_add_one, ← hx]; simp [List.getD, show k < l.length by omega]
    have ih := least_0 own l hl j (k + 1) (mclock (kk := .int .i64) (vk := .unit) x c es) (mput (kk := .int .i64) (vk := .unit) x () c es) (by omega) fun z => by
      rw [mget_put, ht]
      by_cases hz : z = x
      · rw [if_pos hz]; simp [hz]
      · rw [if_neg hz, he]; simp [hz]
    subst hx
    refine Goods.to 2000 [.b true, .l, .stop] mixed (ih) (by kernel_rfl) ?_
    show Yes _
    repeat' apply And.intro
    (all_goals first | rfl | assumption | trivial | omega | (simp [-List.getD_eq_getElem?_getD] <;> omega) | (simp (disch := omega) only [w64, wu64] <;> omega) | (simp (disch := omega) [-List.getD_eq_getElem?_getD, List.getD_cons_zero, List.getD_cons_succ, kCast_self, dfl_pair, dfl_int, w64, wu64] <;> omega) | (rw [Bool.eq_iff_iff]; simp (disch := omega) [-List.getD_eq_getElem?_getD, List.getD_cons_zero, List.getD_cons_succ, kCast_self, dfl_pair, dfl_int, w64, wu64] <;> omega) | (simp_all [-List.getD_eq_getElem?_getD] <;> omega))
theorem least_tri (own : Bool) (l : List Int) (hl : l.length < 1000000) : Tri En 80 [.slice 0 0 l.length] [.tab own (.int .i64) l] (.int .i64 (leastT l)) [.tab own (.int .i64) l] := by
  have ih := least_0 own l hl l.length 0 0 [] (by omega) fun z => rfl
  refine Tri.of Tryd.func80 rfl Tryd.call80 rfl ?_
  refine Goods.to 2000 [.l, .stop] mixed (ih) (by kernel_rfl) ?_
  show Yes _
  repeat' apply And.intro
  (all_goals first | rfl | assumption | trivial | omega | (simp [-List.getD_eq_getElem?_getD] <;> omega) | (simp (disch := omega) only [w64, wu64] <;> omega) | (simp (disch := omega) [-List.getD_eq_getElem?_getD, List.getD_cons_zero, List.getD_cons_succ, kCast_self, dfl_pair, dfl_int, w64, wu64] <;> omega) | (rw [Bool.eq_iff_iff]; simp (disch := omega) [-List.getD_eq_getElem?_getD, List.getD_cons_zero, List.getD_cons_succ, kCast_self, dfl_pair, dfl_int, w64, wu64] <;> omega) | (simp_all [-List.getD_eq_getElem?_getD] <;> omega))
end Go.Proofs.YtnheodgffackoaaDoor.E

/- References: a word's bits; which words are a reference's. -/
namespace Go.Proofs.YtnheodgffackoaaDoor.E
set_option linter.unusedSimpArgs false
set_option linter.unusedVariables false
open Go
set_option maxRecDepth 100000

theorem high_bit {n b i : Nat} (hn : n < 2 ^ b) (hi : b ≤ i) : n.testBit i = false := Nat.testBit_lt_two_pow (Nat.lt_of_lt_of_le hn (Nat.pow_le_pow_right (by omega) hi))
theorem two63 (i : Nat) : (9223372036854775808 : Nat).testBit i = decide (63 = i) := by
  rw [show (9223372036854775808 : Nat) = 2 ^ 63 by decide, Nat.testBit_two_pow]
/-- A reference's word, bit by bit. -/
theorem ref_bit (wk sl tg i : Nat) (h0 : wk < 256) (h1 : sl < 256) (h2 : tg < 4294967296) (hi : i < 64) : (refN wk sl tg).testBit i = if i < 8 then wk.testBit i else if i < 16 then sl.testBit (i - 8) else if i < 48 then tg.testBit (i - 16) else decide (63 = i) := by
  unfold refN
  rw [putN_bit _ _ _ _ _ hi h2]
  by_cases c : 16 ≤ i ∧ i < 16 + 32
  · rw [if_pos c, if_neg (by omega), if_neg (by omega), if_pos (by omega)]
  · rw [if_neg c, putN_bit _ _ _ _ _ hi h1]
    by_cases c : 8 ≤ i ∧ i < 8 + 8
    · rw [if_pos c, if_neg (by omega), if_pos (by omega)]
    · rw [if_neg c, putN_bit _ _ _ _ _ hi h0]
      by_cases c : 0 ≤ i ∧ i < 0 + 8
      · rw [if_pos c, if_pos (by omega), Nat.sub_zero]
      · rw [if_neg c, if_neg (by omega), if_neg (by omega), if_neg (by omega), two63]
theorem refN_lt (wk sl tg : Nat) : refN wk sl tg < 18446744073709551616 := putN_lt _ _ _ _
theorem get_ref (a b c : Nat) (h0 : a < 256) (h1 : b < 256) (h2 : c < 4294967296) : getN (refN a b c) 0 8 = a ∧ getN (refN a b c) 8 8 = b ∧ getN (refN a b c) 16 32 = c := by
  refine ⟨?_, ?_, ?_⟩ <;> (apply Nat.eq_of_testBit_eq; intro i; rw [getN_bit])
  · by_cases hi : i < 8
    · rw [ref_bit a b c _ h0 h1 h2 (by omega), if_pos (by omega), Nat.zero_add]; simp [hi]
    · rw [high_bit (b := 8) h0 (by omega)]; simp [hi]
  · by_cases hi : i < 8
    · rw [ref_bit a b c _ h0 h1 h2 (by omega), if_neg (by omega), if_pos (by omega), Nat.add_sub_cancel_left]; simp [hi]
    · rw [high_bit (b := 8) h1 (by omega)]; simp [hi]
  · by_cases hi : i < 32
    · rw [ref_bit a b c _ h0 h1 h2 (by omega), if_neg (by omega), if_neg (by omega), if_pos (by omega), Nat.add_sub_cancel_left]; simp [hi]
    · rw [high_bit (b := 32) h2 (by omega)]; simp [hi]
theorem to_of (a b c : Nat) (h0 : a < 256) (h1 : b < 256) (h2 : c < 4294967296) : Tri En 35 [.int .u64 (refN a b c)] [] (.tuple [refI a b c, .bl true]) [] := by
  obtain ⟨e0, e1, e2⟩ := get_ref a b c h0 h1 h2
  have := to_yes (refN a b c) (refN_lt a b c) (by rw [e0, e1, e2])
  rwa [e0, e1, e2] at this
theorem ref_nat {wk sl tg : Int} (h : (0 ≤ wk ∧ wk < 256) ∧ (0 ≤ sl ∧ sl < 256) ∧ 0 ≤ tg ∧ tg < 4294967296) : ∃ a b c : Nat, wk = a ∧ sl = b ∧ tg = c ∧ a < 256 ∧ b < 256 ∧ c < 4294967296 := ⟨wk.toNat, sl.toNat, tg.toNat, by omega, by omega, by omega, by omega, by omega, by omega⟩
/-- A word is the reference's to a worker's slot, by whatever tag. -/
def hitN (wk sl : Int) (w : Nat) : Bool := decide (refN (getN w 0 8) (getN w 8 8) (getN w 16 32) = w) && decide ((getN w 0 8 : Int) = wk) && decide ((getN w 8 8 : Int) = sl)
theorem hit_ref (wk sl tg : Nat) (h0 : wk < 256) (h1 : sl < 256) (h2 : tg < 4294967296) (w : Nat) : (hitN wk sl w = true ∧ getN w 16 32 = tg) ↔ w = refN wk sl tg := by
  unfold hitN
  constructor
  · rintro ⟨h, rfl⟩
    simp only [Bool.and_eq_true, decide_eq_true_eq] at h
    obtain ⟨⟨h3, h4⟩, h5⟩ := h
    have h4 : getN w 0 8 = wk := by omega
    have h5 : getN w 8 8 = sl := by omega
    rw [h4, h5] at h3
    exact h3.symm
  · rintro rfl
    obtain ⟨e0, e1, e2⟩ := get_ref wk sl tg h0 h1 h2
    rw [e0, e1, e2]
    simp
theorem hit_zero (wk sl : Int) : hitN wk sl 0 = false := by
  unfold hitN
  have : refN (getN 0 0 8) (getN 0 8 8) (getN 0 16 32) ≠ 0 := by
    intro h
    have := ref_bit (getN 0 0 8) (getN 0 8 8) (getN 0 16 32) 63 (getN_lt 0 0 (b := 8)) (getN_lt 0 8 (b := 8)) (getN_lt 0 16 (b := 32)) (by omega)
    rw [h] at this
    simp at this
  simp [this]
def hitsU (wk sl : Int) (used : List Int) (x : Int) : List Int := if hitN wk sl x.toNat = true then used ++ [(getN x.toNat 16 32 : Int)] else used
theorem hitsU_len (wk sl : Int) (used : List Int) (x : Int) : (hitsU wk sl used x).length ≤ used.length + 1 := by
  unfold hitsU; split <;> simp
/-- The tags that are used among words. -/
def hits (wk sl : Int) (ws : List Int) : List Int := ws.foldl (hitsU wk sl) []
theorem hits_snoc (wk sl : Int) (ws : List Int) (x : Int) : hits wk sl (ws ++ [x]) = hitsU wk sl (hits wk sl ws) x := by simp [hits]
theorem hits_mem (wk sl : Int) (z : Int) : ∀ (ws : List Int), z ∈ hits wk sl ws ↔ ∃ x ∈ ws, hitN wk sl x.toNat = true ∧ (getN x.toNat 16 32 : Int) = z := by
  have key : ∀ (ws u : List Int), z ∈ ws.foldl (hitsU wk sl) u ↔ z ∈ u ∨ ∃ x ∈ ws, hitN wk sl x.toNat = true ∧ (getN x.toNat 16 32 : Int) = z := by
    intro ws
    induction ws with
    | nil => intro u; simp
    | cons x ws ih =>
      intro u
      rw [List.foldl_cons, ih]
      unfold hitsU
      by_cases h : hitN wk sl x.toNat = true
      · rw [if_pos h]
        constructor
        · rintro (h1 | ⟨y, h1, h2⟩)
          · rcases List.mem_append.1 h1 with h1 | h1
            · exact .inl h1
            · exact .inr ⟨x, by simp, h, (List.mem_singleton.1 h1).symm⟩
          · exact .inr ⟨y, by simp [h1], h2⟩
        · rintro (h1 | ⟨y, h1, h2, h3⟩)
          · exact .inl (by simp [h1])
          · rcases List.mem_cons.1 h1 with rfl | h1
            · exact .inl (by simp [h3])
            · exact .inr ⟨y, h1, h2, h3⟩
      · rw [if_neg h]
        constructor
        · rintro (h1 | ⟨y, h1, h2⟩)
          · exact .inl h1
          · exact .inr ⟨y, by simp [h1], h2⟩
        · rintro (h1 | ⟨y, h1, h2, h3⟩)
          · exact .inl h1
          · rcases List.mem_cons.1 h1 with rfl | h1
            · exact absurd h2 h
            · exact .inr ⟨y, h1, h2, h3⟩
  intro ws
  rw [hits, key]; simp
theorem hits_len (wk sl : Int) : ∀ (ws : List Int), (hits wk sl ws).length ≤ ws.length := by
  have key : ∀ (ws u : List Int), (ws.foldl (hitsU wk sl) u).length ≤ u.length + ws.length := by
    intro ws
    induction ws with
    | nil => intro u; simp
    | cons x ws ih =>
      intro u
      rw [List.foldl_cons]
      have h1 := ih (hitsU wk sl u x)
      have h2 := hitsU_len wk sl u x
      simp only [List.length_cons]; omega
  intro ws
  have := key ws []
  simpa [hits] using this
theorem hits_tag {wk sl : Int} {ws : List Int} {z : Int} (h : z ∈ hits wk sl ws) : 0 ≤ z ∧ z < 4294967296 := by
  obtain ⟨x, _, _, rfl⟩ := (hits_mem wk sl z ws).1 h
  have : getN x.toNat 16 32 < 4294967296 := getN_lt x.toNat 16 (b := 32)
  omega
end Go.Proofs.YtnheodgffackoaaDoor.E

/- Package tag: a look through words, by steps. -/
namespace Go.Proofs.YtnheodgffackoaaDoor.E
set_option linter.unusedSimpArgs false
set_option linter.unusedVariables false
open Go
set_option maxRecDepth 100000

/-- A scan: over the memory i, its tags in object j. -/
def scanC (i j : Nat) (at_ n wk sl : Int) (used : List Int) : AObj := .cells [.ptr i 0 0, .int .i64 at_, .int .i64 n, .int .i64 wk, .int .i64 sl, .int .i64 0, .slice j 0 used.length]
def tagsT (used : List Int) : AObj := .tab true (.int .i64) used
theorem scan_new (m : MemS) (at_ n wk sl : Int) : Tri En 73 [.ptr 0 0 0, .int .i64 at_, .int .i64 n, .int .i64 wk, .int .i64 sl] [memC 1 m, memT m] (.ptr 2 0 0) [memC 1 m, memT m, scanC 0 3 at_ (max n 0) wk sl [], tagsT []] := by
  refine Tri.nilCell (pre := [memC 1 m, memT m]) (post := []) (cp := [.ptr 0 0 0, .int .i64 at_, .int .i64 (max n 0), .int .i64 wk, .int .i64 sl, .int .i64 0]) (cq := []) (.int .i64) ?_ (by simp)
  show Tri En 73 [.ptr 0 0 0, .int .i64 at_, .int .i64 n, .int .i64 wk, .int .i64 sl] [memC 1 m, memT m] (.ptr 2 0 0) [memC 1 m, memT m, .cells [.ptr 0 0 0, .int .i64 at_, .int .i64 (max n 0), .int .i64 wk, .int .i64 sl, .int .i64 0, .nilslice]]
  refine Tri.of Tryd.func73 rfl Tryd.call73 rfl ?_
  refine Goods.fin 2000 [] mixed Tryd.func73 ?_
  show Yes _
  repeat' apply And.intro
  (all_goals first | rfl | assumption | trivial | omega | (simp [-List.getD_eq_getElem?_getD] <;> omega) | (simp (disch := omega) only [w64, wu64] <;> omega) | (simp (disch := omega) [-List.getD_eq_getElem?_getD, List.getD_cons_zero, List.getD_cons_succ, kCast_self, dfl_pair, dfl_int, w64, wu64] <;> omega) | (rw [Bool.eq_iff_iff]; simp (disch := omega) [-List.getD_eq_getElem?_getD, List.getD_cons_zero, List.getD_cons_succ, kCast_self, dfl_pair, dfl_int, w64, wu64] <;> omega) | (simp_all [-List.getD_eq_getElem?_getD] <;> omega))
theorem step_end (m : MemS) (at_ wk sl : Int) (used : List Int) : Tri En 76 [.ptr 0 0 0] [scanC 1 3 at_ 0 wk sl used, memC 2 m, memT m, tagsT used] (.bl true) [scanC 1 3 at_ 0 wk sl used, memC 2 m, memT m, tagsT used] := by
  refine Tri.of Tryd.func76 rfl Tryd.call76 rfl ?_
  refine Goods.fin 2000 [.b false] mixed Tryd.func76 ?_
  show Yes _
  repeat' apply And.intro
  (all_goals first | rfl | assumption | trivial | omega | (simp [-List.getD_eq_getElem?_getD] <;> omega) | (simp (disch := omega) only [w64, wu64] <;> omega) | (simp (disch := omega) [-List.getD_eq_getElem?_getD, List.getD_cons_zero, List.getD_cons_succ, kCast_self, dfl_pair, dfl_int, w64, wu64] <;> omega) | (rw [Bool.eq_iff_iff]; simp (disch := omega) [-List.getD_eq_getElem?_getD, List.getD_cons_zero, List.getD_cons_succ, kCast_self, dfl_pair, dfl_int, w64, wu64] <;> omega) | (simp_all [-List.getD_eq_getElem?_getD] <;> omega))
theorem ref_tri (m : MemS) (at_ n wk sl : Int) (used : List Int) (hu : used.length < 1000000) : Tri En 77 [.ptr 0 0 0] [scanC 1 3 at_ n wk sl used, memC 2 m, memT m, tagsT used] (refI wk sl (leastT used)) [scanC 1 3 at_ n wk sl used, memC 2 m, memT m, tagsT used] := by
  refine Tri.of Tryd.func77 rfl Tryd.call77 rfl ?_
  refine Goods.fin 2000 [.c (.of (least_tri true used hu))] mixed Tryd.func77 ?_
  show Yes _
  repeat' apply And.intro
  (all_goals first | rfl | assumption | trivial | omega | (simp [-List.getD_eq_getElem?_getD] <;> omega) | (simp (disch := omega) only [w64, wu64] <;> omega) | (simp (disch := omega) [-List.getD_eq_getElem?_getD, List.getD_cons_zero, List.getD_cons_succ, kCast_self, dfl_pair, dfl_int, w64, wu64] <;> omega) | (rw [Bool.eq_iff_iff]; simp (disch := omega) [-List.getD_eq_getElem?_getD, List.getD_cons_zero, List.getD_cons_succ, kCast_self, dfl_pair, dfl_int, w64, wu64] <;> omega) | (simp_all [-List.getD_eq_getElem?_getD] <;> omega))
set_option maxHeartbeats 2000000 in
theorem step_tri (m : MemS) (a n : Nat) (wk sl : Int) (used : List Int) (hn : n < 1000000) (ha : a < 1000000) (x : Nat) (hx : m.get a = x) (hx2 : x < 18446744073709551616) (hu : used.length < 1000000) :
    Tri En 76 [.ptr 0 0 0] [scanC 1 3 a (n + 1 : Nat) wk sl used, memC 2 m, memT m, tagsT used] (.bool (decide ((n : Int) = 0))) [scanC 1 4 (a + 1 : Nat) n wk sl (hitsU wk sl used x), memC 2 (m.acc 1 a), memT m, .gone, tagsT (hitsU wk sl used x)] := by
  have hl := mem_load m a
  rw [hx] at hl
  unfold hitsU hitN
  rw [Int.toNat_natCast]
  by_cases h1 : refN (getN x 0 8) (getN x 8 8) (getN x 16 32) = x
  · have ht := to_yes x hx2 h1
    by_cases h2 : (getN x 0 8 : Int) = wk
    · by_cases h3 : (getN x 8 8 : Int) = sl
      · rw [if_pos (by simp [h1, h2, h3])]
        refine Tri.of Tryd.func76 rfl Tryd.call76 rfl ?_
        refine Goods.fin 2000 [.b true, .k 19 (.of hl), .k 20 (.of ht), .s 32 (some true) true true, .s 42 (some true) true true] mixed Tryd.func76 ?_
        show Yes _
        repeat' apply And.intro
        (all_goals first | rfl | assumption | trivial | omega | (simp [-List.getD_eq_getElem?_getD] <;> omega) | (simp (disch := omega) only [w64, wu64] <;> omega) | (simp (disch := omega) [-List.getD_eq_getElem?_getD, List.getD_cons_zero, List.getD_cons_succ, kCast_self, dfl_pair, dfl_int, w64, wu64] <;> omega) | (rw [Bool.eq_iff_iff]; simp (disch := omega) [-List.getD_eq_getElem?_getD, List.getD_cons_zero, List.getD_cons_succ, kCast_self, dfl_pair, dfl_int, w64, wu64] <;> omega) | (simp_all [-List.getD_eq_getElem?_getD] <;> omega))
      · rw [if_neg (by simp [h3])]
        refine Tri.of Tryd.func76 rfl Tryd.call76 rfl ?_
        refine Goods.fin 2000 [.b true, .k 19 (.of hl), .k 20 (.of ht), .s 32 (some true) true true, .s 42 (some false) true true] mixed Tryd.func76 ?_
        show Yes _
        repeat' apply And.intro
        (all_goals first | rfl | assumption | trivial | omega | (simp [-List.getD_eq_getElem?_getD] <;> omega) | (simp (disch := omega) only [w64, wu64] <;> omega) | (simp (disch := omega) [-List.getD_eq_getElem?_getD, List.getD_cons_zero, List.getD_cons_succ, kCast_self, dfl_pair, dfl_int, w64, wu64] <;> omega) | (rw [Bool.eq_iff_iff]; simp (disch := omega) [-List.getD_eq_getElem?_getD, List.getD_cons_zero, List.getD_cons_succ, kCast_self, dfl_pair, dfl_int, w64, wu64] <;> omega) | (simp_all [-List.getD_eq_getElem?_getD] <;> omega))
    · rw [if_neg (by simp [h2])]
      refine Tri.of Tryd.func76 rfl Tryd.call76 rfl ?_
      refine Goods.fin 2000 [.b true, .k 19 (.of hl), .k 20 (.of ht), .s 32 (some false) true true] mixed Tryd.func76 ?_
      show Yes _
      repeat' apply And.intro
      (all_goals first | rfl | assumption | trivial | omega | (simp [-List.getD_eq_getElem?_getD] <;> omega) | (simp (disch := omega) only [w64, wu64] <;> omega) | (simp (disch := omega) [-List.getD_eq_getElem?_getD, List.getD_cons_zero, List.getD_cons_succ, kCast_self, dfl_pair, dfl_int, w64, wu64] <;> omega) | (rw [Bool.eq_iff_iff]; simp (disch := omega) [-List.getD_eq_getElem?_getD, List.getD_cons_zero, List.getD_cons_succ, kCast_self, dfl_pair, dfl_int, w64, wu64] <;> omega) | (simp_all [-List.getD_eq_getElem?_getD] <;> omega))
  · rw [if_neg (by simp [h1])]
    have ht := to_no x hx2 h1
    refine Tri.of Tryd.func76 rfl Tryd.call76 rfl ?_
    refine Goods.fin 2000 [.b true, .k 19 (.of hl), .k 20 (.of ht)] mixed Tryd.func76 ?_
    show Yes _
    repeat' apply And.intro
    (all_goals first | rfl | assumption | trivial | omega | (simp [-List.getD_eq_getElem?_getD] <;> omega) | (simp (disch := omega) only [w64, wu64] <;> omega) | (simp (disch := omega) [-List.getD_eq_getElem?_getD, List.getD_cons_zero, List.getD_cons_succ, kCast_self, dfl_pair, dfl_int, w64, wu64] <;> omega) | (rw [Bool.eq_iff_iff]; simp (disch := omega) [-List.getD_eq_getElem?_getD, List.getD_cons_zero, List.getD_cons_succ, kCast_self, dfl_pair, dfl_int, w64, wu64] <;> omega) | (simp_all [-List.getD_eq_getElem?_getD] <;> omega))
end Go.Proofs.YtnheodgffackoaaDoor.E
