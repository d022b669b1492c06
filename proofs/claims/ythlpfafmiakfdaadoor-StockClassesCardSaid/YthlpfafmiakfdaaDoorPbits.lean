/- What the document says of fields of bits: its own functions' contracts. -/
import Derived.Test.YthlpfafmiakfdaaDoorPword
namespace Go.Proofs.YthlpfafmiakfdaaDoor.E
set_option linter.unusedSimpArgs false
set_option linter.unusedVariables false
open Go
set_option maxRecDepth 100000

theorem bit_of (w n : Nat) : (Int.tmod ((w / 2 ^ n : Nat) : Int) 2 == 1) = w.testBit n := by
  rw [Nat.testBit_eq_decide_div_mod_eq]
  generalize w / 2 ^ n = y
  rw [Int.tmod_eq_emod_of_nonneg (by omega), Bool.eq_iff_iff]
  simp
  omega
noncomputable abbrev gBit (w n : Nat) : Frm := ⟨En, 45, Tryd.f45.ntmps, [], .bool (w.testBit n), []⟩
theorem bit_0 (w n : Nat) (hw : w < 18446744073709551616) (hn : n ≤ 1000) : ∀ (j k : Nat), k + j = n → Goods (gBit w n) ⟨.none, lp Tryd.f45 0, [(0, .int .u64 ((w / 2 ^ k : Nat) : Int)), (1, .int .i64 n), (5, .int .i64 k)], hp []⟩
  | 0, k, h => by
    obtain rfl : k = n := by omega
    have e := bit_of w k
    refine Goods.fin 2000 [.b false] mixed Tryd.func45 ?_
    show Yes _
    repeat' apply And.intro
    (all_goals first | rfl | assumption | trivial | omega | (simp [-List.getD_eq_getElem?_getD, e] <;> omega) | (simp (disch := omega) only [w64, wu64] <;> omega) | (simp (disch := omega) [-List.getD_eq_getElem?_getD, List.getD_cons_zero, List.getD_cons_succ, kCast_self, dfl_pair, dfl_int, w64, wu64, e] <;> omega) | (rw [Bool.eq_iff_iff]; simp (disch := omega) [-List.getD_eq_getElem?_getD, List.getD_cons_zero, List.getD_cons_succ, kCast_self, dfl_pair, dfl_int, w64, wu64, e] <;> omega) | (simp_all [-List.getD_eq_getElem?_getD] <;> omega))
  | j + 1, k, h => by
    have ih := bit_0 w n hw hn j (k + 1) (by omega)
    have h1 : w / 2 ^ k ≤ w := Nat.div_le_self _ _
    have e : IntKind.u64.wrap (Int.tdiv ((w / 2 ^ k : Nat) : Int) 2) = ((w / 2 ^ (k + 1) : Nat) : Int) := by
      rw [Nat.pow_succ, ← Nat.div_div_eq_div_mul]
      generalize w / 2 ^ k = y at *
      rw [Int.tdiv_eq_ediv_of_nonneg (by omega), wu64 (by omega) (by omega)]
      omega
    refine Goods.to 2000 [.b true, .l, .stop] mixed (ih) (by kernel_rfl) ?_
    show Yes _
    repeat' apply And.intro
    (all_goals first | rfl | assumption | trivial | omega | (simp [-List.getD_eq_getElem?_getD] <;> omega) | (simp (disch := omega) only [w64, wu64] <;> omega) | (simp (disch := omega) [-List.getD_eq_getElem?_getD, List.getD_cons_zero, List.getD_cons_succ, kCast_self, dfl_pair, dfl_int, w64, wu64] <;> omega) | (rw [Bool.eq_iff_iff]; simp (disch := omega) [-List.getD_eq_getElem?_getD, List.getD_cons_zero, List.getD_cons_succ, kCast_self, dfl_pair, dfl_int, w64, wu64] <;> omega) | (simp_all [-List.getD_eq_getElem?_getD] <;> omega))
theorem bit_tri (w n : Nat) (hw : w < 18446744073709551616) (hn : n ≤ 1000) : Tri En 45 [.int .u64 w, .int .i64 n] [] (.bool (w.testBit n)) [] := by
  have ih := bit_0 w n hw hn n 0 (by omega)
  refine Tri.of Tryd.func45 rfl Tryd.call45 rfl ?_
  refine Goods.to 2000 [.l, .stop] mixed (ih) (by kernel_rfl) ?_
  show Yes _
  repeat' apply And.intro
  (all_goals first | rfl | assumption | trivial | omega | (simp [-List.getD_eq_getElem?_getD] <;> omega) | (simp (disch := omega) only [w64, wu64] <;> omega) | (simp (disch := omega) [-List.getD_eq_getElem?_getD, List.getD_cons_zero, List.getD_cons_succ, kCast_self, dfl_pair, dfl_int, w64, wu64] <;> omega) | (rw [Bool.eq_iff_iff]; simp (disch := omega) [-List.getD_eq_getElem?_getD, List.getD_cons_zero, List.getD_cons_succ, kCast_self, dfl_pair, dfl_int, w64, wu64] <;> omega) | (simp_all [-List.getD_eq_getElem?_getD] <;> omega))
noncomputable abbrev gPower (n : Nat) : Frm := ⟨En, 46, Tryd.f46.ntmps, [], .int .u64 ((2 ^ n : Nat) : Int), []⟩
theorem power_0 (n : Nat) (hn : n ≤ 63) : ∀ (j k : Nat), k + j = n → Goods (gPower n) ⟨.none, lp Tryd.f46 0, [(0, .int .i64 n), (3, .int .u64 ((2 ^ k : Nat) : Int)), (4, .int .i64 k)], hp []⟩
  | 0, k, h => by
    obtain rfl : k = n := by omega
    refine Goods.fin 2000 [.b false] mixed Tryd.func46 ?_
    show Yes _
    repeat' apply And.intro
    (all_goals first | rfl | assumption | trivial | omega | (simp [-List.getD_eq_getElem?_getD] <;> omega) | (simp (disch := omega) only [w64, wu64] <;> omega) | (simp (disch := omega) [-List.getD_eq_getElem?_getD, List.getD_cons_zero, List.getD_cons_succ, kCast_self, dfl_pair, dfl_int, w64, wu64] <;> omega) | (rw [Bool.eq_iff_iff]; simp (disch := omega) [-List.getD_eq_getElem?_getD, List.getD_cons_zero, List.getD_cons_succ, kCast_self, dfl_pair, dfl_int, w64, wu64] <;> omega) | (simp_all [-List.getD_eq_getElem?_getD] <;> omega))
  | j + 1, k, h => by
    have ih := power_0 n hn j (k + 1) (by omega)
    have h1 : 2 ^ (k + 1) ≤ 2 ^ 63 := Nat.pow_le_pow_right (by omega) (by omega)
    have e : IntKind.u64.wrap (((2 ^ k : Nat) : Int) * 2) = ((2 ^ (k + 1) : Nat) : Int) := by
      rw [Nat.pow_succ] at h1 ⊢
      generalize 2 ^ k = y at *
      rw [wu64 (by omega) (by omega)]
      omega
    refine Goods.to 2000 [.b true, .l, .stop] mixed (ih) (by kernel_rfl) ?_
    show Yes _
    repeat' apply And.intro
    (all_goals first | rfl | assumption | trivial | omega | (simp [-List.getD_eq_getElem?_getD] <;> omega) | (simp (disch := omega) only [w64, wu64] <;> omega) | (simp (disch := omega) [-List.getD_eq_getElem?_getD, List.getD_cons_zero, List.getD_cons_succ, kCast_self, dfl_pair, dfl_int, w64, wu64] <;> omega) | (rw [Bool.eq_iff_iff]; simp (disch := omega) [-List.getD_eq_getElem?_getD, List.getD_cons_zero, List.getD_cons_succ, kCast_self, dfl_pair, dfl_int, w64, wu64] <;> omega) | (simp_all [-List.getD_eq_getElem?_getD] <;> omega))
theorem power_tri (n : Nat) (hn : n ≤ 63) : Tri En 46 [.int .i64 n] [] (.int .u64 ((2 ^ n : Nat) : Int)) [] := by
  have ih := power_0 n hn n 0 (by omega)
  refine Tri.of Tryd.func46 rfl Tryd.call46 rfl ?_
  refine Goods.to 2000 [.l, .stop] mixed (ih) (by kernel_rfl) ?_
  show Yes _
  repeat' apply And.intro
  (all_goals first | rfl | assumption | trivial | omega | (simp [-List.getD_eq_getElem?_getD] <;> omega) | (simp (disch := omega) only [w64, wu64] <;> omega) | (simp (disch := omega) [-List.getD_eq_getElem?_getD, List.getD_cons_zero, List.getD_cons_succ, kCast_self, dfl_pair, dfl_int, w64, wu64] <;> omega) | (rw [Bool.eq_iff_iff]; simp (disch := omega) [-List.getD_eq_getElem?_getD, List.getD_cons_zero, List.getD_cons_succ, kCast_self, dfl_pair, dfl_int, w64, wu64] <;> omega) | (simp_all [-List.getD_eq_getElem?_getD] <;> omega))
theorem getN_succ (w a k : Nat) : getN w a (k + 1) = getN w a k + (if w.testBit (a + k) then 2 ^ k else 0) := by
  unfold getN
  rw [Nat.mod_pow_succ, Nat.testBit_eq_decide_div_mod_eq, Nat.pow_add 2 a k, ← Nat.div_div_eq_div_mul]
  have h2 := Nat.mod_two_eq_zero_or_one (w / 2 ^ a / 2 ^ k)
  rcases h2 with h2 | h2 <;> simp [h2]
end Go.Proofs.YthlpfafmiakfdaaDoor.E
