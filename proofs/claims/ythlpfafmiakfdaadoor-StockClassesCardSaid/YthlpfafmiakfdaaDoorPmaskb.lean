/- Package mask: the functions with loops. -/
import Derived.Test.YthlpfafmiakfdaaDoorPmask
namespace Go.Proofs.YthlpfafmiakfdaaDoor.E
set_option linter.unusedSimpArgs false
set_option linter.unusedVariables false
open Go
set_option maxRecDepth 100000

theorem and_lt64 (x y : Nat) (hx : x < 18446744073709551616) : x &&& y < 18446744073709551616 := Nat.lt_of_le_of_lt Nat.and_le_left hx
theorem or_lt64 {x y : Nat} (hx : x < 18446744073709551616) (hy : y < 18446744073709551616) : x ||| y < 18446744073709551616 := by
  rw [← pow64] at hx hy ⊢; exact Nat.or_lt_two_pow hx hy
theorem pow_lt64 {t : Nat} (h : t < 64) : 2 ^ t < 18446744073709551616 := by rw [← pow64]; exact Nat.pow_lt_pow_right (by omega) h
theorem bits_zero {x : Nat} (hx : x < 18446744073709551616) (h : (bitsL x).length = 0) : x = 0 := L_nil (by rw [pow64]; exact hx) (List.eq_nil_of_length_eq_zero h)
theorem bits_ne {x j : Nat} (h : (bitsL x).length = j + 1) : x ≠ 0 := by rintro rfl; rw [L_zero] at h; simp at h
/-- All of so many numbers in a row are there. -/
def runOk (m n i : Nat) : Prop := ∀ k, k < n → m.testBit (i + k) = true
theorem run_and (m n i : Nat) : m &&& (2 ^ n - 1) * 2 ^ i = (2 ^ n - 1) * 2 ^ i ↔ runOk m n i := by
  constructor
  · intro h k hk
    have h1 : (m &&& (2 ^ n - 1) * 2 ^ i).testBit (i + k) = ((2 ^ n - 1) * 2 ^ i).testBit (i + k) := by rw [h]
    rw [Nat.testBit_and, Nat.testBit_mul_two_pow, Nat.testBit_two_pow_sub_one] at h1
    simpa [hk] using h1
  · intro h
    apply Nat.eq_of_testBit_eq
    intro j
    rw [Nat.testBit_and, Nat.testBit_mul_two_pow, Nat.testBit_two_pow_sub_one]
    by_cases hj : i ≤ j ∧ j - i < n
    · have := h (j - i) hj.2
      rw [show i + (j - i) = j by omega] at this
      simp [hj, this]
    · have : (decide (i ≤ j) && decide (j - i < n)) = false := by simp; omega
      rw [this]; simp
noncomputable abbrev gList (l : List Int) : Frm := ⟨En, 16, Tryd.f16.ntmps, [], .slice 0 0 l.length, [.tab true (.int .i64) l]⟩
theorem list_0 (l : List Int) (hl64 : l.length ≤ 64) : ∀ (j x : Nat) (out : List Int), (bitsL x).length = j → x < 18446744073709551616 → out ++ intsL (bitsL x) = l → Goods (gList l) ⟨.none, lp Tryd.f16 0, [(0, .int .u64 x), (3, .slice 0 0 out.length)], hp [.tab true (.int .i64) out]⟩
  | 0, x, out, h, hx, hr => by
    obtain rfl := bits_zero hx h
    have e : out = l := by rw [← hr, L_zero]; simp [intsL]
    subst e
    refine Goods.fin 2000 [.b false] mixed Tryd.func16 ?_
    show Yes _
    repeat' apply And.intro
    (all_goals first | rfl | assumption | trivial | omega | (simp [-List.getD_eq_getElem?_getD] <;> omega) | (simp (disch := omega) only [w64, wu64] <;> omega) | (simp (disch := omega) [-List.getD_eq_getElem?_getD, List.getD_cons_zero, List.getD_cons_succ, kCast_self, dfl_pair, dfl_int, w64, wu64] <;> omega) | (rw [Bool.eq_iff_iff]; simp (disch := omega) [-List.getD_eq_getElem?_getD, List.getD_cons_zero, List.getD_cons_succ, kCast_self, dfl_pair, dfl_int, w64, wu64] <;> omega) | (simp_all [-List.getD_eq_getElem?_getD] <;> omega))
  | j + 1, x, out, h, hx, hr => by
    have h0 := bits_ne h
    obtain ⟨t, ht, hL, hlow, _⟩ := L_cons (by rw [pow64]; exact hx) h0
    have e2 := clr_eq h0 hx
    have hft := first_tri x hx
    rw [show firstN x = t by unfold firstN; rw [hL]; rfl] at hft
    have hle : out.length + 1 ≤ 64 := by rw [← hr, hL] at hl64; simp [intsL] at hl64; omega
    have ih := list_0 l hl64 j (x &&& (x - 1)) (out ++ [(t : Int)]) (by rw [hL] at h; simpa using h) (and_lt64 _ _ hx) (by rw [← hr, hL]; simp [intsL])
    refine Goods.to 2000 [.b true, .c (.of hft), .l, .stop] mixed (ih) (by kernel_rfl) ?_
    show Yes _
    repeat' apply And.intro
    (all_goals first | rfl | assumption | trivial | omega | (simp [-List.getD_eq_getElem?_getD] <;> omega) | (simp (disch := omega) only [w64, wu64] <;> omega) | (simp (disch := omega) [-List.getD_eq_getElem?_getD, List.getD_cons_zero, List.getD_cons_succ, kCast_self, dfl_pair, dfl_int, w64, wu64] <;> omega) | (rw [Bool.eq_iff_iff]; simp (disch := omega) [-List.getD_eq_getElem?_getD, List.getD_cons_zero, List.getD_cons_succ, kCast_self, dfl_pair, dfl_int, w64, wu64] <;> omega) | (simp_all [-List.getD_eq_getElem?_getD] <;> omega))
theorem list_tri (m : Nat) (hm : m < 18446744073709551616) : Tri En 16 [.int .u64 m] [] (.slice 0 0 (intsL (bitsL m)).length) [.tab true (.int .i64) (intsL (bitsL m))] := by
  have ih := list_0 (intsL (bitsL m)) (by rw [intsL_len]; exact L_le m) _ m [] rfl hm rfl
  refine Tri.of Tryd.func16 rfl Tryd.call16 rfl ?_
  refine Goods.to 2000 [.l, .stop] mixed (ih) (by kernel_rfl) ?_
  show Yes _
  repeat' apply And.intro
  (all_goals first | rfl | assumption | trivial | omega | (simp [-List.getD_eq_getElem?_getD] <;> omega) | (simp (disch := omega) only [w64, wu64] <;> omega) | (simp (disch := omega) [-List.getD_eq_getElem?_getD, List.getD_cons_zero, List.getD_cons_succ, kCast_self, dfl_pair, dfl_int, w64, wu64] <;> omega) | (rw [Bool.eq_iff_iff]; simp (disch := omega) [-List.getD_eq_getElem?_getD, List.getD_cons_zero, List.getD_cons_succ, kCast_self, dfl_pair, dfl_int, w64, wu64] <;> omega) | (simp_all [-List.getD_eq_getElem?_getD] <;> omega))
end Go.Proofs.YthlpfafmiakfdaaDoor.E
