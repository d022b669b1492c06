/- What the document says of fields of bits: Signed, Put. -/
import Derived.Test.YtlabfkllndmjhaaDoorPbits
namespace Go.Proofs.YtlabfkllndmjhaaDoor.E
open Go
set_option maxRecDepth 100000

theorem top_bit {n b : Nat} (hn : n < 2 ^ b) (hb : 1 ≤ b) : n.testBit (b - 1) = decide (¬ n < 2 ^ (b - 1)) := by
  obtain ⟨c, rfl⟩ : ∃ c, b = c + 1 := ⟨b - 1, by omega⟩
  rw [Nat.add_sub_cancel, Nat.testBit_eq_decide_div_mod_eq]
  rw [Nat.pow_succ] at hn
  have hP : 0 < 2 ^ c := Nat.pow_pos (by omega)
  generalize 2 ^ c = P at *
  rw [decide_eq_decide]
  by_cases h : n < P
  · rw [Nat.div_eq_of_lt h]; omega
  · have : n / P = 1 := Nat.div_eq_of_lt_le (by omega) (by omega)
    rw [this]; omega
noncomputable abbrev gRsgn (w a b : Nat) : Frm := ⟨En, 16, Tryd.f16.ntmps, [], .int .i64 (sgnN w a b), []⟩
theorem rsgn_0 (w a b : Nat) (hb : 1 ≤ b) (hb2 : b ≤ 64) (h1 : ¬ getN w a b < 2 ^ (b - 1)) : ∀ (j k : Nat), k + j = 64 → b ≤ k → Goods (gRsgn w a b) ⟨.none, lp Tryd.f16 0, [(7, .int .u64 ((getN w a b + (2 ^ k - 2 ^ b) : Nat) : Int)), (8, .int .i64 k)], hp []⟩
  | 0, k, hk, hbk => by
    obtain rfl : k = 64 := by omega
    have hl := getN_lt w a (b := b)
    have hp1 : 2 ^ b ≤ 2 ^ 64 := Nat.pow_le_pow_right (by omega) hb2
    have hp2 : 2 ^ b = 2 * 2 ^ (b - 1) := by rw [← Nat.pow_succ']; congr 1; omega
    have e : IntKind.i64.wrap ((getN w a b + (2 ^ 64 - 2 ^ b) : Nat) : Int) = sgnN w a b := by
      unfold sgnN
      rw [if_neg h1, show (2 : Int) ^ b = ((2 ^ b : Nat) : Int) by simp]
      generalize getN w a b = g at *
      generalize 2 ^ b = B at *
      generalize 2 ^ (b - 1) = B1 at *
      rw [pow64] at hp1 ⊢
      unfold IntKind.wrap
      simp [IntKind.bits, IntKind.signed]
      omega
    refine Goods.fin 2000 [.b false] mixed Tryd.func16 ?_
    show Yes _
    repeat' apply And.intro
    (all_goals first | rfl | assumption | trivial | omega | (simp [-List.getD_eq_getElem?_getD] <;> omega) | (simp (disch := omega) only [w64, wu64] <;> omega) | (simp (disch := omega) [-List.getD_eq_getElem?_getD, List.getD_cons_zero, List.getD_cons_succ, kCast_self, dfl_pair, dfl_int, w64, wu64] <;> omega) | (rw [Bool.eq_iff_iff]; simp (disch := omega) [-List.getD_eq_getElem?_getD, List.getD_cons_zero, List.getD_cons_succ, kCast_self, dfl_pair, dfl_int, w64, wu64] <;> omega) | (simp_all [-List.getD_eq_getElem?_getD] <;> omega))
  | j + 1, k, hk, hbk => by
    have ih := rsgn_0 w a b hb hb2 h1 j (k + 1) (by omega) (by omega)
    have hp' := power_tri k (by omega)
    have hl := getN_lt w a (b := b)
    have e : IntKind.u64.wrap (((getN w a b + (2 ^ k - 2 ^ b) : Nat) : Int) + ((2 ^ k : Nat) : Int)) = ((getN w a b + (2 ^ (k + 1) - 2 ^ b) : Nat) : Int) := by
      have h2 : 2 ^ b ≤ 2 ^ k := Nat.pow_le_pow_right (by omega) hbk
      have h3 : 2 ^ (k + 1) ≤ 2 ^ 64 := Nat.pow_le_pow_right (by omega) (by omega)
      rw [Nat.pow_succ] at h3 ⊢
      rw [pow64] at h3
      generalize getN w a b = g at *
      generalize 2 ^ b = B at *
      generalize 2 ^ k = K at *
      rw [wu64 (by omega) (by omega)]
      omega
    refine Goods.to 2000 [.b true, .c (.of hp'), .l, .stop] mixed (ih) (by kernel_rfl) ?_
    show Yes _
    repeat' apply And.intro
    (all_goals first | rfl | assumption | trivial | omega | (simp [-List.getD_eq_getElem?_getD] <;> omega) | (simp (disch := omega) only [w64, wu64] <;> omega) | (simp (disch := omega) [-List.getD_eq_getElem?_getD, List.getD_cons_zero, List.getD_cons_succ, kCast_self, dfl_pair, dfl_int, w64, wu64] <;> omega) | (rw [Bool.eq_iff_iff]; simp (disch := omega) [-List.getD_eq_getElem?_getD, List.getD_cons_zero, List.getD_cons_succ, kCast_self, dfl_pair, dfl_int, w64, wu64] <;> omega) | (simp_all [-List.getD_eq_getElem?_getD] <;> omega))
theorem rsgn_tri (w a b : Nat) (hw : w < 18446744073709551616) (hb : 1 ≤ b) (h : a + b ≤ 64) : Tri En 16 [.int .u64 w, .int .i64 a, .int .i64 b] [] (.int .i64 (sgnN w a b)) [] := by
  have h1 := rget_tri w a b hw h
  have hl := getN_lt w a (b := b)
  have hp1 : 2 ^ b ≤ 2 ^ 64 := Nat.pow_le_pow_right (by omega) (by omega)
  have hp3 : 2 ^ (b - 1) ≤ 2 ^ 63 := Nat.pow_le_pow_right (by omega) (by omega)
  rw [pow64] at hp1
  have h2 := bit_tri (getN w a b) (b - 1) (by omega) (by omega)
  rw [top_bit hl hb, show ((b - 1 : Nat) : Int) = (b : Int) - 1 by omega] at h2
  by_cases hs : getN w a b < 2 ^ (b - 1)
  · have e : IntKind.i64.wrap (getN w a b : Int) = sgnN w a b := by
      unfold sgnN
      rw [if_pos hs]
      exact w64 (by omega) (by omega)
    refine Tri.of Tryd.func16 rfl Tryd.call16 rfl ?_
    refine Goods.fin 2000 [.c (.of h1), .c (.of h2), .b false] mixed Tryd.func16 ?_
    show Yes _
    repeat' apply And.intro
    (all_goals first | rfl | assumption | trivial | omega | (simp [-List.getD_eq_getElem?_getD] <;> omega) | (simp (disch := omega) only [w64, wu64] <;> omega) | (simp (disch := omega) [-List.getD_eq_getElem?_getD, List.getD_cons_zero, List.getD_cons_succ, kCast_self, dfl_pair, dfl_int, w64, wu64] <;> omega) | (rw [Bool.eq_iff_iff]; simp (disch := omega) [-List.getD_eq_getElem?_getD, List.getD_cons_zero, List.getD_cons_succ, kCast_self, dfl_pair, dfl_int, w64, wu64] <;> omega) | (simp_all [-List.getD_eq_getElem?_getD] <;> omega))
  · have ih := rsgn_0 w a b hb (by omega) hs (64 - b) b (by omega) (Nat.le_refl _)
    rw [Nat.sub_self, Nat.add_zero] at ih
    refine Tri.of Tryd.func16 rfl Tryd.call16 rfl ?_
    refine Goods.to 2000 [.c (.of h1), .c (.of h2), .b true, .l, .stop] mixed (ih) (by kernel_rfl) ?_
    show Yes _
    repeat' apply And.intro
    (all_goals first | rfl | assumption | trivial | omega | (simp [-List.getD_eq_getElem?_getD] <;> omega) | (simp (disch := omega) only [w64, wu64] <;> omega) | (simp (disch := omega) [-List.getD_eq_getElem?_getD, List.getD_cons_zero, List.getD_cons_succ, kCast_self, dfl_pair, dfl_int, w64, wu64] <;> omega) | (rw [Bool.eq_iff_iff]; simp (disch := omega) [-List.getD_eq_getElem?_getD, List.getD_cons_zero, List.getD_cons_succ, kCast_self, dfl_pair, dfl_int, w64, wu64] <;> omega) | (simp_all [-List.getD_eq_getElem?_getD] <;> omega))
end Go.Proofs.YtlabfkllndmjhaaDoor.E
