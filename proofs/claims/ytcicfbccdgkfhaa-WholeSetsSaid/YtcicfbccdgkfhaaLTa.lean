/- WholeSets: the law's contract. -/
import Derived.Test.YtcicfbccdgkfhaaPmaskb
namespace Go.Proofs.Ytcicfbccdgkfhaa.E
open Go
set_option maxRecDepth 100000

theorem hasN_fld {w a b i : Nat} (hi : i < 64) : hasN (getN w a b) (i : Int) = (decide (i < b) && w.testBit (a + i)) := by
  unfold hasN
  rw [decide_eq_true (show 0 ≤ (i : Int) ∧ (i : Int) < 64 by omega), Bool.true_and, Int.toNat_natCast, getN_bit]
theorem put_one {i : Nat} (hi : i < 64) : putN 0 1 i 1 = withN 0 (i : Int) := by
  have h2 : (2 : Nat) ^ i < 2 ^ 64 := Nat.pow_lt_pow_right (by omega) hi
  have e : withN 0 (i : Int) = 2 ^ i := by unfold withN; rw [if_pos (by omega), Int.toNat_natCast, Nat.zero_or]
  rw [e]
  refine bit_ext (by rw [pow64]; exact putN_lt ..) h2 fun j hj => ?_
  rw [putN_bit _ _ _ _ _ hj (by omega), Nat.testBit_two_pow]
  by_cases h : i = j
  · subst h; rw [if_pos (by omega), Nat.sub_self]; simp
  · rw [if_neg (by omega)]; simp [h]
theorem bits_shift (w a b : Nat) (hab : a + b ≤ 64) : (bitsL (w &&& putN 0 (2 ^ b - 1) a b)).length = (bitsL (getN w a b)).length := by
  have hb : 2 ^ b - 1 < 2 ^ b := by have := Nat.pow_pos (a := 2) (n := b) (by omega); omega
  have e : bitsL (w &&& putN 0 (2 ^ b - 1) a b) = (bitsL (getN w a b)).map (· + a) := by
    refine sorted_ext (L_sorted _) ?_ fun i => ?_
    · exact List.pairwise_map.2 ((L_sorted _).imp fun h => by omega)
    · rw [mem_bitsL, List.mem_map]
      constructor
      · rintro ⟨h1, h2⟩
        rw [Nat.testBit_and, putN_bit _ _ _ _ _ h1 hb] at h2
        by_cases h : a ≤ i ∧ i < a + b
        · rw [if_pos h] at h2
          refine ⟨i - a, mem_bitsL.2 ⟨by omega, ?_⟩, by omega⟩
          rw [getN_bit, show a + (i - a) = i by omega]
          simp only [Bool.and_eq_true] at h2
          rw [h2.1]; simp; omega
        · rw [if_neg h] at h2; simp at h2
      · rintro ⟨j, h1, rfl⟩
        obtain ⟨h3, h4⟩ := mem_bitsL.1 h1
        rw [getN_bit] at h4
        simp only [Bool.and_eq_true, decide_eq_true_eq] at h4
        refine ⟨by omega, ?_⟩
        rw [Nat.testBit_and, putN_bit _ _ _ _ _ (by omega) hb, if_pos (by omega), Nat.add_sub_cancel, Nat.testBit_two_pow_sub_one, Nat.add_comm, h4.2]
        simp [h4.1]
  rw [e, List.length_map]
noncomputable abbrev gWs : Frm := ⟨En, 3, Try.f3.ntmps, [], .bl true, []⟩
noncomputable abbrev wsSt (w a b i : Nat) : Cfg := ⟨.none, lp Try.f3 0, [(7, .ptr 0 0 0), (8, .int .u64 w), (11, .int .u64 (getN w a b)), (42, .int .i64 i)], hp [.cells [.int .i64 a, .int .i64 b]]⟩
theorem ws_end (w a b : Nat) (hw : w < 18446744073709551616) (hf : FldOk (a : Int) (b : Int)) : Goods gWs (wsSt w a b 64) := by
  have h1 := hf.a1
  have h2 := hf.b2
  have hlow := low_tri (b : Int)
  have e : lowN (b : Int) = 2 ^ b - 1 := by unfold lowN; rw [Int.toNat_natCast, Nat.min_eq_left (by omega)]
  rw [e] at hlow
  have hb : 2 ^ b - 1 < 2 ^ b := by have := Nat.pow_pos (a := 2) (n := b) (by omega); omega
  have hp1 := put_yes 0 (2 ^ b - 1) a b (by omega) hf hb
  have hg : getN w a b < 18446744073709551616 := Nat.lt_of_lt_of_le (getN_lt w a) (pow_le64 (by omega))
  have c1 := count_tri (getN w a b) hg
  have ea := and_eq w (putN 0 (2 ^ b - 1) a b) hw (putN_lt ..)
  have c2 := count_tri (w &&& putN 0 (2 ^ b - 1) a b) (and_lt64 _ _ hw)
  rw [bits_shift w a b (by omega), ← ea] at c2
  clear ea e
  have hlen := L_le (getN w a b)
  unfold wsSt
  generalize (bitsL (getN w a b)).length = z at *
  generalize getN w a b = y at *
  generalize putN 0 (2 ^ b - 1) a b = p at *
  generalize 2 ^ b - 1 = r at *
  refine Goods.fin 2000 [.b false, .k 80 (.of hlow), .k 81 (.of hp1), .k 87 (.of c1), .k 91 (.of c2)] mixed Try.func3 ?_
  show Yes _
  repeat' apply And.intro
  (all_goals first | rfl | assumption | trivial | omega | (simp [-List.getD_eq_getElem?_getD] <;> omega) | (simp (disch := omega) only [w64, wu64] <;> omega) | (simp (disch := omega) [-List.getD_eq_getElem?_getD, List.getD_cons_zero, List.getD_cons_succ, kCast_self, dfl_pair, dfl_int, w64, wu64] <;> omega) | (rw [Bool.eq_iff_iff]; simp (disch := omega) [-List.getD_eq_getElem?_getD, List.getD_cons_zero, List.getD_cons_succ, kCast_self, dfl_pair, dfl_int, w64, wu64] <;> omega) | (simp_all [-List.getD_eq_getElem?_getD] <;> omega))
theorem ws_step (w a b i : Nat) (hw : w < 18446744073709551616) (hf : FldOk (a : Int) (b : Int)) (hi : i < 64) (ih : Goods gWs (wsSt w a b (i + 1))) : Goods gWs (wsSt w a b i) := by
  have h1 := hf.a1
  have h2 := hf.b2
  have hg : getN w a b < 18446744073709551616 := Nat.lt_of_lt_of_le (getN_lt w a) (pow_le64 (by omega))
  have hp1 := put_yes 0 1 i 1 (by omega) ⟨by omega, by omega, by omega, by omega⟩ (by omega)
  have hwi := with_tri 0 (by omega) i
  have e0 := put_one hi
  rw [e0] at hp1
  generalize withN 0 (i : Int) = z at *
  unfold wsSt at *
  by_cases hb : i < b
  · have b1 := hasN_fld (w := w) (a := a) (b := b) hi
    have b2 : hasN w ((a + i : Nat) : Int) = w.testBit (a + i) := by
      unfold hasN
      rw [decide_eq_true (show 0 ≤ ((a + i : Nat) : Int) ∧ ((a + i : Nat) : Int) < 64 by omega), Bool.true_and, Int.toNat_natCast]
    rw [decide_eq_true hb, Bool.true_and] at b1
    have c1 := has_tri (getN w a b) hg i
    have c2 := has_tri w hw ((a + i : Nat) : Int)
    rw [b1] at c1
    rw [b2] at c2
    generalize getN w a b = y at *
    cases hv : w.testBit (a + i)
    all_goals
      have c1 := c1.bl hv
      have c2 := c2.bl hv
      clear b1 b2 e0
      refine Goods.to 2000 [.b true, .k 47 (.of c1), .s 51 (some true) true true, .k 58 (.of c2), .k 64 (.of hp1), .k 72 (.of hwi), .s 73 (some false) true true, .l, .stop] mixed (ih) (by kernel_rfl) ?_
      show Yes _
      repeat' apply And.intro
      (all_goals first | rfl | assumption | trivial | omega | (simp [-List.getD_eq_getElem?_getD] <;> omega) | (simp (disch := omega) only [w64, wu64] <;> omega) | (simp (disch := omega) [-List.getD_eq_getElem?_getD, List.getD_cons_zero, List.getD_cons_succ, kCast_self, dfl_pair, dfl_int, w64, wu64] <;> omega) | (rw [Bool.eq_iff_iff]; simp (disch := omega) [-List.getD_eq_getElem?_getD, List.getD_cons_zero, List.getD_cons_succ, kCast_self, dfl_pair, dfl_int, w64, wu64] <;> omega) | (simp_all [-List.getD_eq_getElem?_getD] <;> omega))
  · have b1 := hasN_fld (w := w) (a := a) (b := b) hi
    rw [decide_eq_false hb, Bool.false_and] at b1
    have c1 := (has_tri (getN w a b) hg i).bl b1
    generalize getN w a b = y at *
    clear b1 e0
    refine Goods.to 2000 [.b true, .k 47 (.of c1), .s 51 (some false) true true, .k 64 (.of hp1), .k 72 (.of hwi), .s 73 (some false) true true, .l, .stop] mixed (ih) (by kernel_rfl) ?_
    show Yes _
    repeat' apply And.intro
    (all_goals first | rfl | assumption | trivial | omega | (simp [-List.getD_eq_getElem?_getD] <;> omega) | (simp (disch := omega) only [w64, wu64] <;> omega) | (simp (disch := omega) [-List.getD_eq_getElem?_getD, List.getD_cons_zero, List.getD_cons_succ, kCast_self, dfl_pair, dfl_int, w64, wu64] <;> omega) | (rw [Bool.eq_iff_iff]; simp (disch := omega) [-List.getD_eq_getElem?_getD, List.getD_cons_zero, List.getD_cons_succ, kCast_self, dfl_pair, dfl_int, w64, wu64] <;> omega) | (simp_all [-List.getD_eq_getElem?_getD] <;> omega))
theorem ws_0 (w a b : Nat) (hw : w < 18446744073709551616) (hf : FldOk (a : Int) (b : Int)) : ∀ (j i : Nat), i + j = 64 → Goods gWs (wsSt w a b i)
  | 0, i, hi => by
    obtain rfl : i = 64 := by omega
    exact ws_end w a b hw hf
  | j + 1, i, hi => ws_step w a b i hw hf (by omega) (ws_0 w a b hw hf j (i + 1) (by omega))
theorem WholeSets_tri (w : Nat) (hw : w < 18446744073709551616) (at_ bits : Nat) (h1 : at_ < 256) (h2 : bits < 256) : Tri En 3 [.int .u64 w, .int .u8 at_, .int .u8 bits] [] (.bl true) [] := by
  have l6 := low_tri 6
  rw [show lowN 6 = 63 by decide] at l6
  have c6 := count_tri 63 (by omega)
  rw [show (bitsL 63).length = 6 by decide +kernel] at c6
  obtain ⟨a, ha⟩ : ∃ a, a = at_ % 64 := ⟨_, rfl⟩
  obtain ⟨b, hb⟩ : ∃ b, b = 1 + bits % 64 := ⟨_, rfl⟩
  have ea : Int.tmod (IntKind.i64.wrap (at_ : Int)) 64 = (a : Int) := by
    rw [w64 (x := (at_ : Int)) (by omega) (by omega), show Int.tmod (at_ : Int) 64 = ((at_ % 64 : Nat) : Int) by rw [Int.tmod_eq_emod_of_nonneg (by omega)]; omega, ha]
  have eb : IntKind.i64.wrap (1 + Int.tmod (IntKind.i64.wrap (bits : Int)) 64) = (b : Int) := by
    rw [w64 (x := (bits : Int)) (by omega) (by omega), show Int.tmod (bits : Int) 64 = ((bits % 64 : Nat) : Int) by rw [Int.tmod_eq_emod_of_nonneg (by omega)]; omega, w64 (by omega) (by omega), hb]; omega
  refine Tri.of Try.func3 rfl Try.call3 rfl ?_
  by_cases hf : FldOk (a : Int) (b : Int)
  · have ih := ws_0 w a b hw hf 64 0 (by omega)
    have hr := right_yes a b hf
    have hg := get_yes w a b hw hf
    unfold wsSt at ih
    generalize getN w a b = y at *
    refine Goods.to 2000 [.c (.of l6), .c (.of c6), .b false, .c (.of hr), .c (.of hg), .l, .stop] mixed (ih) (by kernel_rfl) ?_
    show Yes _
    repeat' apply And.intro
    (all_goals first | rfl | assumption | trivial | omega | (simp [-List.getD_eq_getElem?_getD, ea, eb] <;> omega) | (simp (disch := omega) only [w64, wu64] <;> omega) | (simp (disch := omega) [-List.getD_eq_getElem?_getD, List.getD_cons_zero, List.getD_cons_succ, kCast_self, dfl_pair, dfl_int, w64, wu64, ea, eb] <;> omega) | (rw [Bool.eq_iff_iff]; simp (disch := omega) [-List.getD_eq_getElem?_getD, List.getD_cons_zero, List.getD_cons_succ, kCast_self, dfl_pair, dfl_int, w64, wu64, ea, eb] <;> omega) | (simp_all [-List.getD_eq_getElem?_getD] <;> omega))
  · have hr := right_no a b hf
    have hp1 := put_no 0 1 a b hf
    refine Goods.fin 2000 [.c (.of l6), .c (.of c6), .b false, .c (.of hr), .c (.of hp1)] mixed Try.func3 ?_
    show Yes _
    repeat' apply And.intro
    (all_goals first | rfl | assumption | trivial | omega | (simp [-List.getD_eq_getElem?_getD, ea, eb] <;> omega) | (simp (disch := omega) only [w64, wu64] <;> omega) | (simp (disch := omega) [-List.getD_eq_getElem?_getD, List.getD_cons_zero, List.getD_cons_succ, kCast_self, dfl_pair, dfl_int, w64, wu64, ea, eb] <;> omega) | (rw [Bool.eq_iff_iff]; simp (disch := omega) [-List.getD_eq_getElem?_getD, List.getD_cons_zero, List.getD_cons_succ, kCast_self, dfl_pair, dfl_int, w64, wu64, ea, eb] <;> omega) | (simp_all [-List.getD_eq_getElem?_getD] <;> omega))
theorem u64_nat {x : Int} (h : (Lit.int .u64 x).wf = true) : ∃ n : Nat, x = n ∧ n < 18446744073709551616 := by
  have := wf_u64 h
  exact ⟨x.toNat, by omega, by omega⟩
theorem WholeSets_law (d : dats ([(false, (.int .u64)), (false, (.int .u8)), (false, (.int .u8))] : List (Bool × Sh))) (hd : datsOk ([(false, (.int .u64)), (false, (.int .u8)), (false, (.int .u8))] : List (Bool × Sh)) d) : Tri En 3 (argsOf ([(false, (.int .u64)), (false, (.int .u8)), (false, (.int .u8))] : List (Bool × Sh)) d 0) (objsOf ([(false, (.int .u64)), (false, (.int .u8)), (false, (.int .u8))] : List (Bool × Sh)) d) (.bl true) (gones (cnts ([(false, (.int .u64)), (false, (.int .u8)), (false, (.int .u8))] : List (Bool × Sh)))) := by
  obtain ⟨w, a, b, _⟩ := d
  obtain ⟨h0, h1, h2, _⟩ := hd
  obtain ⟨w, rfl, hw⟩ := u64_nat h0
  obtain ⟨a, rfl, h1⟩ := wf_u8 h1
  obtain ⟨b, rfl, h2⟩ := wf_u8 h2
  exact WholeSets_tri w hw a b (by omega) (by omega)
end Go.Proofs.Ytcicfbccdgkfhaa.E
