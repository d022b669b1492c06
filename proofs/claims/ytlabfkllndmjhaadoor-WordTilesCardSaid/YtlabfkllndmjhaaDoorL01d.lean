/- WordRefs: the law's contract. -/
import Derived.Test.YtlabfkllndmjhaaDoorL01c
namespace Go.Proofs.YtlabfkllndmjhaaDoor.E
open Go
set_option maxRecDepth 100000

theorem two63 (i : Nat) : (9223372036854775808 : Nat).testBit i = decide (63 = i) := by
  rw [show (9223372036854775808 : Nat) = 2 ^ 63 by decide, Nat.testBit_two_pow]
/-- A reference's word, bit by bit. -/
theorem ref_bit (wk sl tg i : Nat) (h0 : wk < 256) (h1 : sl < 256) (h2 : tg < 4294967296) (hi : i < 64) : (refN wk sl tg).testBit i = if i < 8 then wk.testBit i else if i < 16 then sl.testBit (i - 8) else if i < 48 then tg.testBit (i - 16) else decide (63 = i) := by
  unfold refN
  rw [putN_bit _ _ _ _ _ hi h2]
  by_cases c : 16 ≤ i ∧ i < 16 + 32
  · rw [if_pos c, if_neg (by omega), if_neg (by omega), if_pos (by omega)]
  · rw [if_neg c, putN_bit _ _ _ _ _ hi h1]
    by_cases c : 8 ≤ i ∧ i < 8 + 8
    · rw [if_pos c, if_neg (by omega), if_pos (by omega)]
    · rw [if_neg c, putN_bit _ _ _ _ _ hi h0]
      by_cases c : 0 ≤ i ∧ i < 0 + 8
      · rw [if_pos c, if_pos (by omega), Nat.sub_zero]
      · rw [if_neg c, if_neg (by omega), if_neg (by omega), if_neg (by omega), two63]
theorem refN_lt (wk sl tg : Nat) : refN wk sl tg < 18446744073709551616 := putN_lt _ _ _ _
theorem nat_eq {x y : Nat} (hx : x < 18446744073709551616) (hy : y < 18446744073709551616) (h : ∀ i, i < 64 → x.testBit i = y.testBit i) : x = y := by
  apply Nat.eq_of_testBit_eq
  intro i
  by_cases hi : i < 64
  · exact h i hi
  · rw [high_bit (b := 64) (by rw [pow64]; exact hx) (by omega), high_bit (b := 64) (by rw [pow64]; exact hy) (by omega)]
theorem ref_or (wk sl tg : Nat) (h0 : wk < 256) (h1 : sl < 256) (h2 : tg < 4294967296) : refN wk sl tg = ((9223372036854775808 ||| tg * 2 ^ 16 % 18446744073709551616) ||| sl * 2 ^ 8 % 18446744073709551616) ||| wk := by
  have hor : ∀ x y : Nat, x < 2 ^ 64 → y < 2 ^ 64 → x ||| y < 2 ^ 64 := fun x y hx hy => Nat.or_lt_two_pow hx hy
  have hmod : ∀ x : Nat, x % 18446744073709551616 < 2 ^ 64 := fun x => by rw [pow64]; exact Nat.mod_lt _ (by omega)
  refine nat_eq (refN_lt _ _ _) (by rw [← pow64]; exact hor _ _ (hor _ _ (hor _ _ (by decide) (hmod _)) (hmod _)) (by rw [pow64]; omega)) fun i hi => ?_
  rw [ref_bit wk sl tg i h0 h1 h2 hi, Nat.testBit_or, Nat.testBit_or, Nat.testBit_or, two63, ← pow64, Nat.testBit_mod_two_pow, Nat.testBit_mod_two_pow, Nat.testBit_mul_two_pow, Nat.testBit_mul_two_pow]
  have w0 : 8 ≤ i → wk.testBit i = false := fun h => high_bit (b := 8) h0 h
  have s0 : 16 ≤ i → sl.testBit (i - 8) = false := fun h => high_bit (b := 8) h1 (by omega)
  have t0 : 48 ≤ i → tg.testBit (i - 16) = false := fun h => high_bit (b := 32) h2 (by omega)
  by_cases c1 : i < 8
  · rw [if_pos c1]; simp [hi, show ¬ 63 = i by omega, show ¬ 16 ≤ i by omega, show ¬ 8 ≤ i by omega]
  · rw [if_neg c1, w0 (by omega)]
    by_cases c2 : i < 16
    · rw [if_pos c2]; simp [hi, show ¬ 63 = i by omega, show ¬ 16 ≤ i by omega, show 8 ≤ i by omega]
    · rw [if_neg c2, s0 (by omega)]
      by_cases c3 : i < 48
      · rw [if_pos c3]; simp [hi, show ¬ 63 = i by omega, show 16 ≤ i by omega]
      · rw [if_neg c3, t0 (by omega)]; simp
/-- A word whose highest bit is there, and none of the 15 below it, is its own reference's. -/
theorem ref_self (w : Nat) (hw : w < 18446744073709551616) (h63 : w.testBit 63 = true) (h48 : w / 2 ^ 48 &&& 32767 = 0) : refN (getN w 0 8) (getN w 8 8) (getN w 16 32) = w := by
  refine nat_eq (refN_lt _ _ _) hw fun i hi => ?_
  rw [ref_bit _ _ _ i (getN_lt w 0 (b := 8)) (getN_lt w 8 (b := 8)) (getN_lt w 16 (b := 32)) hi, getN_bit, getN_bit, getN_bit]
  by_cases c1 : i < 8
  · rw [if_pos c1]; simp [c1]
  · rw [if_neg c1]
    by_cases c2 : i < 16
    · rw [if_pos c2, show 8 + (i - 8) = i by omega]; simp [show i - 8 < 8 by omega]
    · rw [if_neg c2]
      by_cases c3 : i < 48
      · rw [if_pos c3, show 16 + (i - 16) = i by omega]; simp [show i - 16 < 32 by omega]
      · rw [if_neg c3]
        by_cases c4 : 63 = i
        · subst c4; simp [h63]
        · have h1 : ((w / 2 ^ 48) &&& 32767).testBit (i - 48) = false := by rw [h48]; simp
          rw [Nat.testBit_and, Nat.testBit_div_two_pow, show (32767 : Nat) = 2 ^ 15 - 1 by decide, Nat.testBit_two_pow_sub_one, show i - 48 + 48 = i by omega] at h1
          simp [show i - 48 < 15 by omega] at h1
          simp [c4, h1]
theorem and63 (w : Nat) : w &&& 9223372036854775808 = if w.testBit 63 then 9223372036854775808 else 0 := by
  apply Nat.eq_of_testBit_eq
  intro i
  rw [Nat.testBit_and, two63]
  by_cases h : 63 = i
  · subst h
    cases hb : w.testBit 63
    · simp
    · rw [if_pos rfl, two63]; simp
  · cases hb : w.testBit 63
    · simp [h]
    · rw [if_pos rfl, two63]; simp [h]
theorem refs_word (w : Nat) (hw : w < 18446744073709551616) (h : refN (getN w 0 8) (getN w 8 8) (getN w 16 32) ≠ w) : w &&& 9223372036854775808 = 0 ∨ w / 2 ^ 48 &&& 32767 ≠ 0 := by
  by_cases h1 : w.testBit 63 = true
  · right; intro h2; exact h (ref_self w hw h1 h2)
  · left; rw [and63, if_neg h1]
theorem shlr (w a : Nat) (ha : a ≤ 64) : (w : Int).fdiv (2 ^ min (a : Int).toNat IntKind.u64.bits) = ((w / 2 ^ a : Nat) : Int) := by
  rw [Int.toNat_natCast, show min a IntKind.u64.bits = a from Nat.min_eq_left ha, Int.fdiv_eq_ediv_of_nonneg _ (Int.le_of_lt (Int.pow_pos (by omega)))]
  simp
theorem get_ref (a b c : Nat) (h0 : a < 256) (h1 : b < 256) (h2 : c < 4294967296) : getN (refN a b c) 0 8 = a ∧ getN (refN a b c) 8 8 = b ∧ getN (refN a b c) 16 32 = c := by
  refine ⟨?_, ?_, ?_⟩ <;> (apply Nat.eq_of_testBit_eq; intro i; rw [getN_bit])
  · by_cases hi : i < 8
    · rw [ref_bit a b c _ h0 h1 h2 (by omega), if_pos (by omega), Nat.zero_add]; simp [hi]
    · rw [high_bit (b := 8) h0 (by omega)]; simp [hi]
  · by_cases hi : i < 8
    · rw [ref_bit a b c _ h0 h1 h2 (by omega), if_neg (by omega), if_pos (by omega), Nat.add_sub_cancel_left]; simp [hi]
    · rw [high_bit (b := 8) h1 (by omega)]; simp [hi]
  · by_cases hi : i < 32
    · rw [ref_bit a b c _ h0 h1 h2 (by omega), if_neg (by omega), if_neg (by omega), if_pos (by omega), Nat.add_sub_cancel_left]; simp [hi]
    · rw [high_bit (b := 32) h2 (by omega)]; simp [hi]
theorem to_of (a b c : Nat) (h0 : a < 256) (h1 : b < 256) (h2 : c < 4294967296) : Tri En 19 [.int .u64 (refN a b c)] [] (.tuple [refI a b c, .bl true]) [] := by
  obtain ⟨e0, e1, e2⟩ := get_ref a b c h0 h1 h2
  have := to_yes (refN a b c) (refN_lt a b c) (by rw [e0, e1, e2])
  rwa [e0, e1, e2] at this
theorem shlc (x c : Nat) (hc : c ≤ 64) : IntKind.u64.wrap ((x : Int) * 2 ^ min ((c : Int)).toNat IntKind.u64.bits) = ((x * 2 ^ c % 18446744073709551616 : Nat) : Int) := by
  rw [Int.toNat_natCast, show min c IntKind.u64.bits = c from Nat.min_eq_left hc, ← wu_nat]
  simp
theorem ref_nat {wk sl tg : Int} (h : (0 ≤ wk ∧ wk < 256) ∧ (0 ≤ sl ∧ sl < 256) ∧ 0 ≤ tg ∧ tg < 4294967296) : ∃ a b c : Nat, wk = a ∧ sl = b ∧ tg = c ∧ a < 256 ∧ b < 256 ∧ c < 4294967296 := ⟨wk.toNat, sl.toNat, tg.toNat, by omega, by omega, by omega, by omega, by omega, by omega⟩
theorem refs_or (a b c : Nat) (h0 : a < 256) (h1 : b < 256) (h2 : c < 4294967296) : IntKind.u64.wrap (BitVec.ofInt IntKind.u64.bits (IntKind.u64.wrap (BitVec.ofInt IntKind.u64.bits (IntKind.u64.wrap (BitVec.ofInt IntKind.u64.bits 9223372036854775808 ||| BitVec.ofInt IntKind.u64.bits (IntKind.u64.wrap (IntKind.u64.wrap (c : Int) * 2 ^ min (16 : Int).toNat IntKind.u64.bits))).toNat) ||| BitVec.ofInt IntKind.u64.bits (IntKind.u64.wrap (IntKind.u64.wrap (b : Int) * 2 ^ min (8 : Int).toNat IntKind.u64.bits))).toNat) ||| BitVec.ofInt IntKind.u64.bits (IntKind.u64.wrap (a : Int))).toNat = (refN a b c : Int) := by
  have l0 : IntKind.u64.wrap (c : Int) = (c : Int) := wu64 (by omega) (by omega)
  have l1 : IntKind.u64.wrap (b : Int) = (b : Int) := wu64 (by omega) (by omega)
  have l2 : IntKind.u64.wrap (a : Int) = (a : Int) := wu64 (by omega) (by omega)
  have m1 := shlc c 16 (by omega)
  have m2 := shlc b 8 (by omega)
  simp only [Int.cast_ofNat_Int] at m1 m2
  have hm : ∀ x : Nat, x % 18446744073709551616 < 18446744073709551616 := fun x => Nat.mod_lt _ (by omega)
  have hor : ∀ x y : Nat, x < 18446744073709551616 → y < 18446744073709551616 → x ||| y < 18446744073709551616 := fun x y hx hy => by
    rw [← pow64] at hx hy ⊢; exact Nat.or_lt_two_pow hx hy
  rw [l0, l1, l2, m1, m2, show (9223372036854775808 : Int) = ((9223372036854775808 : Nat) : Int) from rfl, or_eq _ _ (by omega) (hm _), or_eq _ _ (hor _ _ (by omega) (hm _)) (hm _), or_eq _ _ (hor _ _ (hor _ _ (by omega) (hm _)) (hm _)) (by omega), ref_or a b c h0 h1 h2]
noncomputable abbrev gRefs : Frm := ⟨En, 6, Tryd.f6.ntmps, [], .bl true, []⟩
/-- A word, and what it says. -/
theorem refs_rest (w : Nat) (hw : w < 18446744073709551616) : Goods gRefs ⟨.none, rg Tryd.f6 11, [(1, .int .u64 w)], hp []⟩ := by
  by_cases hr : refN (getN w 0 8) (getN w 8 8) (getN w 16 32) = w
  · have t2 := to_yes w hw hr
    have o2 := of_yes (getN w 0 8) (getN w 8 8) (getN w 16 32) (getN_lt w 0 (b := 8)) (getN_lt w 8 (b := 8)) (getN_lt w 16 (b := 32))
    rw [hr] at o2
    refine Goods.fin 2000 [.c (.of t2), .c (.of o2), .s 87 (some true) true true] mixed Tryd.func6 ?_
    show Yes _
    repeat' apply And.intro
    (all_goals first | rfl | assumption | trivial | omega | (simp [-List.getD_eq_getElem?_getD] <;> omega) | (simp (disch := omega) only [w64, wu64] <;> omega) | (simp (disch := omega) [-List.getD_eq_getElem?_getD, List.getD_cons_zero, List.getD_cons_succ, kCast_self, dfl_pair, dfl_int, w64, wu64] <;> omega) | (rw [Bool.eq_iff_iff]; simp (disch := omega) [-List.getD_eq_getElem?_getD, List.getD_cons_zero, List.getD_cons_succ, kCast_self, dfl_pair, dfl_int, w64, wu64] <;> omega) | (simp_all [-List.getD_eq_getElem?_getD] <;> omega))
  · have t2 := to_no w hw hr
    have d48 : w / 2 ^ 48 ≤ w := Nat.div_le_self _ _
    have a2 := and_eq w 9223372036854775808 hw (by omega)
    have a3 := and_eq (w / 2 ^ 48) 32767 (by omega) (by omega)
    have a1 := shlr w 48 (by omega)
    simp only [Int.cast_ofNat_Int] at a1 a2 a3
    by_cases h0 : w &&& 9223372036854775808 = 0
    · rw [h0] at a2
      refine Goods.fin 2000 [.c (.of t2), .s 95 (some true) true true, .s 100 (some true) true true] mixed Tryd.func6 ?_
      show Yes _
      repeat' apply And.intro
      (all_goals first | rfl | assumption | trivial | omega | (simp [-List.getD_eq_getElem?_getD, a2] <;> omega) | (simp (disch := omega) only [w64, wu64] <;> omega) | (simp (disch := omega) [-List.getD_eq_getElem?_getD, List.getD_cons_zero, List.getD_cons_succ, kCast_self, dfl_pair, dfl_int, w64, wu64, a2] <;> omega) | (rw [Bool.eq_iff_iff]; simp (disch := omega) [-List.getD_eq_getElem?_getD, List.getD_cons_zero, List.getD_cons_succ, kCast_self, dfl_pair, dfl_int, w64, wu64, a2] <;> omega) | (simp_all [-List.getD_eq_getElem?_getD] <;> omega))
    · have h1 := (refs_word w hw hr).resolve_left h0
      refine Goods.fin 2000 [.c (.of t2), .s 95 (some true) true true, .s 100 (some false) true true] mixed Tryd.func6 ?_
      show Yes _
      repeat' apply And.intro
      all_goals (try simp only [a1, a2, a3])
      (all_goals first | rfl | assumption | trivial | omega | (simp [-List.getD_eq_getElem?_getD] <;> omega) | (simp (disch := omega) only [w64, wu64] <;> omega) | (simp (disch := omega) [-List.getD_eq_getElem?_getD, List.getD_cons_zero, List.getD_cons_succ, kCast_self, dfl_pair, dfl_int, w64, wu64] <;> omega) | (rw [Bool.eq_iff_iff]; simp (disch := omega) [-List.getD_eq_getElem?_getD, List.getD_cons_zero, List.getD_cons_succ, kCast_self, dfl_pair, dfl_int, w64, wu64] <;> omega) | (simp_all [-List.getD_eq_getElem?_getD] <;> omega))
set_option maxHeartbeats 1000000 in
theorem WordRefs_tri (wk sl tg : Int) (w : Nat) (b0 : -9223372036854775808 ≤ wk ∧ wk ≤ 9223372036854775807) (b1 : -9223372036854775808 ≤ sl ∧ sl ≤ 9223372036854775807) (b2 : -9223372036854775808 ≤ tg ∧ tg ≤ 9223372036854775807) (hw : w < 18446744073709551616) : Tri En 6 [refI wk sl tg, .int .u64 w] [] (.bl true) (gones 0) := by
  have ih := refs_rest w hw
  by_cases h : (0 ≤ wk ∧ wk < 256) ∧ (0 ≤ sl ∧ sl < 256) ∧ 0 ≤ tg ∧ tg < 4294967296
  · obtain ⟨a, b, c, rfl, rfl, rfl, h0, h1, h2⟩ := ref_nat h
    have o1 := of_yes a b c h0 h1 h2
    have t1 := to_of a b c h0 h1 h2
    have e := refs_or a b c h0 h1 h2
    refine Tri.of Tryd.func6 rfl Tryd.call6 rfl ?_
    refine Goods.to 2000 [.c (.of speaks_tri), .c (.of o1), .s 17 (some true) true true, .s 21 (some true) true true, .s 26 (some true) true true, .s 31 (some true) true true, .s 36 (some true) true true, .s 41 (some true) true true, .c (.of t1), .s 57 (some false) true true, .s 75 (some false) true true, .upto 11] mixed (ih) (by kernel_rfl) ?_
    show Yes _
    repeat' apply And.intro
    all_goals (try simp only [e, bne_self_eq_false])
    all_goals (try first | exact decide_eq_true (by omega) | omega)
    (all_goals first | rfl | assumption | trivial | omega | (simp [-List.getD_eq_getElem?_getD] <;> omega) | (simp (disch := omega) only [w64, wu64] <;> omega) | (simp (disch := omega) [-List.getD_eq_getElem?_getD, List.getD_cons_zero, List.getD_cons_succ, kCast_self, dfl_pair, dfl_int, w64, wu64] <;> omega) | (rw [Bool.eq_iff_iff]; simp (disch := omega) [-List.getD_eq_getElem?_getD, List.getD_cons_zero, List.getD_cons_succ, kCast_self, dfl_pair, dfl_int, w64, wu64] <;> omega) | (simp_all [-List.getD_eq_getElem?_getD] <;> omega))
  · have o1 := of_no wk sl tg b0 b1 b2 h
    by_cases c1 : 0 ≤ wk
    · by_cases c2 : wk < 256
      · by_cases c3 : 0 ≤ sl
        · by_cases c4 : sl < 256
          · by_cases c5 : 0 ≤ tg
            · refine Tri.of Tryd.func6 rfl Tryd.call6 rfl ?_
              refine Goods.to 2000 [.c (.of speaks_tri), .c (.of o1), .s 17 (some true) true true, .s 21 (some true) true true, .s 26 (some true) true true, .s 31 (some true) true true, .s 36 (some true) true true, .s 41 (some false) true true, .b false, .upto 11] mixed (ih) (by kernel_rfl) ?_
              show Yes _
              repeat' apply And.intro
              (all_goals first | rfl | assumption | trivial | omega | (simp [-List.getD_eq_getElem?_getD] <;> omega) | (simp (disch := omega) only [w64, wu64] <;> omega) | (simp (disch := omega) [-List.getD_eq_getElem?_getD, List.getD_cons_zero, List.getD_cons_succ, kCast_self, dfl_pair, dfl_int, w64, wu64] <;> omega) | (rw [Bool.eq_iff_iff]; simp (disch := omega) [-List.getD_eq_getElem?_getD, List.getD_cons_zero, List.getD_cons_succ, kCast_self, dfl_pair, dfl_int, w64, wu64] <;> omega) | (simp_all [-List.getD_eq_getElem?_getD] <;> omega))
            · refine Tri.of Tryd.func6 rfl Tryd.call6 rfl ?_
              refine Goods.to 2000 [.c (.of speaks_tri), .c (.of o1), .s 17 (some true) true true, .s 21 (some true) true true, .s 26 (some true) true true, .s 31 (some true) true true, .s 36 (some false) true true, .b false, .upto 11] mixed (ih) (by kernel_rfl) ?_
              show Yes _
              repeat' apply And.intro
              (all_goals first | rfl | assumption | trivial | omega | (simp [-List.getD_eq_getElem?_getD] <;> omega) | (simp (disch := omega) only [w64, wu64] <;> omega) | (simp (disch := omega) [-List.getD_eq_getElem?_getD, List.getD_cons_zero, List.getD_cons_succ, kCast_self, dfl_pair, dfl_int, w64, wu64] <;> omega) | (rw [Bool.eq_iff_iff]; simp (disch := omega) [-List.getD_eq_getElem?_getD, List.getD_cons_zero, List.getD_cons_succ, kCast_self, dfl_pair, dfl_int, w64, wu64] <;> omega) | (simp_all [-List.getD_eq_getElem?_getD] <;> omega))
          · refine Tri.of Tryd.func6 rfl Tryd.call6 rfl ?_
            refine Goods.to 2000 [.c (.of speaks_tri), .c (.of o1), .s 17 (some true) true true, .s 21 (some true) true true, .s 26 (some true) true true, .s 31 (some false) true true, .b false, .upto 11] mixed (ih) (by kernel_rfl) ?_
            show Yes _
            repeat' apply And.intro
            (all_goals first | rfl | assumption | trivial | omega | (simp [-List.getD_eq_getElem?_getD] <;> omega) | (simp (disch := omega) only [w64, wu64] <;> omega) | (simp (disch := omega) [-List.getD_eq_getElem?_getD, List.getD_cons_zero, List.getD_cons_succ, kCast_self, dfl_pair, dfl_int, w64, wu64] <;> omega) | (rw [Bool.eq_iff_iff]; simp (disch := omega) [-List.getD_eq_getElem?_getD, List.getD_cons_zero, List.getD_cons_succ, kCast_self, dfl_pair, dfl_int, w64, wu64] <;> omega) | (simp_all [-List.getD_eq_getElem?_getD] <;> omega))
        · refine Tri.of Tryd.func6 rfl Tryd.call6 rfl ?_
          refine Goods.to 2000 [.c (.of speaks_tri), .c (.of o1), .s 17 (some true) true true, .s 21 (some true) true true, .s 26 (some false) true true, .b false, .upto 11] mixed (ih) (by kernel_rfl) ?_
          show Yes _
          repeat' apply And.intro
          (all_goals first | rfl | assumption | trivial | omega | (simp [-List.getD_eq_getElem?_getD] <;> omega) | (simp (disch := omega) only [w64, wu64] <;> omega) | (simp (disch := omega) [-List.getD_eq_getElem?_getD, List.getD_cons_zero, List.getD_cons_succ, kCast_self, dfl_pair, dfl_int, w64, wu64] <;> omega) | (rw [Bool.eq_iff_iff]; simp (disch := omega) [-List.getD_eq_getElem?_getD, List.getD_cons_zero, List.getD_cons_succ, kCast_self, dfl_pair, dfl_int, w64, wu64] <;> omega) | (simp_all [-List.getD_eq_getElem?_getD] <;> omega))
      · refine Tri.of Tryd.func6 rfl Tryd.call6 rfl ?_
        refine Goods.to 2000 [.c (.of speaks_tri), .c (.of o1), .s 17 (some true) true true, .s 21 (some false) true true, .b false, .upto 11] mixed (ih) (by kernel_rfl) ?_
        show Yes _
        repeat' apply And.intro
        (all_goals first | rfl | assumption | trivial | omega | (simp [-List.getD_eq_getElem?_getD] <;> omega) | (simp (disch := omega) only [w64, wu64] <;> omega) | (simp (disch := omega) [-List.getD_eq_getElem?_getD, List.getD_cons_zero, List.getD_cons_succ, kCast_self, dfl_pair, dfl_int, w64, wu64] <;> omega) | (rw [Bool.eq_iff_iff]; simp (disch := omega) [-List.getD_eq_getElem?_getD, List.getD_cons_zero, List.getD_cons_succ, kCast_self, dfl_pair, dfl_int, w64, wu64] <;> omega) | (simp_all [-List.getD_eq_getElem?_getD] <;> omega))
    · refine Tri.of Tryd.func6 rfl Tryd.call6 rfl ?_
      refine Goods.to 2000 [.c (.of speaks_tri), .c (.of o1), .s 17 (some false) true true, .b false, .upto 11] mixed (ih) (by kernel_rfl) ?_
      show Yes _
      repeat' apply And.intro
      (all_goals first | rfl | assumption | trivial | omega | (simp [-List.getD_eq_getElem?_getD] <;> omega) | (simp (disch := omega) only [w64, wu64] <;> omega) | (simp (disch := omega) [-List.getD_eq_getElem?_getD, List.getD_cons_zero, List.getD_cons_succ, kCast_self, dfl_pair, dfl_int, w64, wu64] <;> omega) | (rw [Bool.eq_iff_iff]; simp (disch := omega) [-List.getD_eq_getElem?_getD, List.getD_cons_zero, List.getD_cons_succ, kCast_self, dfl_pair, dfl_int, w64, wu64] <;> omega) | (simp_all [-List.getD_eq_getElem?_getD] <;> omega))
theorem WordRefs_law (d : dats ([(true, (.pair (.int .i64) (.pair (.int .i64) (.pair (.int .i64) .unit)))), (false, (.int .u64))] : List (Bool × Sh))) (hd : datsOk ([(true, (.pair (.int .i64) (.pair (.int .i64) (.pair (.int .i64) .unit)))), (false, (.int .u64))] : List (Bool × Sh)) d) : Tri En 6 (argsOf ([(true, (.pair (.int .i64) (.pair (.int .i64) (.pair (.int .i64) .unit)))), (false, (.int .u64))] : List (Bool × Sh)) d 0) (objsOf ([(true, (.pair (.int .i64) (.pair (.int .i64) (.pair (.int .i64) .unit)))), (false, (.int .u64))] : List (Bool × Sh)) d) (.bl true) (gones (cnts ([(true, (.pair (.int .i64) (.pair (.int .i64) (.pair (.int .i64) .unit)))), (false, (.int .u64))] : List (Bool × Sh)))) := by
  obtain ⟨⟨wk, sl, tg, _⟩, w, _⟩ := d
  obtain ⟨⟨h0, h1, h2, _⟩, h3, _⟩ := hd
  obtain ⟨w, rfl, hw⟩ := u64_nat h3
  exact WordRefs_tri wk sl tg w (wf_i64 h0) (wf_i64 h1) (wf_i64 h2) hw
end Go.Proofs.YtlabfkllndmjhaaDoor.E
