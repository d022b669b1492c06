/- MaskChanges, MaskSplits: the laws' contracts. -/
import Derived.Test.YtlefadhnmfapgaaDoorL02a
namespace Go.Proofs.YtlefadhnmfapgaaDoor.E
open Go
set_option maxRecDepth 100000

theorem bit_with (w b i : Nat) : (w ||| 2 ^ b).testBit i = (w.testBit i || decide (i = b)) := by
  rw [Nat.testBit_or, Nat.testBit_two_pow]
  by_cases h : b = i
  · subst h; simp
  · have h' : ¬ i = b := fun e => h e.symm
    simp [h, h']
theorem bit_without (w b i : Nat) (hi : i < 64) : (andNotN w (2 ^ b)).testBit i = (w.testBit i && !decide (i = b)) := by
  rw [andNotN_bit _ _ hi, Nat.testBit_two_pow]
  by_cases h : b = i
  · subst h; simp
  · have h' : ¬ i = b := fun e => h e.symm
    simp [h, h']
theorem withN_nat {w b : Nat} (h : b ≤ 63) : withN w b = w ||| 2 ^ b := by unfold withN; rw [if_pos ⟨by omega, by omega⟩, Int.toNat_natCast]
theorem withoutN_nat {w b : Nat} (h : b ≤ 63) : withoutN w b = andNotN w (2 ^ b) := by unfold withoutN; rw [if_pos ⟨by omega, by omega⟩, Int.toNat_natCast]
theorem with_without {w b : Nat} (h : b ≤ 63) : withoutN (withN w b) b = withoutN w b := by
  rw [withN_nat h, withoutN_nat h, withoutN_nat h]
  refine bit_ext (by rw [pow64]; exact andNotN_lt _ _) (by rw [pow64]; exact andNotN_lt _ _) fun i hi => ?_
  rw [bit_without _ _ _ hi, bit_without _ _ _ hi, bit_with]
  by_cases h2 : i = b <;> simp [h2]
theorem without_with {w b : Nat} (hw : w < 18446744073709551616) (h : b ≤ 63) : withN (withoutN w b) b = withN w b := by
  have hp' : 2 ^ b < 18446744073709551616 := pow_lt64 (by omega)
  rw [withN_nat h, withoutN_nat h, withN_nat h]
  refine bit_ext (by rw [pow64]; exact or_lt64 (andNotN_lt _ _) hp') (by rw [pow64]; exact or_lt64 hw hp') fun i hi => ?_
  rw [bit_with, bit_with, bit_without _ _ _ hi]
  by_cases h2 : i = b <;> simp [h2]
noncomputable abbrev gChg : Frm := ⟨En, 7, Tryd.f7.ntmps, [], .bl true, []⟩
set_option maxHeartbeats 1000000 in
theorem chg_0 (w b : Nat) (hw : w < 18446744073709551616) (hb : b ≤ 63) : ∀ (j k : Nat), k + j = 64 → Goods gChg ⟨.none, lp Tryd.f7 0,
    [(0, .int .u64 w), (1, .int .i64 b), (5, .int .u64 w), (6, .int .u64 (withN w b)), (7, .int .u64 (withoutN w b)), (32, .int .i64 k)], hp []⟩
  | 0, k, h => by
    have h1 := without_tri (withN w b) (withN_lt hw b) b
    rw [with_without hb] at h1
    have h2 := with_tri (withoutN w b) (withoutN_lt hw b) b
    rw [without_with hw hb] at h2
    refine Goods.fin 2000 [.b false, .c (.of h1), .s 66 (some true) true true, .c (.of h2)] mixed Tryd.func7 ?_
    show Yes _
    repeat' apply And.intro
    (all_goals first | rfl | assumption | trivial | omega | (simp [-List.getD_eq_getElem?_getD] <;> omega) | (simp (disch := omega) only [w64, wu64] <;> omega) | (simp (disch := omega) [-List.getD_eq_getElem?_getD, List.getD_cons_zero, List.getD_cons_succ, kCast_self, dfl_pair, dfl_int, w64, wu64] <;> omega) | (rw [Bool.eq_iff_iff]; simp (disch := omega) [-List.getD_eq_getElem?_getD, List.getD_cons_zero, List.getD_cons_succ, kCast_self, dfl_pair, dfl_int, w64, wu64] <;> omega) | (simp_all [-List.getD_eq_getElem?_getD] <;> omega))
  | j + 1, k, h => by
    have ih := chg_0 w b hw hb j (k + 1) (by omega)
    have hk : k < 64 := by omega
    have a1 := has_tri (withN w b) (withN_lt hw b) k
    rw [hasN_nat hk, withN_nat hb, bit_with] at a1
    have a2 := has_tri w hw k
    rw [hasN_nat hk] at a2
    have a3 := has_tri (withoutN w b) (withoutN_lt hw b) k
    rw [hasN_nat hk, withoutN_nat hb, bit_without _ _ _ hk] at a3
    rw [← withN_nat hb] at a1
    rw [← withoutN_nat hb] at a3
    cases hbit : w.testBit k
    · rw [hbit] at a1 a3
      have a2 := a2.bl hbit
      by_cases hkb : k = b
      · have a1 := a1.bl (show (false || decide (k = b)) = true by simp [hkb])
        have a3 := a3.bl (show (false && !decide (k = b)) = false by simp)
        refine Goods.to 2000 [.b true, .k 37 (.of a1), .k 40 (.of a2), .s 44 (some true) true true, .k 50 (.of a3), .k 53 (.of a2), .l, .stop] mixed (ih) (by kernel_rfl) ?_
        show Yes _
        repeat' apply And.intro
        (all_goals first | rfl | assumption | trivial | omega | (simp [-List.getD_eq_getElem?_getD] <;> omega) | (simp (disch := omega) only [w64, wu64] <;> omega) | (simp (disch := omega) [-List.getD_eq_getElem?_getD, List.getD_cons_zero, List.getD_cons_succ, kCast_self, dfl_pair, dfl_int, w64, wu64] <;> omega) | (rw [Bool.eq_iff_iff]; simp (disch := omega) [-List.getD_eq_getElem?_getD, List.getD_cons_zero, List.getD_cons_succ, kCast_self, dfl_pair, dfl_int, w64, wu64] <;> omega) | (simp_all [-List.getD_eq_getElem?_getD] <;> omega))
      · have a1 := a1.bl (show (false || decide (k = b)) = false by simp [hkb])
        have a3 := a3.bl (show (false && !decide (k = b)) = false by simp)
        refine Goods.to 2000 [.b true, .k 37 (.of a1), .k 40 (.of a2), .s 44 (some false) true true, .k 50 (.of a3), .k 53 (.of a2), .l, .stop] mixed (ih) (by kernel_rfl) ?_
        show Yes _
        repeat' apply And.intro
        (all_goals first | rfl | assumption | trivial | omega | (simp [-List.getD_eq_getElem?_getD] <;> omega) | (simp (disch := omega) only [w64, wu64] <;> omega) | (simp (disch := omega) [-List.getD_eq_getElem?_getD, List.getD_cons_zero, List.getD_cons_succ, kCast_self, dfl_pair, dfl_int, w64, wu64] <;> omega) | (rw [Bool.eq_iff_iff]; simp (disch := omega) [-List.getD_eq_getElem?_getD, List.getD_cons_zero, List.getD_cons_succ, kCast_self, dfl_pair, dfl_int, w64, wu64] <;> omega) | (simp_all [-List.getD_eq_getElem?_getD] <;> omega))
    · rw [hbit] at a1 a3
      have a2 := a2.bl hbit
      have a1 := a1.bl (show (true || decide (k = b)) = true by simp)
      by_cases hkb : k = b
      · have a3 := a3.bl (show (true && !decide (k = b)) = false by simp [hkb])
        refine Goods.to 2000 [.b true, .k 37 (.of a1), .k 40 (.of a2), .k 50 (.of a3), .k 53 (.of a2), .s 57 (some false) true true, .l, .stop] mixed (ih) (by kernel_rfl) ?_
        show Yes _
        repeat' apply And.intro
        (all_goals first | rfl | assumption | trivial | omega | (simp [-List.getD_eq_getElem?_getD] <;> omega) | (simp (disch := omega) only [w64, wu64] <;> omega) | (simp (disch := omega) [-List.getD_eq_getElem?_getD, List.getD_cons_zero, List.getD_cons_succ, kCast_self, dfl_pair, dfl_int, w64, wu64] <;> omega) | (rw [Bool.eq_iff_iff]; simp (disch := omega) [-List.getD_eq_getElem?_getD, List.getD_cons_zero, List.getD_cons_succ, kCast_self, dfl_pair, dfl_int, w64, wu64] <;> omega) | (simp_all [-List.getD_eq_getElem?_getD] <;> omega))
      · have a3 := a3.bl (show (true && !decide (k = b)) = true by simp [hkb])
        refine Goods.to 2000 [.b true, .k 37 (.of a1), .k 40 (.of a2), .k 50 (.of a3), .k 53 (.of a2), .s 57 (some true) true true, .l, .stop] mixed (ih) (by kernel_rfl) ?_
        show Yes _
        repeat' apply And.intro
        (all_goals first | rfl | assumption | trivial | omega | (simp [-List.getD_eq_getElem?_getD] <;> omega) | (simp (disch := omega) only [w64, wu64] <;> omega) | (simp (disch := omega) [-List.getD_eq_getElem?_getD, List.getD_cons_zero, List.getD_cons_succ, kCast_self, dfl_pair, dfl_int, w64, wu64] <;> omega) | (rw [Bool.eq_iff_iff]; simp (disch := omega) [-List.getD_eq_getElem?_getD, List.getD_cons_zero, List.getD_cons_succ, kCast_self, dfl_pair, dfl_int, w64, wu64] <;> omega) | (simp_all [-List.getD_eq_getElem?_getD] <;> omega))
theorem MaskChanges_tri (w : Nat) (n : Int) (hw : w < 18446744073709551616) : Tri En 7 [.int .u64 w, .int .i64 n] [] (.bl true) (gones 0) := by
  have h1 := with_tri w hw n
  have h2 := without_tri w hw n
  by_cases h0 : 0 ≤ n
  · by_cases h3 : n ≤ 63
    · obtain ⟨b, rfl⟩ : ∃ b : Nat, n = b := ⟨n.toNat, by omega⟩
      have ih := chg_0 w b hw (by omega) 64 0 (by omega)
      refine Tri.of Tryd.func7 rfl Tryd.call7 rfl ?_
      refine Goods.to 2000 [.c (.of speaks_tri), .k 14 (.of h1), .k 17 (.of h2), .s 19 (some false) true true, .s 22 (some false) true true, .l, .stop] mixed (ih) (by kernel_rfl) ?_
      show Yes _
      repeat' apply And.intro
      (all_goals first | rfl | assumption | trivial | omega | (simp [-List.getD_eq_getElem?_getD] <;> omega) | (simp (disch := omega) only [w64, wu64] <;> omega) | (simp (disch := omega) [-List.getD_eq_getElem?_getD, List.getD_cons_zero, List.getD_cons_succ, kCast_self, dfl_pair, dfl_int, w64, wu64] <;> omega) | (rw [Bool.eq_iff_iff]; simp (disch := omega) [-List.getD_eq_getElem?_getD, List.getD_cons_zero, List.getD_cons_succ, kCast_self, dfl_pair, dfl_int, w64, wu64] <;> omega) | (simp_all [-List.getD_eq_getElem?_getD] <;> omega))
    · have e1 : withN w n = w := by unfold withN; rw [if_neg (by omega)]
      have e2 : withoutN w n = w := by unfold withoutN; rw [if_neg (by omega)]
      rw [e1] at h1
      rw [e2] at h2
      refine Tri.of Tryd.func7 rfl Tryd.call7 rfl ?_
      refine Goods.fin 2000 [.c (.of speaks_tri), .k 14 (.of h1), .k 17 (.of h2), .s 19 (some false) true true, .s 22 (some true) true true, .s 26 (some true) true true] mixed Tryd.func7 ?_
      show Yes _
      repeat' apply And.intro
      (all_goals first | rfl | assumption | trivial | omega | (simp [-List.getD_eq_getElem?_getD] <;> omega) | (simp (disch := omega) only [w64, wu64] <;> omega) | (simp (disch := omega) [-List.getD_eq_getElem?_getD, List.getD_cons_zero, List.getD_cons_succ, kCast_self, dfl_pair, dfl_int, w64, wu64] <;> omega) | (rw [Bool.eq_iff_iff]; simp (disch := omega) [-List.getD_eq_getElem?_getD, List.getD_cons_zero, List.getD_cons_succ, kCast_self, dfl_pair, dfl_int, w64, wu64] <;> omega) | (simp_all [-List.getD_eq_getElem?_getD] <;> omega))
  · have e1 : withN w n = w := by unfold withN; rw [if_neg (by omega)]
    have e2 : withoutN w n = w := by unfold withoutN; rw [if_neg (by omega)]
    rw [e1] at h1
    rw [e2] at h2
    refine Tri.of Tryd.func7 rfl Tryd.call7 rfl ?_
    refine Goods.fin 2000 [.c (.of speaks_tri), .k 14 (.of h1), .k 17 (.of h2), .s 19 (some true) true true, .s 26 (some true) true true] mixed Tryd.func7 ?_
    show Yes _
    repeat' apply And.intro
    (all_goals first | rfl | assumption | trivial | omega | (simp [-List.getD_eq_getElem?_getD] <;> omega) | (simp (disch := omega) only [w64, wu64] <;> omega) | (simp (disch := omega) [-List.getD_eq_getElem?_getD, List.getD_cons_zero, List.getD_cons_succ, kCast_self, dfl_pair, dfl_int, w64, wu64] <;> omega) | (rw [Bool.eq_iff_iff]; simp (disch := omega) [-List.getD_eq_getElem?_getD, List.getD_cons_zero, List.getD_cons_succ, kCast_self, dfl_pair, dfl_int, w64, wu64] <;> omega) | (simp_all [-List.getD_eq_getElem?_getD] <;> omega))
theorem MaskChanges_law (d : dats ([(false, (.int .u64)), (false, (.int .i64))] : List (Bool × Sh))) (hd : datsOk ([(false, (.int .u64)), (false, (.int .i64))] : List (Bool × Sh)) d) : Tri En 7 (argsOf ([(false, (.int .u64)), (false, (.int .i64))] : List (Bool × Sh)) d 0) (objsOf ([(false, (.int .u64)), (false, (.int .i64))] : List (Bool × Sh)) d) (.bl true) (gones (cnts ([(false, (.int .u64)), (false, (.int .i64))] : List (Bool × Sh)))) := by
  obtain ⟨w, n, _⟩ := d
  obtain ⟨h0, _⟩ := hd
  obtain ⟨w, rfl, hw⟩ := u64_nat h0
  exact MaskChanges_tri w n hw
theorem bits_take (w : Nat) (n : Int) : bitsL (leastN w n) = (bitsL w).take n.toNat :=
  L_S ((L_sorted w).sublist (List.take_sublist _ _)) fun _ hi => bits_lt (List.mem_of_mem_take hi)
theorem mem_drop_iff {l : List Nat} (h : l.Pairwise (· < ·)) (k i : Nat) : i ∈ l.drop k ↔ i ∈ l ∧ i ∉ l.take k := by
  have h2 : (l.take k ++ l.drop k).Pairwise (· < ·) := by rw [List.take_append_drop]; exact h
  have h3 := (List.pairwise_append.1 h2).2.2
  constructor
  · intro hi
    refine ⟨List.mem_of_mem_drop hi, fun hj => ?_⟩
    have := h3 i hj i hi
    omega
  · rintro ⟨h4, h5⟩
    rw [← List.take_append_drop k l] at h4
    exact (List.mem_append.1 h4).resolve_left h5
theorem bits_drop (w : Nat) (n : Int) : bitsL (andNotN w (leastN w n)) = (bitsL w).drop n.toNat := by
  refine sorted_ext (L_sorted _) ((L_sorted w).sublist (List.drop_sublist _ _)) fun i => ?_
  rw [mem_drop_iff (L_sorted w), mem_bitsL, mem_bitsL]
  have ht : i ∈ (bitsL w).take n.toNat ↔ i < 64 ∧ (leastN w n).testBit i = true := by rw [← bits_take, mem_bitsL]
  rw [ht]
  by_cases hi : i < 64
  · rw [andNotN_bit _ _ hi]
    cases w.testBit i <;> cases (leastN w n).testBit i <;> simp [hi]
  · simp [hi]
theorem split_and (w a : Nat) (ha : a < 18446744073709551616) : a &&& andNotN w a = 0 := by
  refine bit_ext (by rw [pow64]; exact and_lt64 _ _ ha) (by decide) fun i hi => ?_
  rw [Nat.testBit_and, andNotN_bit _ _ hi]
  cases a.testBit i <;> simp
theorem split_or (w : Nat) (n : Int) (hw : w < 18446744073709551616) : leastN w n ||| andNotN w (leastN w n) = w := by
  refine bit_ext (by rw [pow64]; exact or_lt64 (leastN_lt w n) (andNotN_lt _ _)) (by rw [pow64]; exact hw) fun i hi => ?_
  rw [Nat.testBit_or, andNotN_bit _ _ hi]
  cases ha : (leastN w n).testBit i
  · simp
  · have : i ∈ bitsL (leastN w n) := mem_bitsL.2 ⟨hi, ha⟩
    rw [bits_take] at this
    rw [(mem_bitsL.1 (List.mem_of_mem_take this)).2]; rfl
theorem split_lt (w : Nat) (n : Int) (ha : leastN w n ≠ 0) (hb : andNotN w (leastN w n) ≠ 0) : 1 ≤ (bitsL (leastN w n)).length ∧ (intsL (bitsL (leastN w n))).getD ((bitsL (leastN w n)).length - 1) 0 < (firstN (andNotN w (leastN w n)) : Int) := by
  have h1 : (bitsL (leastN w n)).length ≠ 0 := fun h => ha (bits_zero (leastN_lt w n) h)
  have h2 : (bitsL (andNotN w (leastN w n))).length ≠ 0 := fun h => hb (bits_zero (andNotN_lt _ _) h)
  refine ⟨by omega, ?_⟩
  unfold firstN
  rw [bits_drop] at h2 ⊢
  rw [bits_take] at h1 ⊢
  have h3 : ((bitsL w).take n.toNat ++ (bitsL w).drop n.toNat).Pairwise (· < ·) := by rw [List.take_append_drop]; exact L_sorted w
  have h4 := (List.pairwise_append.1 h3).2.2
  generalize (bitsL w).take n.toNat = a at *
  generalize (bitsL w).drop n.toNat = b at *
  cases b with
  | nil => simp at h2
  | cons t b =>
    have hm : a[a.length - 1]'(by omega) ∈ a := List.getElem_mem _
    have h5 := h4 _ hm t (by simp)
    have h6 : (intsL a).getD (a.length - 1) 0 = ((a[a.length - 1]'(by omega) : Nat) : Int) := by
      simp [intsL, List.getD, show a.length - 1 < a.length by omega]
    rw [h6]
    simp only [List.headD_cons]
    omega
set_option maxHeartbeats 1000000 in
theorem MaskSplits_tri (w : Nat) (n : Int) (hw : w < 18446744073709551616) (hn : n ≤ 9223372036854775807) : Tri En 5 [.int .u64 w, .int .i64 n] [] (.bl true) (gones 0) := by
  have h1 := least_tri w hw n hn
  have ha := leastN_lt w n
  have hb := andNotN_lt w (leastN w n)
  have e1 := andNot_eq w (leastN w n)
  have e2 := and_eq (leastN w n) (andNotN w (leastN w n)) ha hb
  rw [split_and w _ ha] at e2
  have e3 := or_eq (leastN w n) (andNotN w (leastN w n)) ha hb
  rw [split_or w n hw] at e3
  have h2 := count_tri (leastN w n) ha
  have h3 := count_tri w hw
  have e4 : ((bitsL (leastN w n)).length : Int) = max (min n (bitsL w).length) 0 := by rw [bits_take, List.length_take]; omega
  have h4 := list_tri (leastN w n) ha
  have h5 := first_tri (andNotN w (leastN w n)) hb
  have hlen := L_le (leastN w n)
  have hil := intsL_len (bitsL (leastN w n))
  have hlt := split_lt w n
  generalize leastN w n = a at *
  generalize andNotN w a = b at *
  by_cases h0 : a = 0
  · subst h0
    refine Tri.of Tryd.func5 rfl Tryd.call5 rfl ?_
    refine Goods.fin 2000 [.c (.of speaks_tri), .c (.of h1), .s 20 (some false) true true, .s 26 (some false) true true, .k 30 (.of h2), .k 33 (.of h3), .b false, .s 39 (some true) true true] mixed Tryd.func5 ?_
    show Yes _
    repeat' apply And.intro
    all_goals (try simp only [e1, e2, e3, e4])
    (all_goals first | rfl | assumption | trivial | omega | (simp [-List.getD_eq_getElem?_getD] <;> omega) | (simp (disch := omega) only [w64, wu64] <;> omega) | (simp (disch := omega) [-List.getD_eq_getElem?_getD, List.getD_cons_zero, List.getD_cons_succ, kCast_self, dfl_pair, dfl_int, w64, wu64] <;> omega) | (rw [Bool.eq_iff_iff]; simp (disch := omega) [-List.getD_eq_getElem?_getD, List.getD_cons_zero, List.getD_cons_succ, kCast_self, dfl_pair, dfl_int, w64, wu64] <;> omega) | (simp_all [-List.getD_eq_getElem?_getD] <;> omega))
  · by_cases h6 : b = 0
    · subst h6
      refine Tri.of Tryd.func5 rfl Tryd.call5 rfl ?_
      refine Goods.fin 2000 [.c (.of speaks_tri), .c (.of h1), .s 20 (some false) true true, .s 26 (some false) true true, .k 30 (.of h2), .k 33 (.of h3), .b false, .s 39 (some false) true true, .s 42 (some true) true true] mixed Tryd.func5 ?_
      show Yes _
      repeat' apply And.intro
      all_goals (try simp only [e1, e2, e3, e4])
      (all_goals first | rfl | assumption | trivial | omega | (simp [-List.getD_eq_getElem?_getD] <;> omega) | (simp (disch := omega) only [w64, wu64] <;> omega) | (simp (disch := omega) [-List.getD_eq_getElem?_getD, List.getD_cons_zero, List.getD_cons_succ, kCast_self, dfl_pair, dfl_int, w64, wu64] <;> omega) | (rw [Bool.eq_iff_iff]; simp (disch := omega) [-List.getD_eq_getElem?_getD, List.getD_cons_zero, List.getD_cons_succ, kCast_self, dfl_pair, dfl_int, w64, wu64] <;> omega) | (simp_all [-List.getD_eq_getElem?_getD] <;> omega))
    · obtain ⟨hl1, hl2⟩ := hlt h0 h6
      have e5 : IntKind.i64.wrap (((bitsL a).length : Int) - 1) = ((bitsL a).length - 1 : Nat) := by rw [w64 (by omega) (by omega)]; omega
      refine Tri.of Tryd.func5 rfl Tryd.call5 rfl ?_
      refine Goods.fin 2000 [.c (.of speaks_tri), .c (.of h1), .s 20 (some false) true true, .s 26 (some false) true true, .k 30 (.of h2), .k 33 (.of h3), .b false, .s 39 (some false) true true, .s 42 (some false) true true, .k 46 (.of h4), .k 48 (.of h2), .k 53 (.of h5)] mixed Tryd.func5 ?_
      show Yes _
      repeat' apply And.intro
      all_goals (try simp only [e1, e2, e3, e5, Int.toNat_natCast, Nat.add_zero, dfl_int])
      (all_goals first | rfl | assumption | trivial | omega | (simp [-List.getD_eq_getElem?_getD, e4] <;> omega) | (simp (disch := omega) only [w64, wu64] <;> omega) | (simp (disch := omega) [-List.getD_eq_getElem?_getD, List.getD_cons_zero, List.getD_cons_succ, kCast_self, dfl_pair, dfl_int, w64, wu64, e4] <;> omega) | (rw [Bool.eq_iff_iff]; simp (disch := omega) [-List.getD_eq_getElem?_getD, List.getD_cons_zero, List.getD_cons_succ, kCast_self, dfl_pair, dfl_int, w64, wu64, e4] <;> omega) | (simp_all [-List.getD_eq_getElem?_getD] <;> omega))
theorem MaskSplits_law (d : dats ([(false, (.int .u64)), (false, (.int .i64))] : List (Bool × Sh))) (hd : datsOk ([(false, (.int .u64)), (false, (.int .i64))] : List (Bool × Sh)) d) : Tri En 5 (argsOf ([(false, (.int .u64)), (false, (.int .i64))] : List (Bool × Sh)) d 0) (objsOf ([(false, (.int .u64)), (false, (.int .i64))] : List (Bool × Sh)) d) (.bl true) (gones (cnts ([(false, (.int .u64)), (false, (.int .i64))] : List (Bool × Sh)))) := by
  obtain ⟨w, n, _⟩ := d
  obtain ⟨h0, h1, _⟩ := hd
  obtain ⟨w, rfl, hw⟩ := u64_nat h0
  exact MaskSplits_tri w n hw (wf_i64 h1).2
end Go.Proofs.YtlefadhnmfapgaaDoor.E
