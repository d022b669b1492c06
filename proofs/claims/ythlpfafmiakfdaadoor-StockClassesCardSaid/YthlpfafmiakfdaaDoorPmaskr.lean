/- The document's answers for sets: their contracts. -/
import Derived.Test.YthlpfafmiakfdaaDoorPmaskb
import Derived.Test.YthlpfafmiakfdaaDoorPbits
namespace Go.Proofs.YthlpfafmiakfdaaDoor.E
set_option linter.unusedSimpArgs false
set_option linter.unusedVariables false
open Go
set_option maxRecDepth 100000

theorem rhas_tri (m : Nat) (hm : m < 18446744073709551616) (n : Int) : Tri En 38 [.int .u64 m, .int .i64 n] [] (.bool (hasN m n)) [] := by
  by_cases h0 : 0 ≤ n
  · by_cases h1 : n < 64
    · obtain ⟨b, rfl⟩ : ∃ b : Nat, n = b := ⟨n.toNat, by omega⟩
      have e : hasN m b = m.testBit b := by unfold hasN; simp; omega
      have hb := bit_tri m b hm (by omega)
      rw [← e] at hb
      refine Tri.of Tryd.func38 rfl Tryd.call38 rfl ?_
      refine Goods.fin 2000 [.s 6 (some true) true true, .s 9 (some true) true true, .c (.of hb)] mixed Tryd.func38 ?_
      show Yes _
      repeat' apply And.intro
      (all_goals first | rfl | assumption | trivial | omega | (simp [-List.getD_eq_getElem?_getD] <;> omega) | (simp (disch := omega) only [w64, wu64] <;> omega) | (simp (disch := omega) [-List.getD_eq_getElem?_getD, List.getD_cons_zero, List.getD_cons_succ, kCast_self, dfl_pair, dfl_int, w64, wu64] <;> omega) | (rw [Bool.eq_iff_iff]; simp (disch := omega) [-List.getD_eq_getElem?_getD, List.getD_cons_zero, List.getD_cons_succ, kCast_self, dfl_pair, dfl_int, w64, wu64] <;> omega) | (simp_all [-List.getD_eq_getElem?_getD] <;> omega))
    · have e : hasN m n = false := by unfold hasN; rw [decide_eq_false (by omega)]; rfl
      refine Tri.of Tryd.func38 rfl Tryd.call38 rfl ?_
      refine Goods.fin 2000 [.s 6 (some true) true true, .s 9 (some false) true true] mixed Tryd.func38 ?_
      show Yes _
      repeat' apply And.intro
      (all_goals first | rfl | assumption | trivial | omega | (simp [-List.getD_eq_getElem?_getD, e] <;> omega) | (simp (disch := omega) only [w64, wu64] <;> omega) | (simp (disch := omega) [-List.getD_eq_getElem?_getD, List.getD_cons_zero, List.getD_cons_succ, kCast_self, dfl_pair, dfl_int, w64, wu64, e] <;> omega) | (rw [Bool.eq_iff_iff]; simp (disch := omega) [-List.getD_eq_getElem?_getD, List.getD_cons_zero, List.getD_cons_succ, kCast_self, dfl_pair, dfl_int, w64, wu64, e] <;> omega) | (simp_all [-List.getD_eq_getElem?_getD] <;> omega))
  · have e : hasN m n = false := by unfold hasN; rw [decide_eq_false (by omega)]; rfl
    refine Tri.of Tryd.func38 rfl Tryd.call38 rfl ?_
    refine Goods.fin 2000 [.s 6 (some false) true true] mixed Tryd.func38 ?_
    show Yes _
    repeat' apply And.intro
    (all_goals first | rfl | assumption | trivial | omega | (simp [-List.getD_eq_getElem?_getD, e] <;> omega) | (simp (disch := omega) only [w64, wu64] <;> omega) | (simp (disch := omega) [-List.getD_eq_getElem?_getD, List.getD_cons_zero, List.getD_cons_succ, kCast_self, dfl_pair, dfl_int, w64, wu64, e] <;> omega) | (rw [Bool.eq_iff_iff]; simp (disch := omega) [-List.getD_eq_getElem?_getD, List.getD_cons_zero, List.getD_cons_succ, kCast_self, dfl_pair, dfl_int, w64, wu64, e] <;> omega) | (simp_all [-List.getD_eq_getElem?_getD] <;> omega))
theorem hasN_nat {m k : Nat} (h : k < 64) : hasN m k = m.testBit k := by unfold hasN; simp; omega
theorem hasN_out {m : Nat} {n : Int} (h : ¬ (0 ≤ n ∧ n ≤ 63)) : hasN m n = false := by unfold hasN; rw [decide_eq_false (by omega)]; rfl
/-- The set of some numbers, of which only those from 0 to 63 count. -/
def setI (l : List Int) : Nat := setS ((l.filter fun x => decide (0 ≤ x ∧ x ≤ 63)).map Int.toNat)
theorem S_append (a b : List Nat) : setS (a ++ b) = setS a ||| setS b := by
  induction a with
  | nil => simp [setS]
  | cons x a ih => rw [List.cons_append, setS, setS, ih, Nat.or_assoc]
theorem setI_lt (l : List Int) : setI l < 18446744073709551616 := by
  rw [← pow64]
  refine S_lt fun i hi => ?_
  obtain ⟨x, hx, rfl⟩ := List.mem_map.1 hi
  have := (List.mem_filter.1 hx).2
  simp at this; omega
theorem setI_snoc_in {l : List Int} {x : Int} (h : 0 ≤ x ∧ x ≤ 63) : setI (l ++ [x]) = setI l ||| 2 ^ x.toNat := by
  unfold setI
  rw [List.filter_append, List.map_append, S_append]
  simp [h, setS]
theorem setI_snoc_out {l : List Int} {x : Int} (h : ¬ (0 ≤ x ∧ x ≤ 63)) : setI (l ++ [x]) = setI l := by
  unfold setI
  rw [List.filter_append, List.map_append, S_append]
  have : ([x].filter fun x => decide (0 ≤ x ∧ x ≤ 63)) = [] := by simp; omega
  rw [this]; simp [setS]
theorem or_new {m t : Nat} (h : m.testBit t = false) : m ||| 2 ^ t = m + 2 ^ t := by
  have hd : m &&& 2 ^ t = 0 := by
    apply Nat.eq_of_testBit_eq
    intro i
    rw [Nat.testBit_and, Nat.testBit_two_pow]
    by_cases hi : t = i
    · subst hi; simp [h]
    · simp [hi]
  have hw : m + 2 ^ t < 2 ^ (m + 2 ^ t) := Nat.lt_two_pow_self
  have l1 : m < 2 ^ (m + 2 ^ t) := Nat.lt_of_le_of_lt (Nat.le_add_right _ _) hw
  have l2 : 2 ^ t < 2 ^ (m + 2 ^ t) := Nat.lt_of_le_of_lt (Nat.le_add_left _ _) hw
  have h1 := BitVec.add_eq_or_of_and_eq_zero (BitVec.ofNat (m + 2 ^ t) m) (BitVec.ofNat (m + 2 ^ t) (2 ^ t)) (by
    apply BitVec.eq_of_toNat_eq
    rw [BitVec.toNat_and, BitVec.toNat_ofNat, BitVec.toNat_ofNat, Nat.mod_eq_of_lt l1, Nat.mod_eq_of_lt l2, hd]
    simp)
  have h2 := congrArg BitVec.toNat h1
  rw [BitVec.toNat_add, BitVec.toNat_or, BitVec.toNat_ofNat, BitVec.toNat_ofNat, Nat.mod_eq_of_lt l1, Nat.mod_eq_of_lt l2, Nat.mod_eq_of_lt hw] at h2
  exact h2.symm
theorem or_old {m t : Nat} (h : m.testBit t = true) : m ||| 2 ^ t = m := by
  apply Nat.eq_of_testBit_eq
  intro i
  rw [Nat.testBit_or, Nat.testBit_two_pow]
  by_cases hi : t = i
  · subst hi; simp [h]
  · simp [hi]
theorem take_snoc {l : List Int} {k : Nat} (h : k < l.length) : l.take (k + 1) = l.take k ++ [l.getD k 0] := by
  rw [List.take_add_one]; simp [List.getD, h]
noncomputable abbrev gRof (own : Bool) (l : List Int) (n : Nat) : Frm := ⟨En, 40, Tryd.f40.ntmps, [.tab own (.int .i64) l], .int .u64 (setI (l.take n)), [.tab own (.int .i64) l]⟩
theorem rof_0 (own : Bool) (l : List Int) (n : Nat) (hn : n ≤ l.length) (hb : n < 9223372036854775807) : ∀ (j k : Nat), k + j = n → Goods (gRof own l n) ⟨.none, lp Tryd.f40 0, [(0, .slice 0 0 n), (3, .int .u64 (setI (l.take k))), (4, .int .i64 k)], hp [.tab own (.int .i64) l]⟩
  | 0, k, h => by
    obtain rfl : k = n := by omega
    refine Goods.fin 2000 [.b false] mixed Tryd.func40 ?_
    show Yes _
    repeat' apply And.intro
    (all_goals first | rfl | assumption | trivial | omega | (simp [-List.getD_eq_getElem?_getD] <;> omega) | (simp (disch := omega) only [w64, wu64] <;> omega) | (simp (disch := omega) [-List.getD_eq_getElem?_getD, List.getD_cons_zero, List.getD_cons_succ, kCast_self, dfl_pair, dfl_int, w64, wu64] <;> omega) | (rw [Bool.eq_iff_iff]; simp (disch := omega) [-List.getD_eq_getElem?_getD, List.getD_cons_zero, List.getD_cons_succ, kCast_self, dfl_pair, dfl_int, w64, wu64] <;> omega) | (simp_all [-List.getD_eq_getElem?_getD] <;> omega))
  | j + 1, k, h => by
    have ih := rof_0 own l n hn hb j (k + 1) (by omega)
    have ht := take_snoc (l := l) (k := k) (by omega)
    obtain ⟨x, hx⟩ : ∃ x, l.getD k 0 = x := ⟨_, rfl⟩
    rw [hx] at ht
    by_cases hin : 0 ≤ x ∧ x ≤ 63
    · obtain ⟨b, rfl⟩ : ∃ b : Nat, x = b := ⟨x.toNat, by omega⟩
      have hs := setI_snoc_in (l := l.take k) hin
      rw [← ht, Int.toNat_natCast] at hs
      have hh := rhas_tri (setI (l.take k)) (setI_lt _) b
      rw [hasN_nat (by omega)] at hh
      have hlt := setI_lt (l.take (k + 1))
      by_cases hbit : (setI (l.take k)).testBit b = true
      · rw [or_old hbit] at hs
        rw [hs] at ih
        have hh := hh.bl hbit
        refine Goods.to 2000 [.b true, .s 15 (some true) true true, .s 21 (some true) true true, .c (.of hh), .l, .stop] mixed (ih) (by kernel_rfl) ?_
        show Yes _
        repeat' apply And.intro
        (all_goals first | rfl | assumption | trivial | omega | (simp [-List.getD_eq_getElem?_getD, hx] <;> omega) | (simp (disch := omega) only [w64, wu64] <;> omega) | (simp (disch := omega) [-List.getD_eq_getElem?_getD, List.getD_cons_zero, List.getD_cons_succ, kCast_self, dfl_pair, dfl_int, w64, wu64, hx] <;> omega) | (rw [Bool.eq_iff_iff]; simp (disch := omega) [-List.getD_eq_getElem?_getD, List.getD_cons_zero, List.getD_cons_succ, kCast_self, dfl_pair, dfl_int, w64, wu64, hx] <;> omega) | (simp_all [-List.getD_eq_getElem?_getD] <;> omega))
      · have hbit : (setI (l.take k)).testBit b = false := by simpa using hbit
        rw [or_new hbit] at hs
        have hp' := power_tri b (by omega)
        have hh := hh.bl hbit
        have e : IntKind.u64.wrap ((setI (l.take k) : Int) + ((2 ^ b : Nat) : Int)) = (setI (l.take (k + 1)) : Int) := by
          rw [hs] at hlt ⊢
          rw [wu64 (by omega) (by omega)]; omega
        refine Goods.to 2000 [.b true, .s 15 (some true) true true, .s 21 (some true) true true, .c (.of hh), .c (.of hp'), .l, .stop] mixed (ih) (by kernel_rfl) ?_
        show Yes _
        repeat' apply And.intro
        (all_goals first | rfl | assumption | trivial | omega | (simp [-List.getD_eq_getElem?_getD, hx] <;> omega) | (simp (disch := omega) only [w64, wu64] <;> omega) | (simp (disch := omega) [-List.getD_eq_getElem?_getD, List.getD_cons_zero, List.getD_cons_succ, kCast_self, dfl_pair, dfl_int, w64, wu64, hx] <;> omega) | (rw [Bool.eq_iff_iff]; simp (disch := omega) [-List.getD_eq_getElem?_getD, List.getD_cons_zero, List.getD_cons_succ, kCast_self, dfl_pair, dfl_int, w64, wu64, hx] <;> omega) | (simp_all [-List.getD_eq_getElem?_getD] <;> omega))
    · have hs := setI_snoc_out (l := l.take k) hin
      rw [← ht] at hs
      rw [hs] at ih
      by_cases h0 : 0 ≤ x
      · refine Goods.to 2000 [.b true, .s 15 (some true) true true, .s 21 (some false) true true, .l, .stop] mixed (ih) (by kernel_rfl) ?_
        show Yes _
        repeat' apply And.intro
        (all_goals first | rfl | assumption | trivial | omega | (simp [-List.getD_eq_getElem?_getD, hx] <;> omega) | (simp (disch := omega) only [w64, wu64] <;> omega) | (simp (disch := omega) [-List.getD_eq_getElem?_getD, List.getD_cons_zero, List.getD_cons_succ, kCast_self, dfl_pair, dfl_int, w64, wu64, hx] <;> omega) | (rw [Bool.eq_iff_iff]; simp (disch := omega) [-List.getD_eq_getElem?_getD, List.getD_cons_zero, List.getD_cons_succ, kCast_self, dfl_pair, dfl_int, w64, wu64, hx] <;> omega) | (simp_all [-List.getD_eq_getElem?_getD] <;> omega))
      · refine Goods.to 2000 [.b true, .s 15 (some false) true true, .l, .stop] mixed (ih) (by kernel_rfl) ?_
        show Yes _
        repeat' apply And.intro
        (all_goals first | rfl | assumption | trivial | omega | (simp [-List.getD_eq_getElem?_getD, hx] <;> omega) | (simp (disch := omega) only [w64, wu64] <;> omega) | (simp (disch := omega) [-List.getD_eq_getElem?_getD, List.getD_cons_zero, List.getD_cons_succ, kCast_self, dfl_pair, dfl_int, w64, wu64, hx] <;> omega) | (rw [Bool.eq_iff_iff]; simp (disch := omega) [-List.getD_eq_getElem?_getD, List.getD_cons_zero, List.getD_cons_succ, kCast_self, dfl_pair, dfl_int, w64, wu64, hx] <;> omega) | (simp_all [-List.getD_eq_getElem?_getD] <;> omega))
theorem rof_tri (own : Bool) (l : List Int) (n : Nat) (hn : n ≤ l.length) (hb : n < 9223372036854775807) : Tri En 40 [.slice 0 0 n] [.tab own (.int .i64) l] (.int .u64 (setI (l.take n))) [.tab own (.int .i64) l] := by
  have ih := rof_0 own l n hn hb n 0 (by omega)
  rw [show setI (l.take 0) = 0 from rfl] at ih
  refine Tri.of Tryd.func40 rfl Tryd.call40 rfl ?_
  refine Goods.to 2000 [.l, .stop] mixed (ih) (by kernel_rfl) ?_
  show Yes _
  repeat' apply And.intro
  (all_goals first | rfl | assumption | trivial | omega | (simp [-List.getD_eq_getElem?_getD] <;> omega) | (simp (disch := omega) only [w64, wu64] <;> omega) | (simp (disch := omega) [-List.getD_eq_getElem?_getD, List.getD_cons_zero, List.getD_cons_succ, kCast_self, dfl_pair, dfl_int, w64, wu64] <;> omega) | (rw [Bool.eq_iff_iff]; simp (disch := omega) [-List.getD_eq_getElem?_getD, List.getD_cons_zero, List.getD_cons_succ, kCast_self, dfl_pair, dfl_int, w64, wu64] <;> omega) | (simp_all [-List.getD_eq_getElem?_getD] <;> omega))
theorem setI_ints {l : List Nat} (h : ∀ i ∈ l, i < 64) : setI (intsL l) = setS l := by
  unfold setI intsL
  have e : (l.map fun i : Nat => (i : Int)).filter (fun x => decide (0 ≤ x ∧ x ≤ 63)) = l.map fun i : Nat => (i : Int) := List.filter_eq_self.2 fun x hx => by
    obtain ⟨i, hi, rfl⟩ := List.mem_map.1 hx
    have := h i hi
    simp; omega
  rw [e, List.map_map]
  have : (Int.toNat ∘ fun i : Nat => (i : Int)) = id := by funext i; simp
  rw [this, List.map_id]
theorem ints_take (l : List Nat) (n : Nat) : (intsL l).take n = intsL (l.take n) := by simp [intsL, List.map_take]
theorem bits_lt {m i : Nat} (h : i ∈ bitsL m) : i < 64 := (mem_bitsL.1 h).1
theorem bits_all : bitsL 18446744073709551615 = List.range 64 := by decide +kernel
theorem S_range (n : Nat) : setS (List.range n) = 2 ^ n - 1 := by
  apply Nat.eq_of_testBit_eq
  intro i
  rw [S_bit, Nat.testBit_two_pow_sub_one]
  exact decide_eq_decide.2 List.mem_range
theorem least_all (n : Int) : leastN 18446744073709551615 n = lowN n := by
  unfold leastN lowN
  rw [bits_all, List.take_range, S_range]
/-- The first row of so many, if there is one. -/
theorem run_cases (m n : Nat) : (∃ i, i + n ≤ 64 ∧ runOk m n i ∧ ∀ j, j < i → ¬ runOk m n j) ∨ ∀ j, j + n ≤ 64 → ¬ runOk m n j := by
  by_cases h : ∃ j, j + n ≤ 64 ∧ runOk m n j
  · left
    obtain ⟨j, h1, h2⟩ := h
    have key : ∀ k, (∃ i, i ≤ k ∧ i + n ≤ 64 ∧ runOk m n i) → ∃ i, i + n ≤ 64 ∧ runOk m n i ∧ ∀ j, j < i → ¬ runOk m n j := by
      intro k
      induction k with
      | zero => rintro ⟨i, h3, h4, h5⟩; exact ⟨i, h4, h5, fun j hj => by omega⟩
      | succ k ih =>
        rintro ⟨i, h3, h4, h5⟩
        by_cases h6 : ∃ i', i' ≤ k ∧ i' + n ≤ 64 ∧ runOk m n i'
        · exact ih h6
        · refine ⟨i, h4, h5, fun j hj h7 => h6 ⟨j, by omega, by omega, h7⟩⟩
    exact key j ⟨j, Nat.le_refl _, h1, h2⟩
  · right
    intro j h1 h2
    exact h ⟨j, h1, h2⟩
end Go.Proofs.YthlpfafmiakfdaaDoor.E
