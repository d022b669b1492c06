/- The document's answers for sets: their contracts. -/
import Derived.Test.YtcicfbccdgkfhaaDoorPmaskb
import Derived.Test.YtcicfbccdgkfhaaDoorPbits
namespace Go.Proofs.YtcicfbccdgkfhaaDoor.E
set_option linter.unusedSimpArgs false
set_option linter.unusedVariables false
open Go
set_option maxRecDepth 100000

theorem hasN_nat {m k : Nat} (h : k < 64) : hasN m k = m.testBit k := by unfold hasN; simp; omega
theorem hasN_out {m : Nat} {n : Int} (h : ¬ (0 ≤ n ∧ n ≤ 63)) : hasN m n = false := by unfold hasN; rw [decide_eq_false (by omega)]; rfl
/-- The set of some numbers, of which only those from 0 to 63 count. -/
def setI (l : List Int) : Nat := setS ((l.filter fun x => decide (0 ≤ x ∧ x ≤ 63)).map Int.toNat)
theorem S_append (a b : List Nat) : setS (a ++ b) = setS a ||| setS b := by
  induction a with
  | nil => simp [setS]
  | cons x a ih => rw [List.cons_append, setS, setS, ih, Nat.or_assoc]
theorem setI_lt (l : List Int) : setI l < 18446744073709551616 := by
  rw [← pow64]
  refine S_lt fun i hi => ?_
  obtain ⟨x, hx, rfl⟩ := List.mem_map.1 hi
  have := (List.mem_filter.1 hx).2
  simp at this; omega
theorem setI_snoc_in {l : List Int} {x : Int} (h : 0 ≤ x ∧ x ≤ 63) : setI (l ++ [x]) = setI l ||| 2 ^ x.toNat := by
  unfold setI
  rw [List.filter_append, List.map_append, S_append]
  simp [h, setS]
theorem setI_snoc_out {l : List Int} {x : Int} (h : ¬ (0 ≤ x ∧ x ≤ 63)) : setI (l ++ [x]) = setI l := by
  unfold setI
  rw [List.filter_append, List.map_append, S_append]
  have : ([x].filter fun x => decide (0 ≤ x ∧ x ≤ 63)) = [] := by simp; omega
  rw [this]; simp [setS]
theorem or_new {m t : Nat} (h : m.testBit t = false) : m ||| 2 ^ t = m + 2 ^ t := by
  have hd : m &&& 2 ^ t = 0 := by
    apply Nat.eq_of_testBit_eq
    intro i
    rw [Nat.testBit_and, Nat.testBit_two_pow]
    by_cases hi : t = i
    · subst hi; simp [h]
    · simp [hi]
  have hw : m + 2 ^ t < 2 ^ (m + 2 ^ t) := Nat.lt_two_pow_self
  have l1 : m < 2 ^ (m + 2 ^ t) := Nat.lt_of_le_of_lt (Nat.le_add_right _ _) hw
  have l2 : 2 ^ t < 2 ^ (m + 2 ^ t) := Nat.lt_of_le_of_lt (Nat.le_add_left _ _) hw
  have h1 := BitVec.add_eq_or_of_and_eq_zero (BitVec.ofNat (m + 2 ^ t) m) (BitVec.ofNat (m + 2 ^ t) (2 ^ t)) (by
    apply BitVec.eq_of_toNat_eq
    rw [BitVec.toNat_and, BitVec.toNat_ofNat, BitVec.toNat_ofNat, Nat.mod_eq_of_lt l1, Nat.mod_eq_of_lt l2, hd]
    simp)
  have h2 := congrArg BitVec.toNat h1
  rw [BitVec.toNat_add, BitVec.toNat_or, BitVec.toNat_ofNat, BitVec.toNat_ofNat, Nat.mod_eq_of_lt l1, Nat.mod_eq_of_lt l2, Nat.mod_eq_of_lt hw] at h2
  exact h2.symm
theorem or_old {m t : Nat} (h : m.testBit t = true) : m ||| 2 ^ t = m := by
  apply Nat.eq_of_testBit_eq
  intro i
  rw [Nat.testBit_or, Nat.testBit_two_pow]
  by_cases hi : t = i
  · subst hi; simp [h]
  · simp [hi]
theorem take_snoc {l : List Int} {k : Nat} (h : k < l.length) : l.take (k + 1) = l.take k ++ [l.getD k 0] := by
  rw [List.take_add_one]; simp [List.getD, h]
theorem setI_ints {l : List Nat} (h : ∀ i ∈ l, i < 64) : setI (intsL l) = setS l := by
  unfold setI intsL
  have e : (l.map fun i : Nat => (i : Int)).filter (fun x => decide (0 ≤ x ∧ x ≤ 63)) = l.map fun i : Nat => (i : Int) := List.filter_eq_self.2 fun x hx => by
    obtain ⟨i, hi, rfl⟩ := List.mem_map.1 hx
    have := h i hi
    simp; omega
  rw [e, List.map_map]
  have : (Int.toNat ∘ fun i : Nat => (i : Int)) = id := by funext i; simp
  rw [this, List.map_id]
theorem ints_take (l : List Nat) (n : Nat) : (intsL l).take n = intsL (l.take n) := by simp [intsL, List.map_take]
theorem bits_lt {m i : Nat} (h : i ∈ bitsL m) : i < 64 := (mem_bitsL.1 h).1
theorem bits_all : bitsL 18446744073709551615 = List.range 64 := by decide +kernel
theorem S_range (n : Nat) : setS (List.range n) = 2 ^ n - 1 := by
  apply Nat.eq_of_testBit_eq
  intro i
  rw [S_bit, Nat.testBit_two_pow_sub_one]
  exact decide_eq_decide.2 List.mem_range
theorem least_all (n : Int) : leastN 18446744073709551615 n = lowN n := by
  unfold leastN lowN
  rw [bits_all, List.take_range, S_range]
/-- The first row of so many, if there is one. -/
theorem run_cases (m n : Nat) : (∃ i, i + n ≤ 64 ∧ runOk m n i ∧ ∀ j, j < i → ¬ runOk m n j) ∨ ∀ j, j + n ≤ 64 → ¬ runOk m n j := by
  by_cases h : ∃ j, j + n ≤ 64 ∧ runOk m n j
  · left
    obtain ⟨j, h1, h2⟩ := h
    have key : ∀ k, (∃ i, i ≤ k ∧ i + n ≤ 64 ∧ runOk m n i) → ∃ i, i + n ≤ 64 ∧ runOk m n i ∧ ∀ j, j < i → ¬ runOk m n j := by
      intro k
      induction k with
      | zero => rintro ⟨i, h3, h4, h5⟩; exact ⟨i, h4, h5, fun j hj => by omega⟩
      | succ k ih =>
        rintro ⟨i, h3, h4, h5⟩
        by_cases h6 : ∃ i', i' ≤ k ∧ i' + n ≤ 64 ∧ runOk m n i'
        · exact ih h6
        · refine ⟨i, h4, h5, fun j hj h7 => h6 ⟨j, by omega, by omega, h7⟩⟩
    exact key j ⟨j, Nat.le_refl _, h1, h2⟩
  · right
    intro j h1 h2
    exact h ⟨j, h1, h2⟩
end Go.Proofs.YtcicfbccdgkfhaaDoor.E
