/- Sets of numbers as words: plain facts. -/
import Derived.Test.YthlpfafmiakfdaaDoorEn
namespace Go.Proofs.YthlpfafmiakfdaaDoor.E
set_option linter.unusedSimpArgs false
set_option linter.unusedVariables false
set_option maxRecDepth 100000
/-- The numbers of a set, rising. -/
def bitsL (m : Nat) : List Nat := (List.range 64).filter (m.testBit ·)
/-- The set of some numbers. -/
def setS : List Nat → Nat
  | [] => 0
  | i :: l => 2 ^ i ||| setS l
theorem mem_bitsL {m i : Nat} : i ∈ bitsL m ↔ i < 64 ∧ m.testBit i = true := by simp [bitsL]
theorem S_bit : ∀ (l : List Nat) (i : Nat), (setS l).testBit i = decide (i ∈ l)
  | [], i => by simp [setS]
  | j :: l, i => by
    rw [setS, Nat.testBit_or, S_bit l i, Nat.testBit_two_pow]
    by_cases h : j = i
    · subst h; simp
    · have h' : ¬ i = j := fun e => h e.symm
      simp [h, h']
theorem S_lt {l : List Nat} (h : ∀ i ∈ l, i < 64) : setS l < 2 ^ 64 := Nat.lt_pow_two_of_testBit _ fun i hi => by
  rw [S_bit]; simp; intro hm; have := h i hm; omega
theorem bit_lt {m i : Nat} (hm : m < 2 ^ 64) (h : m.testBit i = true) : i < 64 := by
  apply Classical.byContradiction
  intro hn
  have : m.testBit i = false := Nat.testBit_lt_two_pow (Nat.lt_of_lt_of_le hm (Nat.pow_le_pow_right (by omega) (by omega)))
  rw [this] at h; cases h
theorem bit_ext {x y : Nat} (hx : x < 2 ^ 64) (hy : y < 2 ^ 64) (h : ∀ i, i < 64 → x.testBit i = y.testBit i) : x = y := by
  apply Nat.eq_of_testBit_eq
  intro i
  by_cases hi : i < 64
  · exact h i hi
  · have h1 : x.testBit i = false := by cases hb : x.testBit i with | false => rfl | true => exact absurd (bit_lt hx hb) hi
    have h2 : y.testBit i = false := by cases hb : y.testBit i with | false => rfl | true => exact absurd (bit_lt hy hb) hi
    rw [h1, h2]
theorem S_L {m : Nat} (hm : m < 2 ^ 64) : setS (bitsL m) = m := by
  refine bit_ext (S_lt fun i hi => (mem_bitsL.1 hi).1) hm fun i hi => ?_
  rw [S_bit, Bool.eq_iff_iff]; simp [mem_bitsL, hi]
theorem L_sorted (m : Nat) : (bitsL m).Pairwise (· < ·) := List.pairwise_lt_range.filter _
theorem sorted_ext : ∀ {l l' : List Nat}, l.Pairwise (· < ·) → l'.Pairwise (· < ·) → (∀ i, i ∈ l ↔ i ∈ l') → l = l'
  | [], l', _, _, h => by
    cases l' with
    | nil => rfl
    | cons a l' => have := (h a).2 (by simp); cases this
  | a :: l, [], _, _, h => by have := (h a).1 (by simp); cases this
  | a :: l, b :: l', h1, h2, h => by
    have ⟨h3, h4⟩ := List.pairwise_cons.1 h1
    have ⟨h5, h6⟩ := List.pairwise_cons.1 h2
    have hab : a = b := by
      rcases List.mem_cons.1 ((h a).1 (by simp)) with e | e
      · exact e
      · rcases List.mem_cons.1 ((h b).2 (by simp)) with e' | e'
        · exact e'.symm
        · have := h3 b e'; have := h5 a e; omega
    subst hab
    rw [sorted_ext h4 h6 fun i => ?_]
    constructor
    · intro hi
      rcases List.mem_cons.1 ((h i).1 (by simp [hi])) with e | e
      · subst e; have := h3 i hi; omega
      · exact e
    · intro hi
      rcases List.mem_cons.1 ((h i).2 (by simp [hi])) with e | e
      · subst e; have := h5 i hi; omega
      · exact e
theorem L_S {l : List Nat} (h : l.Pairwise (· < ·)) (hl : ∀ i ∈ l, i < 64) : bitsL (setS l) = l := by
  refine sorted_ext (L_sorted _) h fun i => ?_
  rw [mem_bitsL, S_bit]
  simp only [decide_eq_true_eq]
  exact ⟨fun h => h.2, fun h => ⟨hl i h, h⟩⟩
theorem L_le (m : Nat) : (bitsL m).length ≤ 64 := by
  have := List.length_filter_le (m.testBit ·) (List.range 64)
  simpa [bitsL] using this
theorem L_zero : bitsL 0 = [] := by simp [bitsL]
theorem L_nil {m : Nat} (hm : m < 2 ^ 64) (h : bitsL m = []) : m = 0 := by rw [← S_L hm, h]; rfl
/-- A number's lowest bit: where it is, and what is above. -/
theorem low_form : ∀ {m : Nat}, m ≠ 0 → ∃ t q, m = 2 ^ t * (2 * q + 1)
  | m, h => by
    by_cases h2 : m % 2 = 1
    · exact ⟨0, m / 2, by omega⟩
    · obtain ⟨t, q, hq⟩ := low_form (m := m / 2) (by omega)
      refine ⟨t + 1, q, ?_⟩
      rw [Nat.pow_succ, Nat.mul_right_comm, ← hq]; omega
  termination_by m => m
  decreasing_by omega
theorem mul_bit (t x i : Nat) : (2 ^ t * x).testBit i = (decide (t ≤ i) && x.testBit (i - t)) := by
  rw [Nat.mul_comm, Nat.testBit_mul_two_pow]
theorem add_bit (t x y i : Nat) (hy : y < 2 ^ t) : (2 ^ t * x + y).testBit i = if i < t then y.testBit i else x.testBit (i - t) := by
  rw [Nat.testBit_two_pow_mul_add _ hy]
/-- m & (m - 1): without its lowest bit; m & -m: that bit. -/
theorem clr_low (t q : Nat) : (2 ^ t * (2 * q + 1)) &&& (2 ^ t * (2 * q + 1) - 1) = 2 ^ t * (2 * q) := by
  have hp : 0 < 2 ^ t := Nat.pow_pos (by omega)
  have e : 2 ^ t * (2 * q + 1) - 1 = 2 ^ t * (2 * q) + (2 ^ t - 1) := by rw [Nat.mul_add, Nat.mul_one]; omega
  apply Nat.eq_of_testBit_eq
  intro i
  rw [e, Nat.testBit_and, mul_bit, add_bit _ _ _ _ (by omega), mul_bit]
  by_cases hi : i < t
  · simp [hi, show ¬ t ≤ i by omega]
  · rw [if_neg hi]
    simp only [show t ≤ i by omega, decide_true, Bool.true_and]
    cases hk : i - t with
    | zero => simp
    | succ k => rw [Nat.testBit_succ, Nat.testBit_succ]; simp [show (2 * q + 1) / 2 = q by omega]
theorem low_only (t q : Nat) (ht : 2 ^ t * (2 * q + 1) < 2 ^ 64) : (2 ^ t * (2 * q + 1)) &&& (2 ^ 64 - 2 ^ t * (2 * q + 1)) = 2 ^ t := by
  have hp : 0 < 2 ^ t := Nat.pow_pos (by omega)
  have h64 : t < 64 := by
    apply Classical.byContradiction
    intro hn
    have h1 : 2 ^ 64 ≤ 2 ^ t := Nat.pow_le_pow_right (by omega) (by omega)
    have h2 : 2 ^ t * 1 ≤ 2 ^ t * (2 * q + 1) := Nat.mul_le_mul_left _ (by omega)
    omega
  obtain ⟨s, hs⟩ : ∃ s, 64 = t + (s + 1) := ⟨63 - t, by omega⟩
  have hq : q < 2 ^ s := by
    rw [hs, Nat.pow_add] at ht
    have := Nat.lt_of_mul_lt_mul_left ht
    rw [Nat.pow_succ] at this; omega
  have e : 2 ^ 64 - 2 ^ t * (2 * q + 1) = 2 ^ t * (2 * (2 ^ s - 1 - q) + 1) := by
    rw [hs, Nat.pow_add, ← Nat.mul_sub]
    congr 1
    rw [Nat.pow_succ]; omega
  apply Nat.eq_of_testBit_eq
  intro i
  rw [e, Nat.testBit_and, mul_bit, mul_bit, Nat.testBit_two_pow]
  by_cases hi : t ≤ i
  · simp only [hi, decide_true, Bool.true_and]
    cases hk : i - t with
    | zero => simp [show t = i by omega]
    | succ k =>
      rw [Nat.testBit_succ, Nat.testBit_succ, show (2 * q + 1) / 2 = q by omega, show (2 * (2 ^ s - 1 - q) + 1) / 2 = 2 ^ s - 1 - q by omega]
      rw [show 2 ^ s - 1 - q = 2 ^ s - (q + 1) by omega, Nat.testBit_two_pow_sub_succ hq]
      simp [show ¬ t = i by omega]
      cases q.testBit k <;> simp
  · simp [hi, show ¬ t = i by omega]
/-- The lowest number of a set that isn't empty; the set without it. -/
theorem L_cons {m : Nat} (hm : m < 2 ^ 64) (h0 : m ≠ 0) : ∃ t, t < 64 ∧ bitsL m = t :: bitsL (m &&& (m - 1)) ∧ m &&& (2 ^ 64 - m) = 2 ^ t ∧ m % 2 ^ t = 0 ∧ m / 2 ^ t % 2 = 1 := by
  obtain ⟨t, q, rfl⟩ := low_form h0
  have hp : 0 < 2 ^ t := Nat.pow_pos (by omega)
  have hb : ∀ i, (2 ^ t * (2 * q + 1)).testBit i = true ↔ i = t ∨ (2 ^ t * (2 * q)).testBit i = true := by
    intro i
    rw [mul_bit, mul_bit]
    by_cases hi : t ≤ i
    · simp only [hi, decide_true, Bool.true_and]
      cases hk : i - t with
      | zero => simp [show i = t by omega]
      | succ k => rw [Nat.testBit_succ, Nat.testBit_succ, show (2 * q + 1) / 2 = q by omega, show (2 * q) / 2 = q by omega]; simp [show ¬ i = t by omega]
    · simp [hi, show ¬ i = t by omega]
  have hlow : ∀ i, (2 ^ t * (2 * q)).testBit i = true → t < i := by
    intro i hi
    rw [mul_bit] at hi
    simp at hi
    obtain ⟨h1, h2⟩ := hi
    rcases Nat.lt_or_ge t i with h | h
    · exact h
    · rw [show i - t = 0 by omega] at h2; simp at h2
  have ht : t < 64 := bit_lt hm ((hb t).2 (.inl rfl))
  refine ⟨t, ht, ?_, low_only t q hm, Nat.mul_mod_right _ _, by rw [Nat.mul_div_cancel_left _ hp]; omega⟩
  rw [clr_low]
  refine sorted_ext (L_sorted _) (List.pairwise_cons.2 ⟨fun i hi => hlow i (mem_bitsL.1 hi).2, L_sorted _⟩) fun i => ?_
  rw [mem_bitsL, List.mem_cons, mem_bitsL, hb]
  constructor
  · rintro ⟨h1, h2 | h2⟩
    · exact .inl h2
    · exact .inr ⟨h1, h2⟩
  · rintro (h1 | ⟨h1, h2⟩)
    · exact ⟨by omega, .inl h1⟩
    · exact ⟨h1, .inr h2⟩
/-- How many. -/
def pc : Nat → Nat → Nat
  | 0, _ => 0
  | k + 1, x => x % 2 + pc k (x / 2)
theorem pc_filter : ∀ (k x : Nat), ((List.range k).filter (x.testBit ·)).length = pc k x
  | 0, x => rfl
  | k + 1, x => by
    rw [List.range_succ_eq_map, List.filter_cons, pc, ← pc_filter k (x / 2), List.filter_map, apply_ite List.length]
    have : ((fun i => x.testBit i) ∘ Nat.succ) = fun i => (x / 2).testBit i := by funext i; simp [Function.comp, Nat.testBit_succ]
    rw [this]
    have h := Nat.mod_two_eq_zero_or_one x
    rcases h with h | h <;> simp [Nat.testBit_zero, h] <;> omega
theorem pc_split : ∀ (j k x : Nat), pc (j + k) x = pc j x + pc k (x / 2 ^ j)
  | 0, k, x => by simp [pc]
  | j + 1, k, x => by
    rw [show j + 1 + k = (j + k) + 1 by omega, pc, pc_split j k, pc, Nat.div_div_eq_div_mul, Nat.pow_succ, Nat.mul_comm 2]; omega
theorem pc_low : ∀ (k x : Nat), pc k (x % 2 ^ k) = pc k x
  | 0, x => rfl
  | k + 1, x => by
    rw [pc, pc, Nat.pow_succ, Nat.mul_comm, ← pc_low k (x / 2)]
    rw [Nat.mod_mul_right_mod, Nat.mod_mul_right_div_self]
theorem and_split (h l M m : Nat) (hl : l < 256) (hm : m < 256) : (256 * h + l) &&& (256 * M + m) = 256 * (h &&& M) + (l &&& m) := by
  apply Nat.eq_of_testBit_eq
  intro i
  have e : (256 : Nat) = 2 ^ 8 := rfl
  have hlm : l &&& m < 2 ^ 8 := Nat.lt_of_le_of_lt Nat.and_le_left hl
  rw [Nat.testBit_and, e, add_bit _ _ _ _ hl, add_bit _ _ _ _ hm, add_bit _ _ _ _ hlm]
  split <;> rw [Nat.testBit_and]
def msk (m : Nat) : Nat → Nat
  | 0 => 0
  | k + 1 => 256 * msk m k + m
def s1 (k x : Nat) : Nat := (x / 2 &&& msk 85 k) + (x &&& msk 85 k)
def s2 (k x : Nat) : Nat := (x / 4 &&& msk 51 k) + (x &&& msk 51 k)
def s3 (k x : Nat) : Nat := (x / 16 + x) &&& msk 15 k
theorem b1 : ∀ a, a < 2 → ∀ l, l < 256 → (128 * a + l / 2) &&& 85 = l / 2 &&& 85 := by decide +kernel
theorem b2 : ∀ a, a < 4 → ∀ l, l < 256 → (64 * a + l / 4) &&& 51 = l / 4 &&& 51 := by decide +kernel
def t1 (l : Nat) : Nat := (l / 2 &&& 85) + (l &&& 85)
def t2 (l : Nat) : Nat := (t1 l / 4 &&& 51) + (t1 l &&& 51)
theorem t1_lt : ∀ l, l < 256 → t1 l < 256 := by decide +kernel
theorem t2_lt : ∀ l, l < 256 → t2 l ≤ 68 ∧ t2 l % 16 ≤ 4 := by decide +kernel
theorem b3 : ∀ a, a < 5 → ∀ l, l < 256 → 16 * a + t2 l / 16 + t2 l < 256 ∧ (16 * a + t2 l / 16 + t2 l) &&& 15 = pc 8 l := by decide +kernel
theorem s1_split (k h l : Nat) (hl : l < 256) : s1 (k + 1) (256 * h + l) = 256 * s1 k h + t1 l := by
  unfold s1 t1
  rw [show (256 * h + l) / 2 = 256 * (h / 2) + (128 * (h % 2) + l / 2) by omega, msk, and_split _ _ _ _ (by omega) (by omega), and_split _ _ _ _ hl (by omega), b1 _ (by omega) _ hl]
  omega
theorem s2_split (k h l : Nat) (hl : l < 256) : s2 (k + 1) (256 * h + l) = 256 * s2 k h + ((l / 4 &&& 51) + (l &&& 51)) := by
  unfold s2
  rw [show (256 * h + l) / 4 = 256 * (h / 4) + (64 * (h % 4) + l / 4) by omega, msk, and_split _ _ _ _ (by omega) (by omega), and_split _ _ _ _ hl (by omega), b2 _ (by omega) _ hl]
  omega
/-- Each byte's number of bits. -/
def bytesF : Nat → Nat → Nat
  | 0, _ => 0
  | k + 1, x => 256 * bytesF k (x / 256) + pc 8 (x % 256)
theorem s12_low : ∀ (k x : Nat), s2 k (s1 k x) % 16 ≤ 4
  | 0, x => by simp [s2, s1, msk]
  | k + 1, x => by
    have hl := Nat.mod_lt x (show 0 < 256 by omega)
    have e : x = 256 * (x / 256) + x % 256 := by omega
    rw [e, s1_split _ _ _ hl, s2_split _ _ _ (t1_lt _ hl)]
    have := (t2_lt _ hl).2
    unfold t2 at this
    omega
theorem s123 : ∀ (k x : Nat), s3 k (s2 k (s1 k x)) = bytesF k x
  | 0, x => by simp [s3, msk, bytesF]
  | k + 1, x => by
    have hl := Nat.mod_lt x (show 0 < 256 by omega)
    have e : x = 256 * (x / 256) + x % 256 := by omega
    have ih := s123 k (x / 256)
    have hlow := s12_low k (x / 256)
    rw [bytesF, ← ih]
    conv => lhs; rw [e]
    rw [s1_split _ _ _ hl, s2_split _ _ _ (t1_lt _ hl)]
    have h2 := (t2_lt _ hl).1
    rw [show (t1 (x % 256) / 4 &&& 51) + (t1 (x % 256) &&& 51) = t2 (x % 256) from rfl]
    generalize s2 k (s1 k (x / 256)) = y at *
    have h3 := b3 (y % 16) (by omega) _ hl
    generalize hz : t2 (x % 256) = z at *
    unfold s3
    rw [show (256 * y + z) / 16 + (256 * y + z) = 256 * (y / 16 + y) + (16 * (y % 16) + z / 16 + z) by omega, msk, and_split _ _ _ _ h3.1 (by omega), h3.2]
theorem pc8_le (x : Nat) : pc 8 x ≤ 8 := by simp only [pc]; omega
theorem ones_sum (x : Nat) (hx : x < 2 ^ 64) : ∃ e0 e1 e2 e3 e4 e5 e6 e7 : Nat, e0 ≤ 8 ∧ e1 ≤ 8 ∧ e2 ≤ 8 ∧ e3 ≤ 8 ∧ e4 ≤ 8 ∧ e5 ≤ 8 ∧ e6 ≤ 8 ∧ e7 ≤ 8 ∧ bytesF 8 x = e0 + 256 * (e1 + 256 * (e2 + 256 * (e3 + 256 * (e4 + 256 * (e5 + 256 * (e6 + 256 * e7)))))) ∧ (bitsL x).length = e0 + e1 + e2 + e3 + e4 + e5 + e6 + e7 := by
  refine ⟨pc 8 (x % 256), pc 8 (x / 256 % 256), pc 8 (x / 256 / 256 % 256), pc 8 (x / 256 / 256 / 256 % 256), pc 8 (x / 256 / 256 / 256 / 256 % 256), pc 8 (x / 256 / 256 / 256 / 256 / 256 % 256), pc 8 (x / 256 / 256 / 256 / 256 / 256 / 256 % 256), pc 8 (x / 256 / 256 / 256 / 256 / 256 / 256 / 256 % 256), pc8_le _, pc8_le _, pc8_le _, pc8_le _, pc8_le _, pc8_le _, pc8_le _, pc8_le _, ?_, ?_⟩
  · simp only [bytesF]; omega
  · have hl : ∀ x, pc 8 (x % 256) = pc 8 x := fun x => pc_low 8 x
    simp only [hl]
    rw [bitsL, pc_filter, show (64 : Nat) = 8 + (8 + (8 + (8 + (8 + (8 + (8 + 8)))))) from rfl]
    simp only [pc_split 8]
    have e : (2 : Nat) ^ 8 = 256 := rfl
    rw [e]; omega
/-- The last steps of the count. -/
theorem ones_tail (e0 e1 e2 e3 e4 e5 e6 e7 : Nat) (h0 : e0 ≤ 8) (h1 : e1 ≤ 8) (h2 : e2 ≤ 8) (h3 : e3 ≤ 8) (h4 : e4 ≤ 8) (h5 : e5 ≤ 8) (h6 : e6 ≤ 8) (h7 : e7 ≤ 8) (x : Nat) (hx : x = e0 + 256 * (e1 + 256 * (e2 + 256 * (e3 + 256 * (e4 + 256 * (e5 + 256 * (e6 + 256 * e7))))))) :
    ∃ y z, y = x + x / 256 ∧ y < 18446744073709551616 ∧ z = y + y / 65536 ∧ z < 18446744073709551616 ∧ z + z / 4294967296 < 18446744073709551616 ∧ (z + z / 4294967296) % 128 = e0 + e1 + e2 + e3 + e4 + e5 + e6 + e7 := by
  obtain ⟨A6, k6⟩ : ∃ A, A = e6 + 256 * e7 := ⟨_, rfl⟩
  obtain ⟨A5, k5⟩ : ∃ A, A = e5 + 256 * A6 := ⟨_, rfl⟩
  obtain ⟨A4, k4⟩ : ∃ A, A = e4 + 256 * A5 := ⟨_, rfl⟩
  obtain ⟨A3, k3⟩ : ∃ A, A = e3 + 256 * A4 := ⟨_, rfl⟩
  obtain ⟨A2, k2⟩ : ∃ A, A = e2 + 256 * A3 := ⟨_, rfl⟩
  obtain ⟨A1, k1⟩ : ∃ A, A = e1 + 256 * A2 := ⟨_, rfl⟩
  rw [← k6, ← k5, ← k4, ← k3, ← k2, ← k1] at hx
  have q1 : x / 256 = A1 := by omega
  have q2 : (x + A1) / 65536 = A2 + A3 := by omega
  have q3 : (x + A1 + (A2 + A3)) / 4294967296 = A4 + A5 + A6 + e7 := by omega
  refine ⟨x + A1, x + A1 + (A2 + A3), by rw [q1], by omega, by rw [q2], by omega, ?_, ?_⟩
  · rw [q3]; omega
  · rw [q3]; omega
end Go.Proofs.YthlpfafmiakfdaaDoor.E
