/- HeartBack: blocks that were had, in plain. -/
import Derived.Test.YtdnhnglhdabkgaaDoorL11o
namespace Go.Proofs.YtdnhnglhdabkgaaDoor.E
set_option linter.unusedSimpArgs false
set_option linter.unusedVariables false
open Go
set_option maxRecDepth 100000

/-- How many are out. -/
def cntN (o : Nat → Nat) : Nat → Nat
  | 0 => 0
  | k + 1 => cntN o k + (bitsL (o k)).length
theorem filter_or {α : Type} (p q : α → Bool) : ∀ l : List α, (∀ x ∈ l, (p x && q x) = false) → (l.filter fun x => p x || q x).length = (l.filter p).length + (l.filter q).length
  | [], _ => rfl
  | x :: l, h => by
    have ih := filter_or p q l fun y hy => h y (by simp [hy])
    have hx := h x (by simp)
    cases hp' : p x <;> cases hq : q x <;> simp_all <;> omega
theorem bits_or {a b : Nat} (h : a &&& b = 0) : (bitsL (a ||| b)).length = (bitsL a).length + (bitsL b).length := by
  unfold bitsL
  rw [← filter_or]
  · congr 1
    exact List.filter_congr fun i _ => Nat.testBit_or ..
  · intro i _
    exact and_bit0 h i
theorem cnt_congr {o o' : Nat → Nat} : ∀ n, (∀ i, i < n → o i = o' i) → cntN o n = cntN o' n
  | 0, _ => rfl
  | n + 1, h => by
    simp only [cntN]
    rw [cnt_congr n fun i hi => h i (by omega), h n (by omega)]
theorem cnt_upd (o : Nat → Nat) (i x : Nat) : ∀ n, i < n → cntN (updN o i x) n + (bitsL (o i)).length = cntN o n + (bitsL x).length
  | 0, h => by omega
  | n + 1, h => by
    simp only [cntN]
    by_cases e : i = n
    · subst e
      have e1 : cntN (updN o i x) i = cntN o i := cnt_congr i fun j hj => if_neg (show ¬ j = i by omega)
      rw [e1, show updN o i x i = x from if_pos rfl]
      omega
    · have := cnt_upd o i x n (by omega)
      rw [show updN o i x n = o n from if_neg fun h => e h.symm]
      omega
theorem cnt_or {o : Nat → Nat} {i s n : Nat} (hi : i < n) (h : o i &&& s = 0) : cntN (updN o i (o i ||| s)) n = cntN o n + (bitsL s).length := by
  have := cnt_upd o i (o i ||| s) n hi
  rw [bits_or h] at this
  omega
theorem cnt_const {o : Nat → Nat} {z : Nat} : ∀ n, (∀ i, i < n → (bitsL (o i)).length = z) → cntN o n = n * z
  | 0, _ => by simp [cntN]
  | n + 1, h => by
    simp only [cntN]
    rw [cnt_const n fun i hi => h i (by omega), h n (by omega), Nat.succ_mul]
theorem cnt_le {o : Nat → Nat} {z : Nat} : ∀ n, (∀ i, i < n → (bitsL (o i)).length ≤ z) → cntN o n ≤ n * z
  | 0, _ => by simp [cntN]
  | n + 1, h => by
    simp only [cntN]
    have h1 := cnt_le n fun i hi => h i (by omega)
    have h2 := h n (by omega)
    rw [Nat.succ_mul]; omega
theorem low_len {k : Nat} (hk : k ≤ 64) : (bitsL (lowN (k : Int))).length = k := by
  have e : bitsL (lowN (k : Int)) = List.range k := by
    refine sorted_ext (L_sorted _) List.pairwise_lt_range fun i => ?_
    rw [mem_bitsL, low_bit k hk]
    simp; omega
  rw [e, List.length_range]
/-- What is out, by the answers that did not come back yet. -/
def outOf : List (Nat × Nat) → Nat → Nat
  | [], _ => 0
  | (j, y) :: l, i => if i = j then y ||| outOf l i else outOf l i
def OutOk (n : Nat) : List (Nat × Nat) → Prop
  | [] => True
  | (j, y) :: l => j < n ∧ y ≠ 0 ∧ y < 18446744073709551616 ∧ y &&& outOf l j = 0 ∧ OutOk n l
theorem outOf_snoc (i s : Nat) : ∀ l : List (Nat × Nat), outOf (l ++ [(i, s)]) = updN (outOf l) i (outOf l i ||| s)
  | [] => by
    funext k
    simp only [List.nil_append, outOf, updN]
    split <;> simp
  | (j, y) :: l => by
    have ih := outOf_snoc i s l
    funext k
    simp only [List.cons_append, outOf]
    rw [ih]
    unfold updN
    by_cases e1 : k = i
    · subst e1
      simp only [outOf, if_true]
      by_cases e2 : k = j
      · rw [if_pos e2, if_pos e2, Nat.or_assoc]
      · rw [if_neg e2, if_neg e2]
    · rw [if_neg e1, if_neg e1]
theorem outOf_lt {n : Nat} : ∀ {l : List (Nat × Nat)}, OutOk n l → ∀ i, outOf l i < 18446744073709551616
  | [], _, i => by simp [outOf]
  | (j, y) :: l, h, i => by
    simp only [outOf]
    split
    · exact or_lt64 h.2.2.1 (outOf_lt h.2.2.2.2 i)
    · exact outOf_lt h.2.2.2.2 i
theorem outOk_snoc {n i s : Nat} (hi : i < n) (hs : s ≠ 0) (hs2 : s < 18446744073709551616) : ∀ {l : List (Nat × Nat)}, OutOk n l → outOf l i &&& s = 0 → OutOk n (l ++ [(i, s)])
  | [], _, _ => ⟨hi, hs, hs2, by simp [outOf], trivial⟩
  | (j, y) :: l, h, h0 => by
    obtain ⟨h1, h2, h3, h4, h5⟩ := h
    have hlt := outOf_lt h5
    simp only [outOf] at h0
    have h6 : outOf l i &&& s = 0 := by
      by_cases e : i = j
      · rw [if_pos e] at h0
        refine bit_ext (by rw [pow64]; exact and_lt64 _ _ (hlt i)) (by rw [pow64]; omega) fun b _ => ?_
        have := and_bit0 h0 b
        rw [Nat.testBit_or] at this
        rw [Nat.testBit_and, Nat.zero_testBit]
        revert this
        cases y.testBit b <;> cases (outOf l i).testBit b <;> cases s.testBit b <;> simp
      · rw [if_neg e] at h0; exact h0
    refine ⟨h1, h2, h3, ?_, outOk_snoc hi hs hs2 h5 h6⟩
    show y &&& outOf (l ++ [(i, s)]) j = 0
    rw [outOf_snoc]
    unfold updN
    by_cases e : j = i
    · subst e
      rw [if_pos rfl] at h0
      rw [if_pos rfl]
      refine bit_ext (by rw [pow64]; exact and_lt64 _ _ h3) (by rw [pow64]; omega) fun b _ => ?_
      have e1 := and_bit0 h0 b
      have e2 := and_bit0 h4 b
      rw [Nat.testBit_or] at e1
      rw [Nat.testBit_and, Nat.testBit_or, Nat.zero_testBit]
      revert e1 e2
      cases y.testBit b <;> cases (outOf l j).testBit b <;> cases s.testBit b <;> simp
    · rw [if_neg e]; exact h4
theorem outOf_back {n j y : Nat} {l : List (Nat × Nat)} (h : OutOk n ((j, y) :: l)) : andNotN (outOf ((j, y) :: l) j) y = outOf l j ∧ subM y (outOf ((j, y) :: l) j) ∧ updN (outOf ((j, y) :: l)) j (outOf l j) = outOf l := by
  obtain ⟨h1, h2, h3, h4, h5⟩ := h
  have hlt := outOf_lt h5 j
  refine ⟨?_, fun i _ hb => ?_, ?_⟩
  · simp only [outOf, if_true]
    refine bit_ext (by rw [pow64]; exact andNotN_lt ..) (by rw [pow64]; exact hlt) fun b hb => ?_
    have e2 := and_bit0 h4 b
    rw [andNotN_bit _ _ hb, Nat.testBit_or]
    revert e2
    cases y.testBit b <;> cases (outOf l j).testBit b <;> simp
  · simp only [outOf, if_true]
    rw [Nat.testBit_or, hb]; rfl
  · funext i
    unfold updN
    by_cases e : i = j
    · subst e; rw [if_pos rfl]
    · rw [if_neg e]; simp only [outOf, if_neg e]
/-- All superblocks are free, or of the class. -/
def OneC (n : Nat) (f : SupF) (cl : Nat) : Prop := ∀ i, i < n → f i = (0, 0, 0) ∨ ∃ m, f i = (1, cl, m)
/-- Nothing is left. -/
theorem back_none {c : Cnf} (hc : c.Ok) {n : Nat} {f : SupF} {o r : Nat → Nat} {cl : Nat} (hcl : cl < c.cl.length) (hK : KInv c n f o r) (h1 : OneC n f cl) (h : refF c n f cl = none) : cntN o n = n * capN c cl ∧ ∀ q j, 1 ≤ q → ¬ rowP n f q j := by
  unfold refF at h
  have e1 : ¬ 0 ≤ fcls f cl n := fun h0 => by rw [if_pos h0] at h; simp at h
  rw [if_neg e1] at h
  have e2 : ¬ 0 ≤ ffree f n := fun h0 => by rw [if_pos h0] at h; simp at h
  rcases fcls_spec f cl n with ⟨_, hc1⟩ | ⟨i, h3, _⟩
  · rcases ffree_spec f n with ⟨_, hf1⟩ | ⟨i, h3, _⟩
    · refine ⟨cnt_const n fun i hi => ?_, fun q j hq hr => ?_⟩
      · rcases h1 i hi with e | ⟨m, e⟩
        · have := hf1 i hi; rw [e] at this; exact absurd rfl this
        · have hm0 : m = 0 := Classical.byContradiction fun hm => hc1 i hi (by rw [e]; exact ⟨rfl, rfl, hm⟩)
          subst hm0
          rcases hK i hi with ⟨e', _⟩ | ⟨a, m', e', ha, q1, q2, _⟩ | ⟨a, e', _⟩ | ⟨e', _⟩
          · rw [e] at e'; simp at e'
          · rw [e] at e'
            simp only [Prod.mk.injEq, true_and] at e'
            obtain ⟨ea, em⟩ := e'
            subst ea em
            rw [Nat.zero_or] at q2
            rw [q2]; exact low_len (cap_le hc _)
          · rw [e] at e'; simp at e'
          · rw [e] at e'; simp at e'
      · have := hr.1
        exact hf1 j (by omega) (hr.2 0 (by omega))
    · omega
  · omega
theorem back_le {c : Cnf} (hc : c.Ok) {n : Nat} {f : SupF} {o r : Nat → Nat} (hK : KInv c n f o r) : cntN o n ≤ n * 64 := cnt_le n fun i _ => L_le _
theorem OneC.set {n : Nat} {f : SupF} {cl : Nat} (h : OneC n f cl) (i : Nat) {s : SupT} (hs : s = (0, 0, 0) ∨ ∃ m, s = (1, cl, m)) : OneC n (updS f i s) cl := fun j hj => by
  unfold updS
  by_cases e : j = i
  · rw [if_pos e]; exact hs
  · rw [if_neg e]; exact h j hj
end Go.Proofs.YtdnhnglhdabkgaaDoor.E
