/- References: a word's bits; which words are a reference's. -/
import Derived.Test.YtcicfbccdgkfhaaDoorPref
namespace Go.Proofs.YtcicfbccdgkfhaaDoor.E
set_option linter.unusedSimpArgs false
set_option linter.unusedVariables false
open Go
set_option maxRecDepth 100000

theorem high_bit {n b i : Nat} (hn : n < 2 ^ b) (hi : b ≤ i) : n.testBit i = false := Nat.testBit_lt_two_pow (Nat.lt_of_lt_of_le hn (Nat.pow_le_pow_right (by omega) hi))
theorem two63 (i : Nat) : (9223372036854775808 : Nat).testBit i = decide (63 = i) := by
  rw [show (9223372036854775808 : Nat) = 2 ^ 63 by decide, Nat.testBit_two_pow]
/-- A reference's word, bit by bit. -/
theorem ref_bit (wk sl tg i : Nat) (h0 : wk < 256) (h1 : sl < 256) (h2 : tg < 4294967296) (hi : i < 64) : (refN wk sl tg).testBit i = if i < 8 then wk.testBit i else if i < 16 then sl.testBit (i - 8) else if i < 48 then tg.testBit (i - 16) else decide (63 = i) := by
  unfold refN
  rw [putN_bit _ _ _ _ _ hi h2]
  by_cases c : 16 ≤ i ∧ i < 16 + 32
  · rw [if_pos c, if_neg (by omega), if_neg (by omega), if_pos (by omega)]
  · rw [if_neg c, putN_bit _ _ _ _ _ hi h1]
    by_cases c : 8 ≤ i ∧ i < 8 + 8
    · rw [if_pos c, if_neg (by omega), if_pos (by omega)]
    · rw [if_neg c, putN_bit _ _ _ _ _ hi h0]
      by_cases c : 0 ≤ i ∧ i < 0 + 8
      · rw [if_pos c, if_pos (by omega), Nat.sub_zero]
      · rw [if_neg c, if_neg (by omega), if_neg (by omega), if_neg (by omega), two63]
theorem refN_lt (wk sl tg : Nat) : refN wk sl tg < 18446744073709551616 := putN_lt _ _ _ _
theorem get_ref (a b c : Nat) (h0 : a < 256) (h1 : b < 256) (h2 : c < 4294967296) : getN (refN a b c) 0 8 = a ∧ getN (refN a b c) 8 8 = b ∧ getN (refN a b c) 16 32 = c := by
  refine ⟨?_, ?_, ?_⟩ <;> (apply Nat.eq_of_testBit_eq; intro i; rw [getN_bit])
  · by_cases hi : i < 8
    · rw [ref_bit a b c _ h0 h1 h2 (by omega), if_pos (by omega), Nat.zero_add]; simp [hi]
    · rw [high_bit (b := 8) h0 (by omega)]; simp [hi]
  · by_cases hi : i < 8
    · rw [ref_bit a b c _ h0 h1 h2 (by omega), if_neg (by omega), if_pos (by omega), Nat.add_sub_cancel_left]; simp [hi]
    · rw [high_bit (b := 8) h1 (by omega)]; simp [hi]
  · by_cases hi : i < 32
    · rw [ref_bit a b c _ h0 h1 h2 (by omega), if_neg (by omega), if_neg (by omega), if_pos (by omega), Nat.add_sub_cancel_left]; simp [hi]
    · rw [high_bit (b := 32) h2 (by omega)]; simp [hi]
theorem to_of (a b c : Nat) (h0 : a < 256) (h1 : b < 256) (h2 : c < 4294967296) : Tri En 15 [.int .u64 (refN a b c)] [] (.tuple [refI a b c, .bl true]) [] := by
  obtain ⟨e0, e1, e2⟩ := get_ref a b c h0 h1 h2
  have := to_yes (refN a b c) (refN_lt a b c) (by rw [e0, e1, e2])
  rwa [e0, e1, e2] at this
theorem ref_nat {wk sl tg : Int} (h : (0 ≤ wk ∧ wk < 256) ∧ (0 ≤ sl ∧ sl < 256) ∧ 0 ≤ tg ∧ tg < 4294967296) : ∃ a b c : Nat, wk = a ∧ sl = b ∧ tg = c ∧ a < 256 ∧ b < 256 ∧ c < 4294967296 := ⟨wk.toNat, sl.toNat, tg.toNat, by omega, by omega, by omega, by omega, by omega, by omega⟩
/-- A word is the reference's to a worker's slot, by whatever tag. -/
def hitN (wk sl : Int) (w : Nat) : Bool := decide (refN (getN w 0 8) (getN w 8 8) (getN w 16 32) = w) && decide ((getN w 0 8 : Int) = wk) && decide ((getN w 8 8 : Int) = sl)
theorem hit_ref (wk sl tg : Nat) (h0 : wk < 256) (h1 : sl < 256) (h2 : tg < 4294967296) (w : Nat) : (hitN wk sl w = true ∧ getN w 16 32 = tg) ↔ w = refN wk sl tg := by
  unfold hitN
  constructor
  · rintro ⟨h, rfl⟩
    simp only [Bool.and_eq_true, decide_eq_true_eq] at h
    obtain ⟨⟨h3, h4⟩, h5⟩ := h
    have h4 : getN w 0 8 = wk := by omega
    have h5 : getN w 8 8 = sl := by omega
    rw [h4, h5] at h3
    exact h3.symm
  · rintro rfl
    obtain ⟨e0, e1, e2⟩ := get_ref wk sl tg h0 h1 h2
    rw [e0, e1, e2]
    simp
theorem hit_zero (wk sl : Int) : hitN wk sl 0 = false := by
  unfold hitN
  have : refN (getN 0 0 8) (getN 0 8 8) (getN 0 16 32) ≠ 0 := by
    intro h
    have := ref_bit (getN 0 0 8) (getN 0 8 8) (getN 0 16 32) 63 (getN_lt 0 0 (b := 8)) (getN_lt 0 8 (b := 8)) (getN_lt 0 16 (b := 32)) (by omega)
    rw [h] at this
    simp at this
  simp [this]
def hitsU (wk sl : Int) (used : List Int) (x : Int) : List Int := if hitN wk sl x.toNat = true then used ++ [(getN x.toNat 16 32 : Int)] else used
theorem hitsU_len (wk sl : Int) (used : List Int) (x : Int) : (hitsU wk sl used x).length ≤ used.length + 1 := by
  unfold hitsU; split <;> simp
/-- The tags that are used among words. -/
def hits (wk sl : Int) (ws : List Int) : List Int := ws.foldl (hitsU wk sl) []
theorem hits_snoc (wk sl : Int) (ws : List Int) (x : Int) : hits wk sl (ws ++ [x]) = hitsU wk sl (hits wk sl ws) x := by simp [hits]
theorem hits_mem (wk sl : Int) (z : Int) : ∀ (ws : List Int), z ∈ hits wk sl ws ↔ ∃ x ∈ ws, hitN wk sl x.toNat = true ∧ (getN x.toNat 16 32 : Int) = z := by
  have key : ∀ (ws u : List Int), z ∈ ws.foldl (hitsU wk sl) u ↔ z ∈ u ∨ ∃ x ∈ ws, hitN wk sl x.toNat = true ∧ (getN x.toNat 16 32 : Int) = z := by
    intro ws
    induction ws with
    | nil => intro u; simp
    | cons x ws ih =>
      intro u
      rw [List.foldl_cons, ih]
      unfold hitsU
      by_cases h : hitN wk sl x.toNat = true
      · rw [if_pos h]
        constructor
        · rintro (h1 | ⟨y, h1, h2⟩)
          · rcases List.mem_append.1 h1 with h1 | h1
            · exact .inl h1
            · exact .inr ⟨x, by simp, h, (List.mem_singleton.1 h1).symm⟩
          · exact .inr ⟨y, by simp [h1], h2⟩
        · rintro (h1 | ⟨y, h1, h2, h3⟩)
          · exact .inl (by simp [h1])
          · rcases List.mem_cons.1 h1 with rfl | h1
            · exact .inl (by simp [h3])
            · exact .inr ⟨y, h1, h2, h3⟩
      · rw [if_neg h]
        constructor
        · rintro (h1 | ⟨y, h1, h2⟩)
          · exact .inl h1
          · exact .inr ⟨y, by simp [h1], h2⟩
        · rintro (h1 | ⟨y, h1, h2, h3⟩)
          · exact .inl h1
          · rcases List.mem_cons.1 h1 with rfl | h1
            · exact absurd h2 h
            · exact .inr ⟨y, h1, h2, h3⟩
  intro ws
  rw [hits, key]; simp
theorem hits_len (wk sl : Int) : ∀ (ws : List Int), (hits wk sl ws).length ≤ ws.length := by
  have key : ∀ (ws u : List Int), (ws.foldl (hitsU wk sl) u).length ≤ u.length + ws.length := by
    intro ws
    induction ws with
    | nil => intro u; simp
    | cons x ws ih =>
      intro u
      rw [List.foldl_cons]
      have h1 := ih (hitsU wk sl u x)
      have h2 := hitsU_len wk sl u x
      simp only [List.length_cons]; omega
  intro ws
  have := key ws []
  simpa [hits] using this
theorem hits_tag {wk sl : Int} {ws : List Int} {z : Int} (h : z ∈ hits wk sl ws) : 0 ≤ z ∧ z < 4294967296 := by
  obtain ⟨x, _, _, rfl⟩ := (hits_mem wk sl z ws).1 h
  have : getN x.toNat 16 32 < 4294967296 := getN_lt x.toNat 16 (b := 32)
  omega
end Go.Proofs.YtcicfbccdgkfhaaDoor.E
