/- HeartKeeps: what each step leaves. -/
import Derived.Test.YtdnhnglhdabkgaaDoorL11n
namespace Go.Proofs.YtdnhnglhdabkgaaDoor.E
set_option linter.unusedSimpArgs false
set_option linter.unusedVariables false
open Go
set_option maxRecDepth 100000

theorem and_bit0 {a b : Nat} (h : a &&& b = 0) (i : Nat) : (a.testBit i && b.testBit i) = false := by
  rw [← Nat.testBit_and, h, Nat.zero_testBit]
theorem or_bits {a b z : Nat} (h : a ||| b = z) (i : Nat) : (a.testBit i || b.testBit i) = z.testBit i := by
  rw [← Nat.testBit_or, h]
/-- Blocks that are granted. -/
theorem keep_grant {m o z s : Nat} (hm : m < 18446744073709551616) (ho : o < 18446744073709551616) (hz : z < 18446744073709551616) (hs : s < 18446744073709551616) (h1 : m &&& o = 0) (h2 : m ||| o = z) (h3 : subM s m) : (m - s) &&& (o ||| s) = 0 ∧ (m - s) ||| (o ||| s) = z ∧ o &&& s = 0 := by
  rw [← (not_sub hs hm h3).1]
  refine ⟨bit_ext (by rw [pow64]; exact and_lt64 _ _ (andNotN_lt ..)) (by rw [pow64]; omega) fun i hi => ?_, bit_ext (by rw [pow64]; exact or_lt64 (andNotN_lt ..) (or_lt64 ho hs)) (by rw [pow64]; exact hz) fun i hi => ?_, bit_ext (by rw [pow64]; exact and_lt64 _ _ ho) (by rw [pow64]; omega) fun i hi => ?_⟩
  all_goals
    have b1 := and_bit0 h1 i
    have b2 := or_bits h2 i
    have b3 := h3 i hi
    simp only [Nat.testBit_and, Nat.testBit_or, andNotN_bit _ _ hi, Nat.zero_testBit, ← b2]
    revert b1 b3
    cases m.testBit i <;> cases o.testBit i <;> cases s.testBit i <;> simp
/-- Blocks that come back. -/
theorem keep_back {b O z y : Nat} (hb : b < 18446744073709551616) (ho : O < 18446744073709551616) (hz : z < 18446744073709551616) (hy : y < 18446744073709551616) (h1 : b &&& O = 0) (h2 : b ||| O = z) (h3 : subM y O) : subM y z ∧ y &&& b = 0 ∧ (b ||| y = z → andNotN O y = 0) ∧ (b ||| y) &&& andNotN O y = 0 ∧ (b ||| y) ||| andNotN O y = z ∧ (andNotN O y = 0 → b ||| y = z) := by
  have key : ∀ i, i < 64 → (b.testBit i && O.testBit i) = false ∧ (b.testBit i || O.testBit i) = z.testBit i ∧ (y.testBit i = true → O.testBit i = true) := fun i hi => ⟨and_bit0 h1 i, or_bits h2 i, h3 i hi⟩
  refine ⟨fun i hi e => ?_, bit_ext (by rw [pow64]; exact and_lt64 _ _ hy) (by rw [pow64]; omega) fun i hi => ?_, fun hh => bit_ext (by rw [pow64]; exact andNotN_lt ..) (by rw [pow64]; omega) fun i hi => ?_, bit_ext (by rw [pow64]; exact and_lt64 _ _ (or_lt64 hb hy)) (by rw [pow64]; omega) fun i hi => ?_, bit_ext (by rw [pow64]; exact or_lt64 (or_lt64 hb hy) (andNotN_lt ..)) (by rw [pow64]; exact hz) fun i hi => ?_, fun hh => bit_ext (by rw [pow64]; exact or_lt64 hb hy) (by rw [pow64]; exact hz) fun i hi => ?_⟩
  · obtain ⟨b1, b2, b3⟩ := key i hi
    rw [← b2, b3 e]; simp
  · obtain ⟨b1, b2, b3⟩ := key i hi
    rw [Nat.testBit_and, Nat.zero_testBit]
    revert b1 b3
    cases b.testBit i <;> cases O.testBit i <;> cases y.testBit i <;> simp
  · obtain ⟨b1, b2, b3⟩ := key i hi
    have b4 := or_bits hh i
    rw [andNotN_bit _ _ hi, Nat.zero_testBit]
    rw [← b2] at b4
    revert b1 b3 b4
    cases b.testBit i <;> cases O.testBit i <;> cases y.testBit i <;> simp
  · obtain ⟨b1, b2, b3⟩ := key i hi
    rw [Nat.testBit_and, Nat.testBit_or, andNotN_bit _ _ hi, Nat.zero_testBit]
    revert b1 b3
    cases b.testBit i <;> cases O.testBit i <;> cases y.testBit i <;> simp
  · obtain ⟨b1, b2, b3⟩ := key i hi
    rw [Nat.testBit_or, Nat.testBit_or, andNotN_bit _ _ hi, ← b2]
    revert b1 b3
    cases b.testBit i <;> cases O.testBit i <;> cases y.testBit i <;> simp
  · obtain ⟨b1, b2, b3⟩ := key i hi
    have b4 : (andNotN O y).testBit i = false := by rw [hh, Nat.zero_testBit]
    rw [andNotN_bit _ _ hi] at b4
    rw [Nat.testBit_or, ← b2]
    revert b1 b3 b4
    cases b.testBit i <;> cases O.testBit i <;> cases y.testBit i <;> simp
namespace KInv
variable {c : Cnf} {n : Nat} {f : SupF} {o r : Nat → Nat}
theorem zero (c : Cnf) (n : Nat) : KInv c n (fun _ => (0, 0, 0)) (fun _ => 0) (fun _ => 0) := fun _ _ => .free rfl rfl rfl
theorem upd (h : KInv c n f o r) {i : Nat} {s : SupT} {x y : Nat} (hs : KOk c s x y) (hr : y = r i) : KInv c n (updS f i s) (updN o i x) r := fun j hj => by
  unfold updS updN
  by_cases e : j = i
  · subst e; rw [if_pos rfl, if_pos rfl, ← hr]; exact hs
  · rw [if_neg e, if_neg e]; exact h j hj
theorem refill (hc : c.Ok) (h : KInv c n f o r) (hI : HInv c n f) {cl i m : Nat} (hcl : cl < c.cl.length) (hr : refF c n f cl = some (i, m)) : KInv c n (updS f i (1, cl, m - leastN m c.b)) (updN o i (o i ||| leastN m c.b)) r ∧ o i &&& leastN m c.b = 0 ∧ o i < 18446744073709551616 ∧ i < n ∧ leastN m c.b ≠ 0 := by
  obtain ⟨h1, h2, h3, h4, h5⟩ := refF_ok hc hI hcl hr
  have hne := least_ne h4 h3 hc.b0
  have key : m &&& o i = 0 ∧ m ||| o i = allN c cl ∧ o i < 18446744073709551616 ∧ r i = 0 := by
    rcases h i h1 with ⟨e, e1, e2⟩ | ⟨a, m', e, ha, q1, q2, q3, q4, q5, e2⟩ | ⟨a, e, _⟩ | ⟨e, _⟩
    · rcases h2 with e3 | ⟨e3, e4⟩
      · rw [e3] at e; simp at e
      · rw [e1, e4]; simp [e2]
    · rcases h2 with e3 | ⟨e3, e4⟩
      · rw [e3] at e
        simp only [Prod.mk.injEq, true_and] at e
        obtain ⟨ea, em⟩ := e
        subst ea em
        exact ⟨q1, q2, q4, e2⟩
      · rw [e3] at e; simp at e
    · rcases h2 with e3 | ⟨e3, _⟩ <;> rw [e3] at e <;> simp at e
    · rcases h2 with e3 | ⟨e3, _⟩ <;> rw [e3] at e <;> simp at e
  obtain ⟨k1, k2, k3, k4⟩ := key
  have hs := leastN_lt m c.b
  obtain ⟨g1, g2, g3⟩ := keep_grant h4 k3 (allN_lt c cl) hs k1 k2 (least_sub m c.b)
  refine ⟨h.upd (.blk cl _ rfl hcl g1 g2 ?_ (or_lt64 k3 hs) (by omega) rfl) k4.symm, g3, k3, h1, hne⟩
  intro e0
  have e1 : leastN m c.b = 0 := bit_ext (by rw [pow64]; exact hs) (by rw [pow64]; omega) fun j _ => by
    have := congrArg (Nat.testBit · j) e0
    simp only [Nat.testBit_or, Nat.zero_testBit, Bool.or_eq_false_iff] at this
    rw [Nat.zero_testBit]; exact this.2
  exact hne e1
theorem take (h : KInv c n f o r) {i q : Nat} (hq : 1 ≤ q) (hq2 : q ≤ 64) (hr : rowP n f q i) : KInv c n (runF f i q q) o (updN r i q) ∧ r i = 0 := by
  have fr : ∀ j, i ≤ j → j < i + q → o j = 0 ∧ r j = 0 := fun j h1 h2 => by
    have h3 := hr.2 (j - i) (by omega)
    rw [show i + (j - i) = j by omega] at h3
    have := hr.1
    rcases h j (by omega) with ⟨e, e1, e2⟩ | ⟨a, m', e, _⟩ | ⟨a, e, _⟩ | ⟨e, _⟩
    · exact ⟨e1, e2⟩
    all_goals rw [e] at h3; simp at h3
  refine ⟨fun j hj => ?_, (fr i (by omega) (by omega)).2⟩
  unfold runF updN
  by_cases e : j = i
  · subst e; rw [if_pos rfl, if_pos rfl]; exact .run q rfl (fr j (by omega) (by omega)).1 rfl hq hq2
  · rw [if_neg e, if_neg e]
    by_cases e2 : i < j ∧ j < i + q
    · rw [if_pos e2]; obtain ⟨h1, h2⟩ := fr j (by omega) e2.2; exact .other rfl h1 h2
    · rw [if_neg e2]; exact h j hj
theorem give (h : KInv c n f o r) (hI : HInv c n f) {i a : Nat} (hi : i < n) (hf : f i = (2, a, 0)) : KInv c n (giveF f i a) o (updN r i 0) := fun j hj => by
  have h3 : i + a ≤ n ∧ ∀ k, i < k → k < i + a → f k = (3, 0, 0) := by
    rcases hI i hi with e1 | ⟨b, m, e1, _⟩ | ⟨b, e1, p1, p2, p3⟩ | e1
    · rw [hf] at e1; simp at e1
    · rw [hf] at e1; simp at e1
    · rw [hf] at e1
      obtain rfl : a = b := by simpa using e1
      exact ⟨p2, p3⟩
    · rw [hf] at e1; simp at e1
  unfold giveF updN
  by_cases e2 : i ≤ j ∧ j < i + a
  · rw [if_pos e2]
    by_cases e : j = i
    · subst e; rw [if_pos rfl]
      rcases h j hj with ⟨q, _⟩ | ⟨_, _, q, _⟩ | ⟨b, q, q1, _⟩ | ⟨q, _⟩
      · rw [hf] at q; simp at q
      · rw [hf] at q; simp at q
      · exact .free rfl q1 rfl
      · rw [hf] at q; simp at q
    · rw [if_neg e]
      have q0 := h3.2 j (by omega) e2.2
      rcases h j hj with ⟨q, _⟩ | ⟨_, _, q, _⟩ | ⟨b, q, q1, _⟩ | ⟨q, q1, q2⟩
      · rw [q0] at q; simp at q
      · rw [q0] at q; simp at q
      · rw [q0] at q; simp at q
      · exact .free rfl q1 q2
  · rw [if_neg e2]
    by_cases e : j = i
    · subst e
      rcases h j hj with ⟨q, _⟩ | ⟨_, _, q, _⟩ | ⟨b, q, q1, q2, q3, _⟩ | ⟨q, _⟩
      · rw [hf] at q; simp at q
      · rw [hf] at q; simp at q
      · rw [hf] at q
        obtain rfl : a = b := by simpa using q
        omega
      · rw [hf] at q; simp at q
    · rw [if_neg e]; exact h j hj
end KInv
end Go.Proofs.YtdnhnglhdabkgaaDoor.E
