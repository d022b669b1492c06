/- Superblocks in plain: what they are, the words that say so, and what each ask makes of them. -/
import Derived.Test.YtcicfbccdgkfhaaDoorPcap
import Derived.Test.YtcicfbccdgkfhaaDoorPmaskr
import Derived.Test.YtcicfbccdgkfhaaDoorPmem
namespace Go.Proofs.YtcicfbccdgkfhaaDoor.E
set_option linter.unusedSimpArgs false
set_option linter.unusedVariables false
open Go
set_option maxRecDepth 100000

/-- A superblock: its kind (0 free, 1 of a class, 2 the first of so many, 3 another one), its number, its free blocks. -/
abbrev SupT := Nat × Nat × Nat
abbrev SupF := Nat → SupT
def hwN (k n : Nat) : Nat := putN (putN 0 k 0 8) n 8 8
theorem hwN_lt (k n : Nat) : hwN k n < 18446744073709551616 := putN_lt ..
theorem hw_get (k n : Nat) (hk : k < 256) (hn : n < 256) : getN (hwN k n) 0 8 = k ∧ getN (hwN k n) 8 8 = n := by
  have hb : ∀ {x b i : Nat}, x < 2 ^ b → b ≤ i → x.testBit i = false := fun h hi => Nat.testBit_lt_two_pow (Nat.lt_of_lt_of_le h (Nat.pow_le_pow_right (by omega) hi))
  refine ⟨?_, ?_⟩ <;> (apply Nat.eq_of_testBit_eq; intro i; rw [getN_bit, hwN])
  · by_cases hi : i < 8
    · rw [putN_bit _ _ _ _ _ (by omega) hn, if_neg (by omega), putN_bit _ _ _ _ _ (by omega) hk, if_pos (by omega)]; simp [hi]
    · rw [hb (b := 8) hk (by omega)]; simp [hi]
  · by_cases hi : i < 8
    · rw [putN_bit _ _ _ _ _ (by omega) hn, if_pos (by omega), Nat.add_sub_cancel_left]; simp [hi]
    · rw [hb (b := 8) hn (by omega)]; simp [hi]
theorem hw_zero : hwN 0 0 = 0 := by decide
/-- The words of n superblocks. -/
def hW (n : Nat) (f : SupF) : List Int := tabW (2 * n) fun i => if i % 2 = 0 then (hwN (f (i / 2)).1 (f (i / 2)).2.1 : Int) else ((f (i / 2)).2.2 : Int)
@[simp] theorem hW_len (n : Nat) (f : SupF) : (hW n f).length = 2 * n := tabW_len ..
theorem hW_0 {n : Nat} {f : SupF} {i : Nat} (h : i < n) : (hW n f).getD (2 * i) 0 = (hwN (f i).1 (f i).2.1 : Int) := by
  rw [hW, tabW_get (by omega), if_pos (by omega), show 2 * i / 2 = i by omega]
theorem hW_1 {n : Nat} {f : SupF} {i : Nat} (h : i < n) : (hW n f).getD (2 * i + 1) 0 = ((f i).2.2 : Int) := by
  rw [hW, tabW_get (by omega), if_neg (by omega), show (2 * i + 1) / 2 = i by omega]
def updS (f : SupF) (i : Nat) (x : SupT) : SupF := fun j => if j = i then x else f j
theorem hW_set (n : Nat) (f : SupF) (i k m x : Nat) : ((hW n f).set (2 * i) (hwN k m : Int)).set (2 * i + 1) (x : Int) = hW n (updS f i (k, m, x)) := by
  rw [hW, tabW_set]
  refine tabW_set' fun j hj => ?_
  unfold updS
  by_cases e : j / 2 = i
  · rw [if_pos e]
    by_cases h : j % 2 = 0
    · rw [if_neg (by omega), if_pos (by omega), if_pos h]
    · rw [if_pos (by omega), if_neg h]
  · rw [if_neg e, if_neg (by omega), if_neg (by omega)]
theorem hW_congr {n : Nat} {f g : SupF} (h : ∀ i, i < n → f i = g i) : hW n f = hW n g := tabW_congr fun i hi => by rw [h (i / 2) (by omega)]
/-- The document's list. -/
abbrev SupK : K := .pair (.int .i64) (.pair (.int .i64) (.int .u64))
abbrev RSup := Int × Int × Int
def rsup (s : SupT) : RSup := (s.1, s.2.1, s.2.2)
def rL (n : Nat) (f : SupF) : List RSup := (List.range n).map fun i => rsup (f i)
@[simp] theorem rL_len (n : Nat) (f : SupF) : (rL n f).length = n := by simp [rL]
theorem rL_get {n : Nat} {f : SupF} {i : Nat} (h : i < n) : (rL n f).getD i (0, 0, 0) = rsup (f i) := by simp [rL, List.getD, h]
theorem rL_set (n : Nat) (f : SupF) (i : Nat) (x : SupT) : (rL n f).set i (rsup x) = rL n (updS f i x) := by
  refine List.ext_getElem? fun j => ?_
  rw [List.getElem?_set]
  simp only [rL, List.getElem?_map, List.length_map, List.length_range, updS]
  by_cases h : j < n
  · rw [List.getElem?_range h]
    by_cases e : i = j
    · subst e; simp [h]
    · have e' : ¬ j = i := fun he => e he.symm
      rw [if_neg e]; simp [e']
  · have : (List.range n)[j]? = none := by simp; omega
    rw [this]
    split
    · split
      · omega
      · rfl
    · rfl
theorem rL_congr {n : Nat} {f g : SupF} (h : ∀ i, i < n → f i = g i) : rL n f = rL n g := List.map_congr_left fun i hi => by rw [h i (by simpa using hi)]
/-! Which superblock is asked. -/
def ffree (f : SupF) : Nat → Int
  | 0 => -1
  | k + 1 => if 0 ≤ ffree f k then ffree f k else if (f k).1 = 0 then k else -1
def fcls (f : SupF) (cl : Nat) : Nat → Int
  | 0 => -1
  | k + 1 => if 0 ≤ fcls f cl k then fcls f cl k else if (f k).1 = 1 ∧ (f k).2.1 = cl ∧ (f k).2.2 ≠ 0 then k else -1
theorem ffree_spec (f : SupF) : ∀ k, (ffree f k = -1 ∧ ∀ i, i < k → (f i).1 ≠ 0) ∨ ∃ i : Nat, ffree f k = i ∧ i < k ∧ (f i).1 = 0 ∧ ∀ j, j < i → (f j).1 ≠ 0
  | 0 => .inl ⟨rfl, fun i h => by omega⟩
  | k + 1 => by
    simp only [ffree]
    rcases ffree_spec f k with ⟨h1, h2⟩ | ⟨i, h1, h2, h3⟩
    · rw [h1, if_neg (by omega)]
      by_cases h : (f k).1 = 0
      · rw [if_pos h]; exact .inr ⟨k, rfl, by omega, h, fun j hj => h2 j hj⟩
      · rw [if_neg h]
        refine .inl ⟨rfl, fun i hi => ?_⟩
        by_cases e : i = k
        · subst e; exact h
        · exact h2 i (by omega)
    · rw [h1, if_pos (by omega)]; exact .inr ⟨i, rfl, by omega, h3⟩
theorem fcls_spec (f : SupF) (cl : Nat) : ∀ k, (fcls f cl k = -1 ∧ ∀ i, i < k → ¬ ((f i).1 = 1 ∧ (f i).2.1 = cl ∧ (f i).2.2 ≠ 0)) ∨ ∃ i : Nat, fcls f cl k = i ∧ i < k ∧ ((f i).1 = 1 ∧ (f i).2.1 = cl ∧ (f i).2.2 ≠ 0) ∧ ∀ j, j < i → ¬ ((f j).1 = 1 ∧ (f j).2.1 = cl ∧ (f j).2.2 ≠ 0)
  | 0 => .inl ⟨rfl, fun i h => by omega⟩
  | k + 1 => by
    simp only [fcls]
    rcases fcls_spec f cl k with ⟨h1, h2⟩ | ⟨i, h1, h2, h3⟩
    · rw [h1, if_neg (by omega)]
      by_cases h : (f k).1 = 1 ∧ (f k).2.1 = cl ∧ (f k).2.2 ≠ 0
      · rw [if_pos h]; exact .inr ⟨k, rfl, by omega, h, fun j hj => h2 j hj⟩
      · rw [if_neg h]
        refine .inl ⟨rfl, fun i hi => ?_⟩
        by_cases e : i = k
        · subst e; exact h
        · exact h2 i (by omega)
    · rw [h1, if_pos (by omega)]; exact .inr ⟨i, rfl, by omega, h3⟩
theorem fcls_up (f : SupF) (cl : Nat) {k i : Nat} (h : fcls f cl k = i) : ∀ j, fcls f cl (k + j) = i
  | 0 => h
  | j + 1 => by
    have := fcls_up f cl h j
    show fcls f cl (k + j + 1) = _
    simp only [fcls]
    rw [this, if_pos (by omega)]
theorem ffree_up (f : SupF) {k i : Nat} (h : ffree f k = i) : ∀ j, ffree f (k + j) = i
  | 0 => h
  | j + 1 => by
    have := ffree_up f h j
    show ffree f (k + j + 1) = _
    simp only [ffree]
    rw [this, if_pos (by omega)]
/-! Sets of blocks. -/
theorem or_disj {x y : Nat} (hx : x < 18446744073709551616) (hy : y < 18446744073709551616) (h : x &&& y = 0) : x ||| y = x + y := by
  have hx' : x < 2 ^ 65 := by rw [show (2 : Nat) ^ 65 = 36893488147419103232 by decide]; omega
  have hy' : y < 2 ^ 65 := by rw [show (2 : Nat) ^ 65 = 36893488147419103232 by decide]; omega
  have h1 : (BitVec.ofNat 65 x &&& BitVec.ofNat 65 y) = 0#65 := by
    apply BitVec.eq_of_toNat_eq
    rw [BitVec.toNat_and, BitVec.toNat_ofNat, BitVec.toNat_ofNat, Nat.mod_eq_of_lt hx', Nat.mod_eq_of_lt hy', h]; rfl
  have h2 := congrArg BitVec.toNat (BitVec.add_eq_or_of_and_eq_zero _ _ h1)
  rw [BitVec.toNat_add, BitVec.toNat_or, BitVec.toNat_ofNat, BitVec.toNat_ofNat, Nat.mod_eq_of_lt hx', Nat.mod_eq_of_lt hy', Nat.mod_eq_of_lt] at h2
  · exact h2.symm
  · rw [show (2 : Nat) ^ 65 = 36893488147419103232 by decide]; omega
def subM (a b : Nat) : Prop := ∀ i, i < 64 → a.testBit i = true → b.testBit i = true
theorem subM_and {a b : Nat} (ha : a < 18446744073709551616) : subM a b ↔ a &&& b = a := by
  constructor
  · intro h
    refine bit_ext (by rw [pow64]; exact and_lt64 a b ha) (by rw [pow64]; exact ha) fun i hi => ?_
    rw [Nat.testBit_and]
    cases e : a.testBit i
    · rfl
    · rw [h i hi e]; rfl
  · intro h i hi e
    rw [← h, Nat.testBit_and] at e
    simp only [Bool.and_eq_true] at e
    exact e.2
theorem least_sub (m : Nat) (n : Int) : subM (leastN m n) m := fun i _ h => by
  unfold leastN at h
  rw [S_bit] at h
  exact (mem_bitsL.1 (List.take_subset _ _ (of_decide_eq_true h))).2
theorem not_and (a m : Nat) (ha : a < 18446744073709551616) : a &&& andNotN m a = 0 := by
  refine bit_ext (by rw [pow64]; exact and_lt64 _ _ ha) (by rw [pow64]; omega) fun i hi => ?_
  rw [Nat.testBit_and, andNotN_bit _ _ hi]
  cases a.testBit i <;> simp
theorem not_or {a m : Nat} (ha : a < 18446744073709551616) (hm : m < 18446744073709551616) (h : subM a m) : a ||| andNotN m a = m := by
  refine bit_ext (by rw [pow64]; exact or_lt64 ha (andNotN_lt _ _)) (by rw [pow64]; exact hm) fun i hi => ?_
  rw [Nat.testBit_or, andNotN_bit _ _ hi]
  cases e : a.testBit i
  · simp
  · rw [h i hi e]; rfl
theorem not_sub {a m : Nat} (ha : a < 18446744073709551616) (hm : m < 18446744073709551616) (h : subM a m) : andNotN m a = m - a ∧ a ≤ m := by
  have h1 := not_or ha hm h
  rw [or_disj ha (andNotN_lt _ _) (not_and a m ha)] at h1
  omega
theorem least_bits (m : Nat) (n : Int) : bitsL (leastN m n) = (bitsL m).take n.toNat := by
  unfold leastN
  refine L_S ((L_sorted m).sublist (List.take_sublist _ _)) fun i hi => ?_
  exact bits_lt (List.take_subset _ _ hi)
theorem least_ne {m : Nat} (hm : m < 18446744073709551616) (h : m ≠ 0) {n : Int} (hn : 1 ≤ n) : leastN m n ≠ 0 := by
  intro e
  have h1 := least_bits m n
  rw [e, L_zero] at h1
  have h2 := congrArg List.length h1
  rw [List.length_take] at h2
  simp only [List.length_nil] at h2
  exact h (bits_zero hm (by omega))
theorem least_len (m : Nat) {n : Int} (hn : 0 ≤ n) : ((bitsL (leastN m n)).length : Int) ≤ n := by
  rw [least_bits, List.length_take]; omega
theorem low_bit (k : Nat) (hk : k ≤ 64) (i : Nat) : (lowN (k : Int)).testBit i = decide (i < k) := by
  unfold lowN
  rw [Int.toNat_natCast, Nat.min_eq_left hk, Nat.testBit_two_pow_sub_one]
theorem low_ne {k : Nat} (hk : 1 ≤ k) (hk2 : k ≤ 64) : lowN (k : Int) ≠ 0 := fun h => by
  have := low_bit k hk2 0
  rw [h] at this
  simp at this; omega
/-! What is so, always. -/
def allN (c : Cnf) (n : Nat) : Nat := lowN (capN c n)
theorem allN_lt (c : Cnf) (n : Nat) : allN c n < 18446744073709551616 := lowN_lt _
theorem allN_ne {c : Cnf} (h : c.Ok) {n : Nat} (hn : n < c.cl.length) : allN c n ≠ 0 := by
  obtain ⟨z, _, _, _, _, e, h1, h2⟩ := cap_eq h hn
  unfold allN
  rw [e]; exact low_ne (by omega) h2
inductive SupOk (c : Cnf) (n : Nat) (f : SupF) (i : Nat) : Prop
  | free (h : f i = (0, 0, 0))
  | blk (a m : Nat) (h : f i = (1, a, m)) (ha : a < c.cl.length) (hs : subM m (allN c a)) (hne : m ≠ allN c a) (hm : m < 18446744073709551616)
  | run (a : Nat) (h : f i = (2, a, 0)) (h1 : 1 ≤ a) (h2 : i + a ≤ n) (h3 : ∀ j, i < j → j < i + a → f j = (3, 0, 0))
  | other (h : f i = (3, 0, 0))
def HInv (c : Cnf) (n : Nat) (f : SupF) : Prop := ∀ i, i < n → SupOk c n f i
theorem HInv.bnd {c : Cnf} (hc : c.Ok) {n : Nat} {f : SupF} (hn : n ≤ 64) (h : HInv c n f) {i : Nat} (hi : i < n) : (f i).1 < 256 ∧ (f i).2.1 < 256 ∧ (f i).2.2 < 18446744073709551616 := by
  have := hc.l1
  rcases h i hi with e | ⟨a, m, e, ha, _, _, hm⟩ | ⟨a, e, h1, h2, _⟩ | e <;> rw [e] <;> simp only <;> omega
theorem HInv.zero (c : Cnf) (n : Nat) : HInv c n fun _ => (0, 0, 0) := fun _ _ => .free rfl
/-- A superblock that is free, or of a class, becomes another one of these. -/
theorem HInv.set {c : Cnf} {n : Nat} {f : SupF} (h : HInv c n f) {i : Nat} (hi : (f i).1 = 0 ∨ (f i).1 = 1) {x : SupT} (hx : x = (0, 0, 0) ∨ ∃ a m, x = (1, a, m) ∧ a < c.cl.length ∧ subM m (allN c a) ∧ m ≠ allN c a ∧ m < 18446744073709551616) : HInv c n (updS f i x) := fun j hj => by
  by_cases e : j = i
  · subst e
    have e' : updS f j x j = x := if_pos rfl
    rcases hx with hx | ⟨a, m, h1, h2, h3, h4, h5⟩
    · exact .free (e'.trans hx)
    · exact .blk a m (e'.trans h1) h2 h3 h4 h5
  · have e' : updS f i x j = f j := if_neg e
    rcases h j hj with e1 | ⟨a, m, e1, ha, h1, h2, hm⟩ | ⟨a, e1, h1, h2, h3⟩ | e1
    · exact .free (e'.trans e1)
    · exact .blk a m (e'.trans e1) ha h1 h2 hm
    · refine .run a (e'.trans e1) h1 h2 fun k k1 k2 => ?_
      have hk : k ≠ i := by
        rintro rfl
        rw [h3 k k1 k2] at hi
        simp at hi
      exact (if_neg hk).trans (h3 k k1 k2)
    · exact .other (e'.trans e1)
/-- A run is taken, given back: the first k of its superblocks. -/
def runF (f : SupF) (i n k : Nat) : SupF := fun j => if j = i then (2, n, 0) else if i < j ∧ j < i + k then (3, 0, 0) else f j
def giveF (f : SupF) (i k : Nat) : SupF := fun j => if i ≤ j ∧ j < i + k then (0, 0, 0) else f j
theorem runF_1 (f : SupF) (i n : Nat) : updS f i (2, n, 0) = runF f i n 1 := by
  funext j; unfold updS runF
  by_cases e : j = i
  · rw [if_pos e, if_pos e]
  · rw [if_neg e, if_neg e, if_neg (by omega)]
theorem runF_step (f : SupF) (i n k : Nat) (hk : 1 ≤ k) : updS (runF f i n k) (i + k) (3, 0, 0) = runF f i n (k + 1) := by
  funext j; unfold updS runF
  by_cases e : j = i
  · subst e; rw [if_neg (by omega), if_pos rfl, if_pos rfl]
  · by_cases e2 : j = i + k
    · rw [if_pos e2, if_neg e, if_pos (by omega)]
    · rw [if_neg e2, if_neg e, if_neg e]
      by_cases e3 : i < j ∧ j < i + k
      · rw [if_pos e3, if_pos (by omega)]
      · rw [if_neg e3, if_neg (by omega)]
theorem giveF_0 (f : SupF) (i : Nat) : giveF f i 0 = f := by
  funext j; unfold giveF; rw [if_neg (by omega)]
theorem giveF_step (f : SupF) (i k : Nat) : updS (giveF f i k) (i + k) (0, 0, 0) = giveF f i (k + 1) := by
  funext j; unfold updS giveF
  by_cases e2 : j = i + k
  · rw [if_pos e2, if_pos (by omega)]
  · rw [if_neg e2]
    by_cases e3 : i ≤ j ∧ j < i + k
    · rw [if_pos e3, if_pos (by omega)]
    · rw [if_neg e3, if_neg (by omega)]
theorem HInv.run {c : Cnf} {n : Nat} {f : SupF} (h : HInv c n f) {i a : Nat} (h1 : 1 ≤ a) (h2 : i + a ≤ n) (hf : ∀ k, k < a → (f (i + k)).1 = 0) : HInv c n (runF f i a a) := fun j hj => by
  unfold runF
  by_cases e : j = i
  · subst e
    refine .run a (if_pos rfl) h1 h2 fun k k1 k2 => ?_
    rw [if_neg (by omega), if_pos ⟨k1, k2⟩]
  · by_cases e2 : i < j ∧ j < i + a
    · exact .other (by rw [if_neg e, if_pos e2])
    · have e' : (if j = i then ((2, a, 0) : SupT) else if i < j ∧ j < i + a then (3, 0, 0) else f j) = f j := by rw [if_neg e, if_neg e2]
      rcases h j hj with e1 | ⟨b, m, e1, ha, p1, p2, hm⟩ | ⟨b, e1, p1, p2, p3⟩ | e1
      · exact .free (e'.trans e1)
      · exact .blk b m (e'.trans e1) ha p1 p2 hm
      · refine .run b (e'.trans e1) p1 p2 fun k k1 k2 => ?_
        have hk : ¬ (i ≤ k ∧ k < i + a) := fun hk => by
          have := hf (k - i) (by omega)
          rw [show i + (k - i) = k by omega, p3 k k1 k2] at this
          simp at this
        rw [if_neg (by omega), if_neg (by omega)]; exact p3 k k1 k2
      · exact .other (e'.trans e1)
theorem HInv.give {c : Cnf} {n : Nat} {f : SupF} (h : HInv c n f) {i a : Nat} (hi : i < n) (hf : f i = (2, a, 0)) : HInv c n (giveF f i a) := fun j hj => by
  unfold giveF
  have h3 : ∀ k, i < k → k < i + a → f k = (3, 0, 0) := by
    rcases h i hi with e1 | ⟨b, m, e1, _⟩ | ⟨b, e1, p1, p2, p3⟩ | e1
    · rw [hf] at e1; simp at e1
    · rw [hf] at e1; simp at e1
    · rw [hf] at e1
      obtain rfl : a = b := by simpa using e1
      exact p3
    · rw [hf] at e1; simp at e1
  by_cases e2 : i ≤ j ∧ j < i + a
  · exact .free (if_pos e2)
  · have e' : (if i ≤ j ∧ j < i + a then ((0, 0, 0) : SupT) else f j) = f j := if_neg e2
    rcases h j hj with e1 | ⟨b, m, e1, ha, p1, p2, hm⟩ | ⟨b, e1, p1, p2, p3⟩ | e1
    · exact .free (e'.trans e1)
    · exact .blk b m (e'.trans e1) ha p1 p2 hm
    · refine .run b (e'.trans e1) p1 p2 fun k k1 k2 => ?_
      have hk : ¬ (i ≤ k ∧ k < i + a) := fun hk => by
        have q := p3 k k1 k2
        by_cases e4 : k = i
        · rw [e4, hf] at q; simp at q
        · have : ¬ (i < j ∧ j < i + a) := by omega
          have q2 := p3 i (by omega) (by omega)
          rw [hf] at q2; simp at q2
      rw [if_neg hk]; exact p3 k k1 k2
    · exact .other (e'.trans e1)
end Go.Proofs.YtcicfbccdgkfhaaDoor.E
