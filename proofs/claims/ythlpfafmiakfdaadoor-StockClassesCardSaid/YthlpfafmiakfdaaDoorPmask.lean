/- Package mask: sets of numbers as words; the contract of each function. -/
import Derived.Test.YthlpfafmiakfdaaDoorPword
import Derived.Test.YthlpfafmiakfdaaDoorPmaskn
namespace Go.Proofs.YthlpfafmiakfdaaDoor.E
set_option linter.unusedSimpArgs false
set_option linter.unusedVariables false
open Go
set_option maxRecDepth 100000

/-- The lowest numbers, so many. -/
def lowN (n : Int) : Nat := 2 ^ min n.toNat 64 - 1
def hasN (m : Nat) (n : Int) : Bool := decide (0 ≤ n ∧ n < 64) && m.testBit n.toNat
def withN (m : Nat) (n : Int) : Nat := if 0 ≤ n ∧ n ≤ 63 then m ||| 2 ^ n.toNat else m
def withoutN (m : Nat) (n : Int) : Nat := if 0 ≤ n ∧ n ≤ 63 then andNotN m (2 ^ n.toNat) else m
def firstN (m : Nat) : Nat := (bitsL m).headD 64
def leastN (m : Nat) (n : Int) : Nat := setS ((bitsL m).take n.toNat)
def intsL (l : List Nat) : List Int := List.map (fun i : Nat => (i : Int)) l
theorem intsL_len (l : List Nat) : (intsL l).length = l.length := by simp [intsL]
theorem lowN_lt (n : Int) : lowN n < 18446744073709551616 := by
  unfold lowN
  have := pow_le64 (b := min n.toNat 64) (by omega)
  omega
theorem withN_lt {m : Nat} (hm : m < 18446744073709551616) (n : Int) : withN m n < 18446744073709551616 := by
  unfold withN
  split
  · rename_i h
    rw [← pow64] at hm ⊢
    exact Nat.or_lt_two_pow hm (Nat.pow_lt_pow_right (by omega) (by omega))
  · exact hm
theorem withoutN_lt {m : Nat} (hm : m < 18446744073709551616) (n : Int) : withoutN m n < 18446744073709551616 := by
  unfold withoutN
  split
  · exact andNotN_lt _ _
  · exact hm
theorem leastN_lt (m : Nat) (n : Int) : leastN m n < 18446744073709551616 := by
  rw [← pow64]
  exact S_lt fun i hi => (mem_bitsL.1 (List.mem_of_mem_take hi)).1
theorem leastN_zero (m : Nat) {n : Int} (h : n ≤ 0) : leastN m n = 0 := by unfold leastN; rw [show n.toNat = 0 by omega]; rfl
theorem low_tri (n : Int) : Tri En 22 [.int .i64 n] [] (.int .u64 (lowN n)) [] := by
  refine Tri.of Tryd.func22 rfl Tryd.call22 rfl ?_
  by_cases h0 : n ≤ 0
  · have e : lowN n = 0 := by unfold lowN; rw [show n.toNat = 0 by omega]; rfl
    refine Goods.fin 2000 [.b true] mixed Tryd.func22 ?_
    show Yes _
    repeat' apply And.intro
    (all_goals first | rfl | assumption | trivial | omega | (simp [-List.getD_eq_getElem?_getD, e] <;> omega) | (simp (disch := omega) only [w64, wu64] <;> omega) | (simp (disch := omega) [-List.getD_eq_getElem?_getD, List.getD_cons_zero, List.getD_cons_succ, kCast_self, dfl_pair, dfl_int, w64, wu64, e] <;> omega) | (rw [Bool.eq_iff_iff]; simp (disch := omega) [-List.getD_eq_getElem?_getD, List.getD_cons_zero, List.getD_cons_succ, kCast_self, dfl_pair, dfl_int, w64, wu64, e] <;> omega) | (simp_all [-List.getD_eq_getElem?_getD] <;> omega))
  · by_cases h1 : 64 ≤ n
    · have e : lowN n = 18446744073709551615 := by unfold lowN; rw [show min n.toNat 64 = 64 by omega]
      refine Goods.fin 2000 [.b false, .b true] mixed Tryd.func22 ?_
      show Yes _
      repeat' apply And.intro
      (all_goals first | rfl | assumption | trivial | omega | (simp [-List.getD_eq_getElem?_getD, e] <;> omega) | (simp (disch := omega) only [w64, wu64] <;> omega) | (simp (disch := omega) [-List.getD_eq_getElem?_getD, List.getD_cons_zero, List.getD_cons_succ, kCast_self, dfl_pair, dfl_int, w64, wu64, e] <;> omega) | (rw [Bool.eq_iff_iff]; simp (disch := omega) [-List.getD_eq_getElem?_getD, List.getD_cons_zero, List.getD_cons_succ, kCast_self, dfl_pair, dfl_int, w64, wu64, e] <;> omega) | (simp_all [-List.getD_eq_getElem?_getD] <;> omega))
    · obtain ⟨b, rfl⟩ : ∃ b : Nat, n = b := ⟨n.toNat, by omega⟩
      have e := mask_eq (b := b) (by omega)
      have e2 : lowN (b : Int) = 2 ^ b - 1 := by unfold lowN; rw [Int.toNat_natCast, show min b 64 = b by omega]
      have e0 := sh_pos (a := b) (by omega)
      rw [← e2] at e
      refine Goods.fin 2000 [.b false, .b false] mixed Tryd.func22 ?_
      show Yes _
      repeat' apply And.intro
      (all_goals first | rfl | assumption | trivial | omega | (simp [-List.getD_eq_getElem?_getD] <;> omega) | (simp (disch := omega) only [w64, wu64] <;> omega) | (simp (disch := omega) [-List.getD_eq_getElem?_getD, List.getD_cons_zero, List.getD_cons_succ, kCast_self, dfl_pair, dfl_int, w64, wu64] <;> omega) | (rw [Bool.eq_iff_iff]; simp (disch := omega) [-List.getD_eq_getElem?_getD, List.getD_cons_zero, List.getD_cons_succ, kCast_self, dfl_pair, dfl_int, w64, wu64] <;> omega) | (simp_all [-List.getD_eq_getElem?_getD] <;> omega))
theorem bit1_eq (w : Nat) {a : Nat} (hw : w < 18446744073709551616) (ha : a ≤ 64) : (IntKind.u64.wrap (BitVec.ofInt IntKind.u64.bits ((w : Int).fdiv (2 ^ min (IntKind.u64.wrap (a : Int)).toNat IntKind.u64.bits)) &&& BitVec.ofInt IntKind.u64.bits 1).toNat == 1) = w.testBit a := by
  have h3 : w / 2 ^ a ≤ w := Nat.div_le_self _ _
  rw [shr_eq w ha, show (1 : Int) = ((1 : Nat) : Int) from rfl, and_eq _ _ (by omega) (by omega), Nat.and_one_is_mod, Nat.testBit_eq_decide_div_mod_eq]
  generalize w / 2 ^ a = y
  rw [Bool.eq_iff_iff]
  simp
  omega
theorem has_tri (m : Nat) (hm : m < 18446744073709551616) (n : Int) : Tri En 21 [.int .u64 m, .int .i64 n] [] (.bool (hasN m n)) [] := by
  refine Tri.of Tryd.func21 rfl Tryd.call21 rfl ?_
  by_cases h0 : 0 ≤ n
  · by_cases h1 : n < 64
    · obtain ⟨b, rfl⟩ : ∃ b : Nat, n = b := ⟨n.toNat, by omega⟩
      have e : hasN m b = m.testBit b := by unfold hasN; simp; omega
      have e1 := bit1_eq m (a := b) hm (by omega)
      have e0 := sh_pos (a := b) (by omega)
      rw [← e] at e1
      refine Goods.fin 2000 [.s 6 (some true) true true, .s 9 (some true) true true] mixed Tryd.func21 ?_
      show Yes _
      repeat' apply And.intro
      (all_goals first | rfl | assumption | trivial | omega | (simp [-List.getD_eq_getElem?_getD] <;> omega) | (simp (disch := omega) only [w64, wu64] <;> omega) | (simp (disch := omega) [-List.getD_eq_getElem?_getD, List.getD_cons_zero, List.getD_cons_succ, kCast_self, dfl_pair, dfl_int, w64, wu64] <;> omega) | (rw [Bool.eq_iff_iff]; simp (disch := omega) [-List.getD_eq_getElem?_getD, List.getD_cons_zero, List.getD_cons_succ, kCast_self, dfl_pair, dfl_int, w64, wu64] <;> omega) | (simp_all [-List.getD_eq_getElem?_getD] <;> omega))
    · have e : hasN m n = false := by unfold hasN; rw [decide_eq_false (by omega)]; rfl
      refine Goods.fin 2000 [.s 6 (some true) true true, .s 9 (some false) true true] mixed Tryd.func21 ?_
      show Yes _
      repeat' apply And.intro
      (all_goals first | rfl | assumption | trivial | omega | (simp [-List.getD_eq_getElem?_getD, e] <;> omega) | (simp (disch := omega) only [w64, wu64] <;> omega) | (simp (disch := omega) [-List.getD_eq_getElem?_getD, List.getD_cons_zero, List.getD_cons_succ, kCast_self, dfl_pair, dfl_int, w64, wu64, e] <;> omega) | (rw [Bool.eq_iff_iff]; simp (disch := omega) [-List.getD_eq_getElem?_getD, List.getD_cons_zero, List.getD_cons_succ, kCast_self, dfl_pair, dfl_int, w64, wu64, e] <;> omega) | (simp_all [-List.getD_eq_getElem?_getD] <;> omega))
  · have e : hasN m n = false := by unfold hasN; rw [decide_eq_false (by omega)]; rfl
    refine Goods.fin 2000 [.s 6 (some false) true true] mixed Tryd.func21 ?_
    show Yes _
    repeat' apply And.intro
    (all_goals first | rfl | assumption | trivial | omega | (simp [-List.getD_eq_getElem?_getD, e] <;> omega) | (simp (disch := omega) only [w64, wu64] <;> omega) | (simp (disch := omega) [-List.getD_eq_getElem?_getD, List.getD_cons_zero, List.getD_cons_succ, kCast_self, dfl_pair, dfl_int, w64, wu64, e] <;> omega) | (rw [Bool.eq_iff_iff]; simp (disch := omega) [-List.getD_eq_getElem?_getD, List.getD_cons_zero, List.getD_cons_succ, kCast_self, dfl_pair, dfl_int, w64, wu64, e] <;> omega) | (simp_all [-List.getD_eq_getElem?_getD] <;> omega))
theorem neg_eq {x : Nat} (h0 : x ≠ 0) (hx : x < 18446744073709551616) : IntKind.u64.wrap (0 - (x : Int)) = ((18446744073709551616 - x : Nat) : Int) := by
  show (0 - (x : Int)) % 18446744073709551616 = _
  omega
theorem lowest_eq {x t : Nat} (h0 : x ≠ 0) (hx : x < 18446744073709551616) (ht : x &&& (2 ^ 64 - x) = 2 ^ t) : IntKind.u64.wrap (BitVec.ofInt IntKind.u64.bits (x : Int) &&& BitVec.ofInt IntKind.u64.bits (IntKind.u64.wrap (0 - (x : Int)))).toNat = ((2 ^ t : Nat) : Int) := by
  rw [neg_eq h0 hx, and_eq _ _ hx (by omega), ← ht]
theorem clr_eq {x : Nat} (h0 : x ≠ 0) (hx : x < 18446744073709551616) : IntKind.u64.wrap (BitVec.ofInt IntKind.u64.bits (x : Int) &&& BitVec.ofInt IntKind.u64.bits (IntKind.u64.wrap ((x : Int) - 1))).toNat = ((x &&& (x - 1) : Nat) : Int) := by
  rw [wu64 (x := (x : Int) - 1) (by omega) (by omega), show (x : Int) - 1 = ((x - 1 : Nat) : Int) by omega, and_eq _ _ hx (by omega)]
theorem shr_lit (w a : Nat) (ha : a ≤ 64) : (w : Int).fdiv (2 ^ min ((a : Nat) : Int).toNat IntKind.u64.bits) = ((w / 2 ^ a : Nat) : Int) := by
  rw [Int.toNat_natCast, show min a IntKind.u64.bits = a from Nat.min_eq_left ha, Int.fdiv_eq_ediv_of_nonneg _ (Int.le_of_lt (Int.pow_pos (by omega)))]
  simp
theorem msk_lt (m : Nat) (hm : m < 256) : ∀ k, msk m k < 256 ^ k
  | 0 => by simp [msk]
  | k + 1 => by have := msk_lt m hm k; rw [msk, Nat.pow_succ]; omega
theorem ones_a (x k m : Nat) (hx : x < 18446744073709551616) (hk : k ≤ 64) (hm : 2 * m < 18446744073709551616) : IntKind.u64.wrap (IntKind.u64.wrap (BitVec.ofInt IntKind.u64.bits ((x : Int).fdiv (2 ^ min (k : Int).toNat IntKind.u64.bits)) &&& BitVec.ofInt IntKind.u64.bits (m : Int)).toNat + IntKind.u64.wrap (BitVec.ofInt IntKind.u64.bits (x : Int) &&& BitVec.ofInt IntKind.u64.bits (m : Int)).toNat) = (((x / 2 ^ k &&& m) + (x &&& m) : Nat) : Int) := by
  have d : x / 2 ^ k ≤ x := Nat.div_le_self _ _
  rw [shr_lit x k hk, and_eq _ _ (by omega) (by omega), and_eq _ _ hx (by omega)]
  have q1 : x / 2 ^ k &&& m ≤ m := Nat.and_le_right
  have q2 : x &&& m ≤ m := Nat.and_le_right
  rw [wu64 (by omega) (by omega), Int.natCast_add]
theorem ones_b (x m : Nat) (hx : x / 16 + x < 18446744073709551616) (hm : m < 18446744073709551616) : IntKind.u64.wrap (BitVec.ofInt IntKind.u64.bits (IntKind.u64.wrap ((x : Int).fdiv (2 ^ min ((4 : Nat) : Int).toNat IntKind.u64.bits) + (x : Int))) &&& BitVec.ofInt IntKind.u64.bits (m : Int)).toNat = (((x / 16 + x) &&& m : Nat) : Int) := by
  rw [shr_lit x 4 (by omega), show (2 : Nat) ^ 4 = 16 from rfl]
  have e9 : IntKind.u64.wrap (((x / 16 : Nat) : Int) + (x : Int)) = ((x / 16 + x : Nat) : Int) := by rw [wu64 (by omega) (by omega), Int.natCast_add]
  rw [e9, and_eq _ _ hx hm]
theorem ones_c (x k y : Nat) (hk : k ≤ 64) (hy : y = x + x / 2 ^ k) (hy2 : y < 18446744073709551616) : IntKind.u64.wrap ((x : Int) + (x : Int).fdiv (2 ^ min (k : Int).toNat IntKind.u64.bits)) = (y : Int) := by
  rw [shr_lit _ k hk, wu64 (by omega) (by omega), hy, Int.natCast_add]
theorem ones_d (r n : Nat) (hr : r < 18446744073709551616) (hn : r % 128 = n) : IntKind.i64.wrap (BitVec.ofInt IntKind.i64.bits (IntKind.i64.wrap (r : Int)) &&& BitVec.ofInt IntKind.i64.bits 127).toNat = (n : Int) := by
  have hw : BitVec.ofInt 64 (IntKind.i64.wrap (r : Int)) = BitVec.ofNat 64 r := by
    apply BitVec.eq_of_toNat_eq
    rw [BitVec.toNat_ofInt, BitVec.toNat_ofNat]
    have : IntKind.i64.wrap (r : Int) % 18446744073709551616 = (r : Int) % 18446744073709551616 := by
      unfold IntKind.wrap
      simp [IntKind.bits, IntKind.signed]
      omega
    show (IntKind.i64.wrap (r : Int) % 18446744073709551616).toNat = _
    rw [this]; omega
  show IntKind.i64.wrap ((BitVec.ofInt 64 (IntKind.i64.wrap (r : Int)) &&& BitVec.ofInt 64 ((127 : Nat) : Int)).toNat : Int) = _
  rw [hw]
  rw [BitVec.toNat_and, bv_nat 127 (by omega), BitVec.toNat_ofNat, Nat.mod_eq_of_lt (by rw [pow64]; exact hr), show (127 : Nat) = 2 ^ 7 - 1 by decide, Nat.and_two_pow_sub_one_eq_mod, show (2 : Nat) ^ 7 = 128 by decide, hn]
  exact w64 (by omega) (by omega)
theorem ones_tri (x : Nat) (hx : x < 18446744073709551616) : Tri En 35 [.int .u64 x] [] (.int .i64 (bitsL x).length) [] := by
  have hs := s123 8 x
  have m1 : msk 85 8 = 6148914691236517205 := by decide +kernel
  have m2 : msk 51 8 = 3689348814741910323 := by decide +kernel
  have m3 : msk 15 8 = 1085102592571150095 := by decide +kernel
  obtain ⟨u, hu⟩ : ∃ u, u = s1 8 x := ⟨_, rfl⟩
  obtain ⟨v, hv⟩ : ∃ v, v = s2 8 u := ⟨_, rfl⟩
  obtain ⟨G, hG⟩ : ∃ G, G = bytesF 8 x := ⟨_, rfl⟩
  rw [← hu, ← hv, ← hG] at hs
  unfold s1 at hu
  unfold s2 at hv
  unfold s3 at hs
  rw [m1] at hu
  rw [m2] at hv
  rw [m3] at hs
  have u1 := ones_a x 1 6148914691236517205 hx (by omega) (by omega)
  rw [show (2 : Nat) ^ 1 = 2 from rfl, ← hu] at u1
  have hu2 : u < 18446744073709551616 := by
    have q1 : x / 2 &&& 6148914691236517205 ≤ 6148914691236517205 := Nat.and_le_right
    have q2 : x &&& 6148914691236517205 ≤ 6148914691236517205 := Nat.and_le_right
    omega
  have u2 := ones_a u 2 3689348814741910323 hu2 (by omega) (by omega)
  rw [show (2 : Nat) ^ 2 = 4 from rfl, ← hv] at u2
  have hv2 : v / 16 + v < 18446744073709551616 := by
    have q1 : u / 4 &&& 3689348814741910323 ≤ 3689348814741910323 := Nat.and_le_right
    have q2 : u &&& 3689348814741910323 ≤ 3689348814741910323 := Nat.and_le_right
    omega
  have u3 := ones_b v 1085102592571150095 hv2 (by omega)
  rw [hs] at u3
  clear hs hv2 hu2 hu hv m1 m2 m3
  obtain ⟨e0, e1, e2, e3, e4, e5, e6, e7, h0, h1, h2, h3, h4, h5, h6, h7, hF, hl⟩ := ones_sum x (by rw [pow64]; exact hx)
  rw [← hG] at hF
  obtain ⟨y, z, hy, hy2, hz, hz2, hz3, hz4⟩ := ones_tail e0 e1 e2 e3 e4 e5 e6 e7 h0 h1 h2 h3 h4 h5 h6 h7 _ rfl
  rw [← hF] at hy
  rw [← hl] at hz4
  clear hF hl h0 h1 h2 h3 h4 h5 h6 h7 hG
  have u4 := ones_c G 8 y (by omega) hy hy2
  have u5 := ones_c y 16 z (by omega) hz hz2
  obtain ⟨r, hr⟩ : ∃ r, r = z + z / 4294967296 := ⟨_, rfl⟩
  rw [← hr] at hz3 hz4
  have u6 := ones_c z 32 r (by omega) hr hz3
  have u7 := ones_d r _ hz3 hz4
  clear hy hy2 hz hz2 hz3 hz4 hr
  simp only [Int.natCast_one, Int.cast_ofNat_Int] at u1 u2 u3 u4 u5 u6
  refine Tri.of Tryd.func35 rfl Tryd.call35 rfl ?_
  refine Goods.fin 2000 [] mixed Tryd.func35 ?_
  show Yes _
  repeat' apply And.intro
  all_goals first | (simp only [u1, u2, u3, u4, u5, u6, u7]; done) | exact trivial | (show (0 : Int) ≤ _; omega)
theorem count_tri (x : Nat) (hx : x < 18446744073709551616) : Tri En 23 [.int .u64 x] [] (.int .i64 (bitsL x).length) [] := by
  have h := ones_tri x hx
  refine Tri.of Tryd.func23 rfl Tryd.call23 rfl ?_
  refine Goods.fin 2000 [.c (.of h)] mixed Tryd.func23 ?_
  show Yes _
  repeat' apply And.intro
  (all_goals first | rfl | assumption | trivial | omega | (simp [-List.getD_eq_getElem?_getD] <;> omega) | (simp (disch := omega) only [w64, wu64] <;> omega) | (simp (disch := omega) [-List.getD_eq_getElem?_getD, List.getD_cons_zero, List.getD_cons_succ, kCast_self, dfl_pair, dfl_int, w64, wu64] <;> omega) | (rw [Bool.eq_iff_iff]; simp (disch := omega) [-List.getD_eq_getElem?_getD, List.getD_cons_zero, List.getD_cons_succ, kCast_self, dfl_pair, dfl_int, w64, wu64] <;> omega) | (simp_all [-List.getD_eq_getElem?_getD] <;> omega))
def bruijn : List Int := [0, 1, 56, 2, 57, 49, 28, 3, 61, 58, 42, 50, 38, 29, 17, 4, 62, 47, 59, 36, 45, 43, 51, 22, 53, 39, 33, 30, 24, 18, 12, 5, 63, 55, 48, 27, 60, 41, 37, 16, 46, 35, 44, 21, 52, 32, 23, 11, 54, 26, 40, 15, 34, 20, 31, 10, 25, 14, 19, 9, 13, 8, 7, 6]
theorem bruijn_at : ∀ t : Nat, t < 64 → bruijn.getD (2 ^ t * 285870213051353865 % 18446744073709551616 / 288230376151711744) 0 = (t : Int) ∧ 2 ^ t * 285870213051353865 % 18446744073709551616 / 288230376151711744 < 64 := by decide +kernel
theorem trail_tri (x : Nat) (hx : x < 18446744073709551616) : Tri En 43 [.int .u64 x] [] (.int .i64 (firstN x)) [] := by
  refine Tri.of Tryd.func43 rfl Tryd.call43 rfl ?_
  by_cases h0 : x = 0
  · subst h0
    have e : firstN 0 = 64 := by decide +kernel
    refine Goods.fin 2000 [.b true] mixed Tryd.func43 ?_
    show Yes _
    repeat' apply And.intro
    (all_goals first | rfl | assumption | trivial | omega | (simp [-List.getD_eq_getElem?_getD, e] <;> omega) | (simp (disch := omega) only [w64, wu64] <;> omega) | (simp (disch := omega) [-List.getD_eq_getElem?_getD, List.getD_cons_zero, List.getD_cons_succ, kCast_self, dfl_pair, dfl_int, w64, wu64, e] <;> omega) | (rw [Bool.eq_iff_iff]; simp (disch := omega) [-List.getD_eq_getElem?_getD, List.getD_cons_zero, List.getD_cons_succ, kCast_self, dfl_pair, dfl_int, w64, wu64, e] <;> omega) | (simp_all [-List.getD_eq_getElem?_getD] <;> omega))
  · obtain ⟨t, ht, hL, hlow, _⟩ := L_cons (by rw [pow64]; exact hx) h0
    have e : firstN x = t := by unfold firstN; rw [hL]; rfl
    have e1 := lowest_eq h0 hx hlow
    obtain ⟨hb, hlt⟩ := bruijn_at t ht
    have e2 : IntKind.u64.wrap (((2 ^ t : Nat) : Int) * 285870213051353865) = ((2 ^ t * 285870213051353865 % 18446744073709551616 : Nat) : Int) := by
      rw [← wu_nat]; simp
    generalize 2 ^ t * 285870213051353865 % 18446744073709551616 = q at *
    generalize 2 ^ t = T at *
    have e3 : (q : Int).fdiv (2 ^ min (58 : Int).toNat IntKind.u64.bits) = ((q / 288230376151711744 : Nat) : Int) := by
      rw [show (58 : Int).toNat = ((58 : Nat) : Int).toNat from rfl, shr_lit _ 58 (by omega)]
    generalize q / 288230376151711744 = r at *
    have e4 : ((r : Int)).toNat = r := Int.toNat_natCast r
    have e5 : IntKind.i64.wrap (t : Int) = t := w64 (by omega) (by omega)
    unfold bruijn at hb
    refine Goods.fin 2000 [.b false] mixed Tryd.func43 ?_
    show Yes _
    repeat' apply And.intro
    all_goals (try simp only [e1, e2, e3, e4, Nat.add_eq, Nat.zero_add, hb, e, e5])
    (all_goals first | rfl | assumption | trivial | omega | (simp [-List.getD_eq_getElem?_getD] <;> omega) | (simp (disch := omega) only [w64, wu64] <;> omega) | (simp (disch := omega) [-List.getD_eq_getElem?_getD, List.getD_cons_zero, List.getD_cons_succ, kCast_self, dfl_pair, dfl_int, w64, wu64] <;> omega) | (rw [Bool.eq_iff_iff]; simp (disch := omega) [-List.getD_eq_getElem?_getD, List.getD_cons_zero, List.getD_cons_succ, kCast_self, dfl_pair, dfl_int, w64, wu64] <;> omega) | (simp_all [-List.getD_eq_getElem?_getD] <;> omega))
theorem first_tri (x : Nat) (hx : x < 18446744073709551616) : Tri En 34 [.int .u64 x] [] (.int .i64 (firstN x)) [] := by
  have h := trail_tri x hx
  refine Tri.of Tryd.func34 rfl Tryd.call34 rfl ?_
  refine Goods.fin 2000 [.c (.of h)] mixed Tryd.func34 ?_
  show Yes _
  repeat' apply And.intro
  (all_goals first | rfl | assumption | trivial | omega | (simp [-List.getD_eq_getElem?_getD] <;> omega) | (simp (disch := omega) only [w64, wu64] <;> omega) | (simp (disch := omega) [-List.getD_eq_getElem?_getD, List.getD_cons_zero, List.getD_cons_succ, kCast_self, dfl_pair, dfl_int, w64, wu64] <;> omega) | (rw [Bool.eq_iff_iff]; simp (disch := omega) [-List.getD_eq_getElem?_getD, List.getD_cons_zero, List.getD_cons_succ, kCast_self, dfl_pair, dfl_int, w64, wu64] <;> omega) | (simp_all [-List.getD_eq_getElem?_getD] <;> omega))
theorem with_tri (m : Nat) (hm : m < 18446744073709551616) (n : Int) : Tri En 33 [.int .u64 m, .int .i64 n] [] (.int .u64 (withN m n)) [] := by
  refine Tri.of Tryd.func33 rfl Tryd.call33 rfl ?_
  by_cases h0 : 0 ≤ n
  · by_cases h1 : n ≤ 63
    · obtain ⟨b, rfl⟩ : ∃ b : Nat, n = b := ⟨n.toNat, by omega⟩
      have e : withN m b = m ||| 2 ^ b := by unfold withN; rw [if_pos ⟨h0, h1⟩, Int.toNat_natCast]
      have hp' : 2 ^ b < 18446744073709551616 := by rw [← pow64]; exact Nat.pow_lt_pow_right (by omega) (by omega)
      have e1 : IntKind.u64.wrap (BitVec.ofInt IntKind.u64.bits (m : Int) ||| BitVec.ofInt IntKind.u64.bits (IntKind.u64.wrap (1 * 2 ^ min (IntKind.u64.wrap (b : Int)).toNat IntKind.u64.bits))).toNat = (withN m b : Int) := by
        have := shl_eq 1 (a := b) (by omega)
        rw [show (1 : Int) = ((1 : Nat) : Int) from rfl, this, Nat.one_mul, Nat.mod_eq_of_lt hp', or_eq _ _ hm hp', e]
      have e0 := sh_pos (a := b) (by omega)
      refine Goods.fin 2000 [.s 6 (some false) true true, .s 9 (some false) true true] mixed Tryd.func33 ?_
      show Yes _
      repeat' apply And.intro
      (all_goals first | rfl | assumption | trivial | omega | (simp [-List.getD_eq_getElem?_getD] <;> omega) | (simp (disch := omega) only [w64, wu64] <;> omega) | (simp (disch := omega) [-List.getD_eq_getElem?_getD, List.getD_cons_zero, List.getD_cons_succ, kCast_self, dfl_pair, dfl_int, w64, wu64] <;> omega) | (rw [Bool.eq_iff_iff]; simp (disch := omega) [-List.getD_eq_getElem?_getD, List.getD_cons_zero, List.getD_cons_succ, kCast_self, dfl_pair, dfl_int, w64, wu64] <;> omega) | (simp_all [-List.getD_eq_getElem?_getD] <;> omega))
    · have e : withN m n = m := by unfold withN; rw [if_neg (by omega)]
      refine Goods.fin 2000 [.s 6 (some false) true true, .s 9 (some true) true true] mixed Tryd.func33 ?_
      show Yes _
      repeat' apply And.intro
      (all_goals first | rfl | assumption | trivial | omega | (simp [-List.getD_eq_getElem?_getD, e] <;> omega) | (simp (disch := omega) only [w64, wu64] <;> omega) | (simp (disch := omega) [-List.getD_eq_getElem?_getD, List.getD_cons_zero, List.getD_cons_succ, kCast_self, dfl_pair, dfl_int, w64, wu64, e] <;> omega) | (rw [Bool.eq_iff_iff]; simp (disch := omega) [-List.getD_eq_getElem?_getD, List.getD_cons_zero, List.getD_cons_succ, kCast_self, dfl_pair, dfl_int, w64, wu64, e] <;> omega) | (simp_all [-List.getD_eq_getElem?_getD] <;> omega))
  · have e : withN m n = m := by unfold withN; rw [if_neg (by omega)]
    refine Goods.fin 2000 [.s 6 (some true) true true] mixed Tryd.func33 ?_
    show Yes _
    repeat' apply And.intro
    (all_goals first | rfl | assumption | trivial | omega | (simp [-List.getD_eq_getElem?_getD, e] <;> omega) | (simp (disch := omega) only [w64, wu64] <;> omega) | (simp (disch := omega) [-List.getD_eq_getElem?_getD, List.getD_cons_zero, List.getD_cons_succ, kCast_self, dfl_pair, dfl_int, w64, wu64, e] <;> omega) | (rw [Bool.eq_iff_iff]; simp (disch := omega) [-List.getD_eq_getElem?_getD, List.getD_cons_zero, List.getD_cons_succ, kCast_self, dfl_pair, dfl_int, w64, wu64, e] <;> omega) | (simp_all [-List.getD_eq_getElem?_getD] <;> omega))
end Go.Proofs.YthlpfafmiakfdaaDoor.E
