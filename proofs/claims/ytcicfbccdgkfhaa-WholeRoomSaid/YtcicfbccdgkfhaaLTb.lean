/- WholeRoom: the law's contract. -/
import Derived.Test.YtcicfbccdgkfhaaPmaskb
import Derived.Test.YtcicfbccdgkfhaaPmem
import Derived.Test.YtcicfbccdgkfhaaPmay
namespace Go.Proofs.Ytcicfbccdgkfhaa.E
open Go
set_option maxRecDepth 100000

set_option maxHeartbeats 2000000 in
theorem check_no (own : Bool) (c : Cnf) (hc : c.cl.length ≤ 9223372036854775807) (h : ¬ c.Ok) : Tri En 15 [cnfA 0 c] [.tab own (.int .i64) c.cl] (.int .i64 1) [.tab own (.int .i64) c.cl] := by
  by_cases hw : 1 ≤ c.w ∧ c.w ≤ 64
  · have i1 := in_yes c.w 1 64 hw.1 hw.2
    by_cases hs : 1 ≤ c.s ∧ c.s ≤ 64
    · have i2 := in_yes c.s 1 64 hs.1 hs.2
      by_cases hb : 1 ≤ c.b ∧ c.b ≤ 64
      · have i3 := in_yes c.b 1 64 hb.1 hb.2
        by_cases ht : 0 ≤ c.t ∧ c.t ≤ 8
        · have i4 := in_yes c.t 0 8 ht.1 ht.2
          by_cases hl : 1 ≤ c.cl.length ∧ c.cl.length ≤ 16
          · have i5 := in_yes c.cl.length 1 16 (by omega) (by omega)
            have ih := check_0 own c hl.2 c.cl.length 0 0 (by omega)
            rw [List.drop_zero, if_neg fun x => h ⟨⟨hw.1, hw.2, hs.1, hs.2, hb.1, hb.2, ht.1, ht.2⟩, hl.1, hl.2, x⟩] at ih
            refine Tri.of Try.func15 rfl Try.call15 rfl ?_
            refine Goods.to 2000 [.c (.of i1), .c (.of i2), .c (.of i3), .c (.of i4), .c (.of i5), .l, .stop] mixed (ih) (by kernel_rfl) ?_
            show Yes _
            repeat' apply And.intro
            (all_goals first | rfl | assumption | trivial | omega | (simp [-List.getD_eq_getElem?_getD] <;> omega) | (simp (disch := omega) only [w64, wu64] <;> omega) | (simp (disch := omega) [-List.getD_eq_getElem?_getD, List.getD_cons_zero, List.getD_cons_succ, kCast_self, dfl_pair, dfl_int, w64, wu64] <;> omega) | (rw [Bool.eq_iff_iff]; simp (disch := omega) [-List.getD_eq_getElem?_getD, List.getD_cons_zero, List.getD_cons_succ, kCast_self, dfl_pair, dfl_int, w64, wu64] <;> omega) | (simp_all [-List.getD_eq_getElem?_getD] <;> omega))
          · have i5 := in_no c.cl.length 1 16 (by omega)
            refine Tri.of Try.func15 rfl Try.call15 rfl ?_
            refine Goods.fin 2000 [.c (.of i1), .c (.of i2), .c (.of i3), .c (.of i4), .c (.of i5)] mixed Try.func15 ?_
            show Yes _
            repeat' apply And.intro
            (all_goals first | rfl | assumption | trivial | omega | (simp [-List.getD_eq_getElem?_getD] <;> omega) | (simp (disch := omega) only [w64, wu64] <;> omega) | (simp (disch := omega) [-List.getD_eq_getElem?_getD, List.getD_cons_zero, List.getD_cons_succ, kCast_self, dfl_pair, dfl_int, w64, wu64] <;> omega) | (rw [Bool.eq_iff_iff]; simp (disch := omega) [-List.getD_eq_getElem?_getD, List.getD_cons_zero, List.getD_cons_succ, kCast_self, dfl_pair, dfl_int, w64, wu64] <;> omega) | (simp_all [-List.getD_eq_getElem?_getD] <;> omega))
        · have i4 := in_no c.t 0 8 ht
          refine Tri.of Try.func15 rfl Try.call15 rfl ?_
          refine Goods.fin 2000 [.c (.of i1), .c (.of i2), .c (.of i3), .c (.of i4)] mixed Try.func15 ?_
          show Yes _
          repeat' apply And.intro
          (all_goals first | rfl | assumption | trivial | omega | (simp [-List.getD_eq_getElem?_getD] <;> omega) | (simp (disch := omega) only [w64, wu64] <;> omega) | (simp (disch := omega) [-List.getD_eq_getElem?_getD, List.getD_cons_zero, List.getD_cons_succ, kCast_self, dfl_pair, dfl_int, w64, wu64] <;> omega) | (rw [Bool.eq_iff_iff]; simp (disch := omega) [-List.getD_eq_getElem?_getD, List.getD_cons_zero, List.getD_cons_succ, kCast_self, dfl_pair, dfl_int, w64, wu64] <;> omega) | (simp_all [-List.getD_eq_getElem?_getD] <;> omega))
      · have i3 := in_no c.b 1 64 hb
        refine Tri.of Try.func15 rfl Try.call15 rfl ?_
        refine Goods.fin 2000 [.c (.of i1), .c (.of i2), .c (.of i3)] mixed Try.func15 ?_
        show Yes _
        repeat' apply And.intro
        (all_goals first | rfl | assumption | trivial | omega | (simp [-List.getD_eq_getElem?_getD] <;> omega) | (simp (disch := omega) only [w64, wu64] <;> omega) | (simp (disch := omega) [-List.getD_eq_getElem?_getD, List.getD_cons_zero, List.getD_cons_succ, kCast_self, dfl_pair, dfl_int, w64, wu64] <;> omega) | (rw [Bool.eq_iff_iff]; simp (disch := omega) [-List.getD_eq_getElem?_getD, List.getD_cons_zero, List.getD_cons_succ, kCast_self, dfl_pair, dfl_int, w64, wu64] <;> omega) | (simp_all [-List.getD_eq_getElem?_getD] <;> omega))
    · have i2 := in_no c.s 1 64 hs
      refine Tri.of Try.func15 rfl Try.call15 rfl ?_
      refine Goods.fin 2000 [.c (.of i1), .c (.of i2)] mixed Try.func15 ?_
      show Yes _
      repeat' apply And.intro
      (all_goals first | rfl | assumption | trivial | omega | (simp [-List.getD_eq_getElem?_getD] <;> omega) | (simp (disch := omega) only [w64, wu64] <;> omega) | (simp (disch := omega) [-List.getD_eq_getElem?_getD, List.getD_cons_zero, List.getD_cons_succ, kCast_self, dfl_pair, dfl_int, w64, wu64] <;> omega) | (rw [Bool.eq_iff_iff]; simp (disch := omega) [-List.getD_eq_getElem?_getD, List.getD_cons_zero, List.getD_cons_succ, kCast_self, dfl_pair, dfl_int, w64, wu64] <;> omega) | (simp_all [-List.getD_eq_getElem?_getD] <;> omega))
  · have i1 := in_no c.w 1 64 hw
    refine Tri.of Try.func15 rfl Try.call15 rfl ?_
    refine Goods.fin 2000 [.c (.of i1)] mixed Try.func15 ?_
    show Yes _
    repeat' apply And.intro
    (all_goals first | rfl | assumption | trivial | omega | (simp [-List.getD_eq_getElem?_getD] <;> omega) | (simp (disch := omega) only [w64, wu64] <;> omega) | (simp (disch := omega) [-List.getD_eq_getElem?_getD, List.getD_cons_zero, List.getD_cons_succ, kCast_self, dfl_pair, dfl_int, w64, wu64] <;> omega) | (rw [Bool.eq_iff_iff]; simp (disch := omega) [-List.getD_eq_getElem?_getD, List.getD_cons_zero, List.getD_cons_succ, kCast_self, dfl_pair, dfl_int, w64, wu64] <;> omega) | (simp_all [-List.getD_eq_getElem?_getD] <;> omega))
theorem okL_at : ∀ {l : List Int} {last : Int}, 0 ≤ last → okL last l → ∀ i, i < l.length → 16 ≤ l.getD i 0 ∧ l.getD i 0 ≤ 512
  | [], _, _, _, i, hi => by simp at hi
  | n :: l, last, h0, h, 0, _ => by
    have := h.1
    unfold okN at this
    simp only [List.getD_cons_zero]; omega
  | n :: l, last, h0, h, i + 1, hi => by
    have h1 := h.1.1
    have := okL_at (l := l) (last := n) (by omega) h.2 i (by simpa using hi)
    simpa [List.getD] using this
theorem low_len {k : Nat} (hk : k ≤ 64) : (bitsL (lowN (k : Int))).length = k := by
  have e : bitsL (lowN (k : Int)) = List.range k := by
    refine sorted_ext (L_sorted _) List.pairwise_lt_range fun i => ?_
    rw [mem_bitsL, lowN, Int.toNat_natCast, Nat.min_eq_left hk, Nat.testBit_two_pow_sub_one]
    simp; omega
  rw [e, List.length_range]
def rmW (n : Nat) (x : Int) (k : Nat) : List Int := tabW n fun i => if i < k then x else 0
noncomputable abbrev gRm (c : Cnf) : Frm := ⟨En, 4, Try.f4.ntmps, [.tab false (.int .i64) c.cl], .bl true, gones 1⟩
def cfgR (c : Cnf) : AObj := .cells [.int .i64 c.w, .int .i64 c.s, .int .i64 c.b, .int .i64 c.t, .slice 0 0 c.cl.length]
noncomputable abbrev rm1 (c : Cnf) (n : Nat) (x : Int) (k : Nat) (m : MemS) : Cfg := ⟨.none, lp Try.f4 0, [(1, .int .u64 x), (2, .ptr 1 0 0), (5, .ptr 2 0 0), (6, .int .i64 n), (26, .int .i64 n), (27, .int .i64 k)], hp [.tab false (.int .i64) c.cl, cfgR c, memC 3 m, memT m]⟩
noncomputable abbrev rm2 (c : Cnf) (n : Nat) (x : Int) (k : Nat) (m : MemS) : Cfg := ⟨.none, lp Try.f4 1, [(1, .int .u64 x), (2, .ptr 1 0 0), (5, .ptr 2 0 0), (6, .int .i64 n), (36, .slice 0 0 c.cl.length), (37, .int .i64 c.cl.length), (38, .int .i64 k)], hp [.tab false (.int .i64) c.cl, cfgR c, memC 3 m, memT m]⟩
theorem rm2_end (c : Cnf) (hc : c.Ok) (n : Nat) (hn : (n : Int) = 2 * c.s) (x : Int) (m : MemS) (hm : m.words = rmW n x n) (ho : m.ops = n) (hf : m.faults = 0) : Goods (gRm c) (rm2 c n x c.cl.length m) := by
  have s0 := hc.s0
  have s1 := hc.s1
  have w0 := hc.w0
  have w1 := hc.w1
  have t0 := hc.t0
  have t1 := hc.t1
  have hlen : m.words.length = n := by rw [hm, rmW, tabW_len]
  have p1 := mem_peek m ((n : Int) - 1)
  have hg : m.get ((n : Int) - 1) = x := by
    rw [MemS.get_in ⟨by omega, by omega⟩, hm, rmW, show ((n : Int) - 1).toNat = n - 1 by omega, tabW_get (by omega), if_pos (by omega)]
  rw [hg] at p1
  have a1 := mem_len m
  have a2 := mem_ops m
  have a3 := mem_faults m
  rw [hlen] at a1
  rw [ho] at a2
  rw [hf] at a3
  have b1 := conf_bound false c hc.toSmall
  rw [← hn] at b1
  have b2 := conf_attempt n c.w (by omega) (by omega) (by omega) (by omega)
  have q1 : 1 ≤ attN n c.w := by unfold attN; omega
  have q2 : (n : Int) ≤ attN n c.w := by unfold attN; omega
  have q3 : attN n c.w ≤ 1000 := by unfold attN; omega
  have q4 : 2 * attN n c.w ≤ (c.t + 2) * attN n c.w := Int.mul_le_mul_of_nonneg_right (by omega) (by omega)
  have q5 : (c.t + 2) * attN n c.w ≤ 10 * attN n c.w := Int.mul_le_mul_of_nonneg_right (by omega) (by omega)
  generalize (c.t + 2) * attN n c.w = u at *
  generalize attN n c.w = v at *
  refine Goods.fin 2000 [.b false, .k 59 (.of a1), .s 61 (some true) true true, .k 64 (.of a2), .s 66 (some true) true true, .k 70 (.of a3), .s 71 (some true) true true, .k 77 (.of p1), .s 79 (some true) true true, .k 83 (.of b1), .k 87 (.of b2), .s 88 (some true) true true, .k 92 (.of b1)] mixed Try.func4 ?_
  show Yes _
  repeat' apply And.intro
  (all_goals first | rfl | assumption | trivial | omega | (simp [-List.getD_eq_getElem?_getD] <;> omega) | (simp (disch := omega) only [w64, wu64] <;> omega) | (simp (disch := omega) [-List.getD_eq_getElem?_getD, List.getD_cons_zero, List.getD_cons_succ, kCast_self, dfl_pair, dfl_int, w64, wu64] <;> omega) | (rw [Bool.eq_iff_iff]; simp (disch := omega) [-List.getD_eq_getElem?_getD, List.getD_cons_zero, List.getD_cons_succ, kCast_self, dfl_pair, dfl_int, w64, wu64] <;> omega) | (simp_all [-List.getD_eq_getElem?_getD] <;> omega))
theorem rm2_step (c : Cnf) (hc : c.Ok) (n : Nat) (x : Int) (m : MemS) (k : Nat) (hk : k < c.cl.length) (z q : Nat) (hz : c.cl.getD k 0 = z) (z1 : 16 ≤ z) (z2 : z ≤ 512) (hq : q = 1024 / z) (ih : Goods (gRm c) (rm2 c n x (k + 1) m)) : Goods (gRm c) (rm2 c n x k m) := by
  have l1 := hc.l1
  have e : Int.tdiv 1024 (z : Int) = (q : Int) := by rw [Int.tdiv_eq_ediv_of_nonneg (by omega), hq]; rfl
  have q1 : 2 ≤ q := by rw [hq]; exact (Nat.le_div_iff_mul_le (by omega)).2 (by omega)
  have q2 : q ≤ 64 := by rw [hq]; exact Nat.div_le_of_le_mul (by omega)
  have e : IntKind.i64.wrap (Int.tdiv 1024 (c.cl.getD k 0)) = (q : Int) := by rw [hz, e]; exact w64 (by omega) (by omega)
  have h1 := low_tri (q : Int)
  have h2 := count_tri (lowN (q : Int)) (lowN_lt _)
  rw [low_len q2] at h2
  generalize lowN (q : Int) = y at *
  have e2 : IntKind.i64.wrap (Int.tdiv 1024 (c.cl.getD ((k : Int).toNat + 0) (dfl (K.int IntKind.i64)))) = (q : Int) := e
  refine Goods.to 2000 [.b true, .s 45 (some false) true true, .s 48 (some false) true true, .k 52 (.of h1), .k 53 (.of h2), .s 55 (some false) true true, .l, .stop] mixed (ih) (by kernel_rfl) ?_
  show Yes _
  repeat' apply And.intro
  all_goals try (rw [e2])
  all_goals try first | exact decide_eq_true (by omega) | exact decide_eq_false (by omega)
  (all_goals first | rfl | assumption | trivial | omega | (simp [-List.getD_eq_getElem?_getD] <;> omega) | (simp (disch := omega) only [w64, wu64] <;> omega) | (simp (disch := omega) [-List.getD_eq_getElem?_getD, List.getD_cons_zero, List.getD_cons_succ, kCast_self, dfl_pair, dfl_int, w64, wu64] <;> omega) | (rw [Bool.eq_iff_iff]; simp (disch := omega) [-List.getD_eq_getElem?_getD, List.getD_cons_zero, List.getD_cons_succ, kCast_self, dfl_pair, dfl_int, w64, wu64] <;> omega) | (simp_all [-List.getD_eq_getElem?_getD] <;> omega))
theorem rm2_0 (c : Cnf) (hc : c.Ok) (n : Nat) (hn : (n : Int) = 2 * c.s) (x : Int) (m : MemS) (hm : m.words = rmW n x n) (ho : m.ops = n) (hf : m.faults = 0) : ∀ (j k : Nat), k + j = c.cl.length → Goods (gRm c) (rm2 c n x k m)
  | 0, k, hk => by
    obtain rfl : k = c.cl.length := by omega
    exact rm2_end c hc n hn x m hm ho hf
  | j + 1, k, hk => by
    obtain ⟨h1, h2⟩ := okL_at (Int.le_refl 0) hc.ok k (by omega)
    exact rm2_step c hc n x m k (by omega) (c.cl.getD k 0).toNat _ (by omega) (by omega) (by omega) rfl (rm2_0 c hc n hn x m hm ho hf j (k + 1) (by omega))
theorem rm1_0 (c : Cnf) (hc : c.Ok) (n : Nat) (hn : (n : Int) = 2 * c.s) (x : Int) : ∀ (j k : Nat) (m : MemS), k + j = n → m.words = rmW n x k → m.ops = k → m.faults = 0 → Goods (gRm c) (rm1 c n x k m)
  | 0, k, m, hk, hm, ho, hf => by
    obtain rfl : k = n := by omega
    have s1 := hc.s1
    have ih := rm2_0 c hc k hn x m hm ho hf c.cl.length 0 (by omega)
    refine Goods.to 2000 [.b false, .l, .stop] mixed (ih) (by kernel_rfl) ?_
    show Yes _
    repeat' apply And.intro
    (all_goals first | rfl | assumption | trivial | omega | (simp [-List.getD_eq_getElem?_getD] <;> omega) | (simp (disch := omega) only [w64, wu64] <;> omega) | (simp (disch := omega) [-List.getD_eq_getElem?_getD, List.getD_cons_zero, List.getD_cons_succ, kCast_self, dfl_pair, dfl_int, w64, wu64] <;> omega) | (rw [Bool.eq_iff_iff]; simp (disch := omega) [-List.getD_eq_getElem?_getD, List.getD_cons_zero, List.getD_cons_succ, kCast_self, dfl_pair, dfl_int, w64, wu64] <;> omega) | (simp_all [-List.getD_eq_getElem?_getD] <;> omega))
  | j + 1, k, m, hk, hm, ho, hf => by
    have s1 := hc.s1
    have hlen : m.words.length = n := by rw [hm, rmW, tabW_len]
    have hin : m.inr (k : Int) := ⟨by omega, by omega⟩
    have st := mem_store m k x
    have ih := rm1_0 c hc n hn x j (k + 1) ((m.acc 2 k).put k x) (by omega) (by
      rw [MemS.put_words hin, hm, Int.toNat_natCast, rmW]
      refine tabW_set' fun i hi => ?_
      by_cases e : i = k
      · rw [if_pos e, if_pos (by omega)]
      · rw [if_neg e]
        by_cases e2 : i < k
        · rw [if_pos e2, if_pos (by omega)]
        · rw [if_neg e2, if_neg (by omega)]) (by rw [MemS.put_ops, ho, inc_nat (by omega)]) (by rw [MemS.put_faults hin, hf])
    generalize (m.acc 2 (k : Int)).put (k : Int) x = m2 at *
    refine Goods.to 2000 [.b true, .c (.of st), .l, .stop] mixed (ih) (by kernel_rfl) ?_
    show Yes _
    repeat' apply And.intro
    (all_goals first | rfl | assumption | trivial | omega | (simp [-List.getD_eq_getElem?_getD] <;> omega) | (simp (disch := omega) only [w64, wu64] <;> omega) | (simp (disch := omega) [-List.getD_eq_getElem?_getD, List.getD_cons_zero, List.getD_cons_succ, kCast_self, dfl_pair, dfl_int, w64, wu64] <;> omega) | (rw [Bool.eq_iff_iff]; simp (disch := omega) [-List.getD_eq_getElem?_getD, List.getD_cons_zero, List.getD_cons_succ, kCast_self, dfl_pair, dfl_int, w64, wu64] <;> omega) | (simp_all [-List.getD_eq_getElem?_getD] <;> omega))
set_option maxHeartbeats 2000000 in
theorem WholeRoom_tri (c : Cnf) (hcl : c.cl.length ≤ 9223372036854775807) (x : Int) : Tri En 4 [cnfA 0 c, .int .u64 x] [.tab false (.int .i64) c.cl] (.bl true) (gones 1) := by
  have n3 := mem_new 3
  rw [show (min (max (3 : Int) 0) 16777216).toNat = 3 by decide] at n3
  have l3 := mem_len ⟨List.replicate 3 0, 0, 0, 0, 0⟩
  refine Tri.of Try.func4 rfl Try.call4 rfl ?_
  by_cases h : c.Ok
  · have s0 := h.s0
    have s1 := h.s1
    obtain ⟨n, hn⟩ : ∃ n : Nat, (n : Int) = 2 * c.s := ⟨(2 * c.s).toNat, by omega⟩
    have st := conf_state false c (by omega) s1
    rw [← hn] at st
    have hm := mem_new (n : Int)
    rw [show (min (max (n : Int) 0) 16777216).toNat = n by omega] at hm
    have ih := rm1_0 c h n hn x n 0 ⟨List.replicate n 0, 0, 0, 0, 0⟩ (by omega) (by
      show List.replicate n 0 = _
      rw [tabW_zero]; exact tabW_congr fun i _ => by rw [if_neg (by omega)]) rfl rfl
    generalize (⟨List.replicate n 0, 0, 0, 0, 0⟩ : MemS) = m at hm ih
    refine Goods.to 2000 [.c (.of n3), .k 16 (.of l3), .s 17 (some false) true true, .c (.of (check_ok false c h)), .b false, .c (.of st), .c (.of hm), .l, .stop] mixed (ih) (by kernel_rfl) ?_
    show Yes _
    repeat' apply And.intro
    (all_goals first | rfl | assumption | trivial | omega | (simp [-List.getD_eq_getElem?_getD] <;> omega) | (simp (disch := omega) only [w64, wu64] <;> omega) | (simp (disch := omega) [-List.getD_eq_getElem?_getD, List.getD_cons_zero, List.getD_cons_succ, kCast_self, dfl_pair, dfl_int, w64, wu64] <;> omega) | (rw [Bool.eq_iff_iff]; simp (disch := omega) [-List.getD_eq_getElem?_getD, List.getD_cons_zero, List.getD_cons_succ, kCast_self, dfl_pair, dfl_int, w64, wu64] <;> omega) | (simp_all [-List.getD_eq_getElem?_getD] <;> omega))
  · refine Goods.fin 2000 [.c (.of n3), .k 16 (.of l3), .s 17 (some false) true true, .c (.of (check_no false c hcl h)), .b true] mixed Try.func4 ?_
    show Yes _
    repeat' apply And.intro
    (all_goals first | rfl | assumption | trivial | omega | (simp [-List.getD_eq_getElem?_getD] <;> omega) | (simp (disch := omega) only [w64, wu64] <;> omega) | (simp (disch := omega) [-List.getD_eq_getElem?_getD, List.getD_cons_zero, List.getD_cons_succ, kCast_self, dfl_pair, dfl_int, w64, wu64] <;> omega) | (rw [Bool.eq_iff_iff]; simp (disch := omega) [-List.getD_eq_getElem?_getD, List.getD_cons_zero, List.getD_cons_succ, kCast_self, dfl_pair, dfl_int, w64, wu64] <;> omega) | (simp_all [-List.getD_eq_getElem?_getD] <;> omega))
theorem WholeRoom_law (d : dats ([(true, (.pair (.int .i64) (.pair (.int .i64) (.pair (.int .i64) (.pair (.int .i64) (.pair (.slice (.int .i64)) .unit)))))), (false, (.int .u64))] : List (Bool × Sh))) (hd : datsOk ([(true, (.pair (.int .i64) (.pair (.int .i64) (.pair (.int .i64) (.pair (.int .i64) (.pair (.slice (.int .i64)) .unit)))))), (false, (.int .u64))] : List (Bool × Sh)) d) : Tri En 4 (argsOf ([(true, (.pair (.int .i64) (.pair (.int .i64) (.pair (.int .i64) (.pair (.int .i64) (.pair (.slice (.int .i64)) .unit)))))), (false, (.int .u64))] : List (Bool × Sh)) d 0) (objsOf ([(true, (.pair (.int .i64) (.pair (.int .i64) (.pair (.int .i64) (.pair (.int .i64) (.pair (.slice (.int .i64)) .unit)))))), (false, (.int .u64))] : List (Bool × Sh)) d) (.bl true) (gones (cnts ([(true, (.pair (.int .i64) (.pair (.int .i64) (.pair (.int .i64) (.pair (.int .i64) (.pair (.slice (.int .i64)) .unit)))))), (false, (.int .u64))] : List (Bool × Sh)))) := by
  obtain ⟨⟨w, s, b, t, cl, _⟩, x, _⟩ := d
  obtain ⟨⟨h0, h1, h2, h3, ⟨h4, _⟩, _⟩, h5, _⟩ := hd
  exact WholeRoom_tri ⟨w, s, b, t, cl⟩ (maxLen_le h4) x
end Go.Proofs.Ytcicfbccdgkfhaa.E
