/- SlotBack: the law's contract. -/
import Derived.Test.YtfclnofmhnapnaaL08c
namespace Go.Proofs.Ytfclnofmhnapnaa.E
open Go
set_option maxRecDepth 100000

/-- A record of n words, the first ones as given. -/
def recL (n : Nat) (l : List Int) : List Int := l.take (min l.length n) ++ (List.replicate n (0 : Int)).drop (min l.length n)
theorem recL_len (n : Nat) (l : List Int) : (recL n l).length = n := by unfold recL; simp; omega
theorem rec_tri (own : Bool) (n : Nat) (l : List Int) (hn : n ≤ 1000) : Tri En 29 [.slice 0 0 l.length, .ptr 1 0 0] [.tab own (.int .u64) l, .cells [.int .i64 n]] (.slice 2 0 n) [.tab own (.int .u64) l, .cells [.int .i64 n], .tab true (.int .u64) (recL n l)] := by
  unfold recL
  refine Tri.of Try.func29 rfl Try.call29 rfl ?_
  refine Goods.fin 2000 [] mixed Try.func29 ?_
  show Yes _
  repeat' apply And.intro
  (all_goals first | rfl | assumption | trivial | omega | (simp [-List.getD_eq_getElem?_getD] <;> omega) | (simp (disch := omega) only [w64, wu64] <;> omega) | (simp (disch := omega) [-List.getD_eq_getElem?_getD, List.getD_cons_zero, List.getD_cons_succ, kCast_self, dfl_pair, dfl_int, w64, wu64] <;> omega) | (rw [Bool.eq_iff_iff]; simp (disch := omega) [-List.getD_eq_getElem?_getD, List.getD_cons_zero, List.getD_cons_succ, kCast_self, dfl_pair, dfl_int, w64, wu64] <;> omega) | (simp_all [-List.getD_eq_getElem?_getD] <;> omega))
theorem set_ne' {l : List Int} {i j : Nat} {x d : Int} (h : i ≠ j) : (l.set i x).getD j d = l.getD j d := by simp only [List.getD, List.getElem?_set]; rw [if_neg h]
theorem set_eq' {l : List Int} {i : Nat} {x d : Int} (h : i < l.length) : (l.set i x).getD i d = x := by simp [List.getD, h]
noncomputable abbrev gBack (a b : List Int) : Frm := ⟨En, 6, Try.f6.ntmps, [.tab false (.int .u64) a, .tab false (.int .u64) b], .bl true, gones 2⟩
/-- The last loop: what was copied is what was laid. -/
theorem back_2 (a b : List Int) (R : Nat) (hR : R ≤ 1000) (m : MemS) (hf : m.faults = 0) (ha : a.length ≤ 200) (hb : b.length ≤ 200) : ∀ (j k : Nat), k + j = R → Goods (gBack a b) ⟨.none, lp Try.f6 2,
    [(4, .slice 0 0 a.length), (5, .slice 1 0 b.length), (10, .ptr 2 0 0), (11, .func (.func 29) [] [.ptr 2 0 0]), (12, .ptr 3 0 0), (17, .slice 4 0 R), (18, .slice 5 0 R), (114, .int .i64 R), (115, .int .i64 k)],
    hp [.tab false (.int .u64) a, .tab false (.int .u64) b, .cells [.int .i64 R], memC 6 m, .tab true (.int .u64) (recL R a), .tab true (.int .u64) (recL R b), memT m]⟩
  | 0, k, h => by
    refine Goods.fin 2000 [.b false, .c (.of (mem_faults m)), .s 157 (some true) true true, .s 162 (some true) true true, .s 168 (some true) true true] mixed Try.func6 ?_
    show Yes _
    repeat' apply And.intro
    (all_goals first | rfl | assumption | trivial | omega | (simp [-List.getD_eq_getElem?_getD] <;> omega) | (simp (disch := omega) only [w64, wu64] <;> omega) | (simp (disch := omega) [-List.getD_eq_getElem?_getD, List.getD_cons_zero, List.getD_cons_succ, kCast_self, dfl_pair, dfl_int, w64, wu64] <;> omega) | (rw [Bool.eq_iff_iff]; simp (disch := omega) [-List.getD_eq_getElem?_getD, List.getD_cons_zero, List.getD_cons_succ, kCast_self, dfl_pair, dfl_int, w64, wu64] <;> omega) | (simp_all [-List.getD_eq_getElem?_getD] <;> omega))
  | j + 1, k, h => by
    have ih := back_2 a b R hR m hf ha hb j (k + 1) (by omega)
    have r1 := rec_tri false R a hR
    have r2 := rec_tri false R b hR
    have l1 := recL_len R a
    have l2 := recL_len R b
    refine Goods.to 2000 [.b true, .s 121 (some false) true true, .s 126 (some false) true true, .c (.of r1), .s 139 (some false) true true, .c (.of r2), .s 152 (some false) true true, .l, .stop] mixed (ih) (by kernel_rfl) ?_
    show Yes _
    repeat' apply And.intro
    (all_goals first | rfl | assumption | trivial | omega | (simp [-List.getD_eq_getElem?_getD] <;> omega) | (simp (disch := omega) only [w64, wu64] <;> omega) | (simp (disch := omega) [-List.getD_eq_getElem?_getD, List.getD_cons_zero, List.getD_cons_succ, kCast_self, dfl_pair, dfl_int, w64, wu64] <;> omega) | (rw [Bool.eq_iff_iff]; simp (disch := omega) [-List.getD_eq_getElem?_getD, List.getD_cons_zero, List.getD_cons_succ, kCast_self, dfl_pair, dfl_int, w64, wu64] <;> omega) | (simp_all [-List.getD_eq_getElem?_getD] <;> omega))
/-- The second loop: both are copied. -/
theorem back_1 (a b : List Int) (R P : Nat) (hR : R ≤ 1000) (hP : P ≤ 1000000) (W : List Int) (hW : W.length = P + 2 * R) (hA : ∀ i, i < R → W.getD (P + i) 0 = (recL R a).getD i 0) (hB : ∀ i, i < R → W.getD (P + R + i) 0 = (recL R b).getD i 0) (ha : a.length ≤ 200) (hb : b.length ≤ 200) : ∀ (j k : Nat) (m : MemS), k + j = R → m.words = W → m.faults = 0 → Goods (gBack a b) ⟨.none, lp Try.f6 1,
    [(4, .slice 0 0 a.length), (5, .slice 1 0 b.length), (10, .ptr 2 0 0), (11, .func (.func 29) [] [.ptr 2 0 0]), (12, .ptr 3 0 0), (15, .ptr 4 0 0), (16, .ptr 5 0 0), (102, .int .i64 R), (103, .int .i64 k)],
    hp [.tab false (.int .u64) a, .tab false (.int .u64) b, .cells [.int .i64 R], memC 6 m, cpC 3 7 P R k, cpC 3 8 (P + R : Nat) R k, memT m, .tab true (.int .u64) ((recL R a).take k), .tab true (.int .u64) ((recL R b).take k)]⟩
  | 0, k, m, h, hm, hf => by
    obtain rfl : k = R := by omega
    have t1 : (recL k a).take k = recL k a := List.take_of_length_le (Nat.le_of_eq (recL_len _ _))
    have t2 : (recL k b).take k = recL k b := List.take_of_length_le (Nat.le_of_eq (recL_len _ _))
    rw [t1, t2]
    have w1 := cp_words m P k (recL k a) (by rw [recL_len]; omega)
    have w2 := cp_words m (P + k : Nat) k (recL k b) (by rw [recL_len]; omega)
    rw [recL_len] at w1 w2
    have ih := back_2 a b k hR m hf ha hb k 0 (by omega)
    refine Goods.to 2000 [.b false, .c (.of w1), .c (.of w2), .l, .stop] mixed (ih) (by kernel_rfl) ?_
    show Yes _
    repeat' apply And.intro
    (all_goals first | rfl | assumption | trivial | omega | (simp [-List.getD_eq_getElem?_getD] <;> omega) | (simp (disch := omega) only [w64, wu64] <;> omega) | (simp (disch := omega) [-List.getD_eq_getElem?_getD, List.getD_cons_zero, List.getD_cons_succ, kCast_self, dfl_pair, dfl_int, w64, wu64] <;> omega) | (rw [Bool.eq_iff_iff]; simp (disch := omega) [-List.getD_eq_getElem?_getD, List.getD_cons_zero, List.getD_cons_succ, kCast_self, dfl_pair, dfl_int, w64, wu64] <;> omega) | (simp_all [-List.getD_eq_getElem?_getD] <;> omega))
  | j + 1, k, m, h, hm, hf => by
    have l1 : ((recL R a).take k).length = k := by rw [List.length_take, recL_len]; omega
    have l2 : ((recL R b).take k).length = k := by rw [List.length_take, recL_len]; omega
    have n1 : (recL R a).take (k + 1) = (recL R a).take k ++ [(recL R a).getD k 0] := by rw [List.take_succ_eq_append_getElem (by rw [recL_len]; omega)]; simp [List.getD, recL_len, show k < R by omega]
    have n2 : (recL R b).take (k + 1) = (recL R b).take k ++ [(recL R b).getD k 0] := by rw [List.take_succ_eq_append_getElem (by rw [recL_len]; omega)]; simp [List.getD, recL_len, show k < R by omega]
    have i1 : m.inr ((P : Int) + k) := ⟨by omega, by rw [hm, hW]; omega⟩
    have i2 : (m.acc 1 ((P : Int) + k)).inr ((P + R : Nat) + (k : Int)) := ⟨by omega, by rw [MemS.acc_words, hm, hW]; omega⟩
    have g1 : m.get ((P : Int) + k) = (recL R a).getD k 0 := by rw [MemS.get_in i1, hm, show ((P : Int) + k).toNat = P + k by omega]; exact hA k (by omega)
    have g2 : (m.acc 1 ((P : Int) + k)).get ((P + R : Nat) + (k : Int)) = (recL R b).getD k 0 := by rw [MemS.get_in i2, MemS.acc_words, hm, show (((P + R : Nat) : Int) + k).toNat = P + R + k by omega]; exact hB k (by omega)
    have s1 := cp_step m P R ((recL R a).take k) (by omega) (by omega) (by omega) (by omega)
    have s2 := cp_step (m.acc 1 ((P : Int) + k)) (P + R : Nat) R ((recL R b).take k) (by omega) (by omega) (by omega) (by omega)
    rw [l1, g1] at s1
    rw [l2, g2] at s2
    have ih := back_1 a b R P hR hP W hW hA hB ha hb j (k + 1) ((m.acc 1 ((P : Int) + k)).acc 1 ((P + R : Nat) + (k : Int))) (by omega) hm (by rw [MemS.acc_faults i2, MemS.acc_faults i1, hf])
    rw [n1, n2] at ih
    refine Goods.to 2000 [.b true, .c (.of s1), .c (.of s2), .l, .stop] mixed (ih) (by kernel_rfl) ?_
    show Yes _
    repeat' apply And.intro
    (all_goals first | rfl | assumption | trivial | omega | (simp [-List.getD_eq_getElem?_getD] <;> omega) | (simp (disch := omega) only [w64, wu64] <;> omega) | (simp (disch := omega) [-List.getD_eq_getElem?_getD, List.getD_cons_zero, List.getD_cons_succ, kCast_self, dfl_pair, dfl_int, w64, wu64] <;> omega) | (rw [Bool.eq_iff_iff]; simp (disch := omega) [-List.getD_eq_getElem?_getD, List.getD_cons_zero, List.getD_cons_succ, kCast_self, dfl_pair, dfl_int, w64, wu64] <;> omega) | (simp_all [-List.getD_eq_getElem?_getD] <;> omega))
set_option maxHeartbeats 4000000 in
/-- The first loop: both are laid. -/
theorem back_0 (a b : List Int) (w n R P : Nat) (h : FrOk 3 w n) (hn : 1 ≤ n) (hRe : ((R : Nat) : Int) = fRec w n) (hPe : ((P : Nat) : Int) = 3 + 1 + 4 * n + (2 * ((n : Int) - 1) + 0) * fRec w n) (hQe : ((P + R : Nat) : Int) = 3 + 1 + 4 * n + (2 * ((n : Int) - 1) + 1) * fRec w n) (hR : R ≤ 1000) (hP : P ≤ 1000000) (first : Bool) (ha : a.length ≤ 200) (hb : b.length ≤ 200) : ∀ (j k : Nat) (m : MemS), k + j = R → m.words.length = P + 2 * R → m.faults = 0 → (∀ i, i < k → m.words.getD (P + i) 0 = (recL R a).getD i 0) → (∀ i, i < k → m.words.getD (P + R + i) 0 = (recL R b).getD i 0) → Goods (gBack a b) ⟨.none, lp Try.f6 0,
    [(4, .slice 0 0 a.length), (5, .slice 1 0 b.length), (6, .bool first), (8, .int .i64 n), (9, .ptr 2 0 0), (10, .ptr 3 0 0), (11, .func (.func 29) [] [.ptr 3 0 0]), (12, .ptr 4 0 0), (13, .ptr 5 0 0), (14, .ptr 6 0 0), (75, .int .i64 R), (76, .int .i64 k)],
    hp [.tab false (.int .u64) a, .tab false (.int .u64) b, .cells [.int .i64 3, .int .i64 w, .int .i64 n], .cells [.int .i64 R], memC 7 m, layC 4 8 (P + k : Nat) k j, layC 4 9 (P + R + k : Nat) k j, memT m, .tab true (.int .u64) (recL R a), .tab true (.int .u64) (recL R b)]⟩
  | 0, k, m, hk, hm, hf, hA, hB => by
    obtain rfl : k = R := by omega
    have a0 := fr_at h (i := (n : Int) - 1) (s := 0) (by omega) (by have := h.n1; omega) (by omega) (by omega)
    have a1 := fr_at h (i := (n : Int) - 1) (s := 1) (by omega) (by have := h.n1; omega) (by omega) (by omega)
    rw [← hPe] at a0
    rw [← hQe] at a1
    have c1 := slot_copy m P k
    have c2 := slot_copy m (P + k : Nat) k
    rw [show max (k : Int) 0 = k by omega] at c1 c2
    have ih := back_1 a b k P hR hP m.words hm hA hB ha hb k 0 m (by omega) rfl hf
    simp only [List.take_zero] at ih
    obtain ⟨b0, b1, w0, w1, n0, n1⟩ := h
    refine Goods.to 2000 [.b false, .k 92 (.of a0), .k 99 (.of a1), .k 94 (.of c1), .k 101 (.of c2), .l, .stop] mixed (ih) (by kernel_rfl) ?_
    show Yes _
    repeat' apply And.intro
    (all_goals first | rfl | assumption | trivial | omega | (simp [-List.getD_eq_getElem?_getD] <;> omega) | (simp (disch := omega) only [w64, wu64] <;> omega) | (simp (disch := omega) [-List.getD_eq_getElem?_getD, List.getD_cons_zero, List.getD_cons_succ, kCast_self, dfl_pair, dfl_int, w64, wu64] <;> omega) | (rw [Bool.eq_iff_iff]; simp (disch := omega) [-List.getD_eq_getElem?_getD, List.getD_cons_zero, List.getD_cons_succ, kCast_self, dfl_pair, dfl_int, w64, wu64] <;> omega) | (simp_all [-List.getD_eq_getElem?_getD] <;> omega))
  | j + 1, k, m, hk, hm, hf, hA, hB => by
    have l1 := recL_len R a
    have l2 := recL_len R b
    have ip1 : inc (P + k : Nat) = (P + (k + 1) : Nat) := inc_nat (by omega)
    have ip2 : inc (P + R + k : Nat) = (P + R + (k + 1) : Nat) := inc_nat (by omega)
    cases first
    · have s1 := lay_step m (P + R + k : Nat) (recL R b) k j (by omega)
      have s2 := lay_step ((m.acc 2 (P + R + k : Nat)).put (P + R + k : Nat) ((recL R b).getD k 0)) (P + k : Nat) (recL R a) k j (by omega)
      have i1 : m.inr (P + R + k : Nat) := ⟨by omega, by rw [hm]; omega⟩
      have i2 : ((m.acc 2 (P + R + k : Nat)).put (P + R + k : Nat) ((recL R b).getD k 0)).inr (P + k : Nat) := ⟨by omega, by rw [MemS.put_len, hm]; omega⟩
      rw [ip2] at s1
      rw [ip1] at s2
      have ih := back_0 a b w n R P h hn hRe hPe hQe hR hP false ha hb j (k + 1) ((((m.acc 2 (P + R + k : Nat)).put (P + R + k : Nat) ((recL R b).getD k 0)).acc 2 (P + k : Nat)).put (P + k : Nat) ((recL R a).getD k 0)) (by omega) (by rw [MemS.put_len, MemS.put_len, hm]) (by rw [MemS.put_faults i2, MemS.put_faults i1, hf])
        (fun i hi => by
          rw [MemS.put_words i2, MemS.put_words i1, Int.toNat_natCast, Int.toNat_natCast]
          by_cases e : i = k
          · subst e; rw [set_eq' (by simp; omega)]
          · have := hA i (by omega)
            rw [← this, set_ne' (by omega), set_ne' (by omega)])
        (fun i hi => by
          rw [MemS.put_words i2, MemS.put_words i1, Int.toNat_natCast, Int.toNat_natCast]
          by_cases e : i = k
          · subst e; rw [set_ne' (by omega), set_eq' (by omega)]
          · have := hB i (by omega)
            rw [← this, set_ne' (by omega), set_ne' (by omega)])
      refine Goods.to 2000 [.b true, .b false, .c (.of s1), .c (.of s2), .l, .stop] mixed (ih) (by kernel_rfl) ?_
      show Yes _
      repeat' apply And.intro
      (all_goals first | rfl | assumption | trivial | omega | (simp [-List.getD_eq_getElem?_getD] <;> omega) | (simp (disch := omega) only [w64, wu64] <;> omega) | (simp (disch := omega) [-List.getD_eq_getElem?_getD, List.getD_cons_zero, List.getD_cons_succ, kCast_self, dfl_pair, dfl_int, w64, wu64] <;> omega) | (rw [Bool.eq_iff_iff]; simp (disch := omega) [-List.getD_eq_getElem?_getD, List.getD_cons_zero, List.getD_cons_succ, kCast_self, dfl_pair, dfl_int, w64, wu64] <;> omega) | (simp_all [-List.getD_eq_getElem?_getD] <;> omega))
    · have s1 := lay_step m (P + k : Nat) (recL R a) k j (by omega)
      have s2 := lay_step ((m.acc 2 (P + k : Nat)).put (P + k : Nat) ((recL R a).getD k 0)) (P + R + k : Nat) (recL R b) k j (by omega)
      have i1 : m.inr (P + k : Nat) := ⟨by omega, by rw [hm]; omega⟩
      have i2 : ((m.acc 2 (P + k : Nat)).put (P + k : Nat) ((recL R a).getD k 0)).inr (P + R + k : Nat) := ⟨by omega, by rw [MemS.put_len, hm]; omega⟩
      rw [ip1] at s1
      rw [ip2] at s2
      have ih := back_0 a b w n R P h hn hRe hPe hQe hR hP true ha hb j (k + 1) ((((m.acc 2 (P + k : Nat)).put (P + k : Nat) ((recL R a).getD k 0)).acc 2 (P + R + k : Nat)).put (P + R + k : Nat) ((recL R b).getD k 0)) (by omega) (by rw [MemS.put_len, MemS.put_len, hm]) (by rw [MemS.put_faults i2, MemS.put_faults i1, hf])
        (fun i hi => by
          rw [MemS.put_words i2, MemS.put_words i1, Int.toNat_natCast, Int.toNat_natCast]
          by_cases e : i = k
          · subst e; rw [set_ne' (by omega), set_eq' (by omega)]
          · have := hA i (by omega)
            rw [← this, set_ne' (by omega), set_ne' (by omega)])
        (fun i hi => by
          rw [MemS.put_words i2, MemS.put_words i1, Int.toNat_natCast, Int.toNat_natCast]
          by_cases e : i = k
          · subst e; rw [set_eq' (by simp; omega)]
          · have := hB i (by omega)
            rw [← this, set_ne' (by omega), set_ne' (by omega)])
      refine Goods.to 2000 [.b true, .b true, .c (.of s1), .c (.of s2), .l, .stop] mixed (ih) (by kernel_rfl) ?_
      show Yes _
      repeat' apply And.intro
      (all_goals first | rfl | assumption | trivial | omega | (simp [-List.getD_eq_getElem?_getD] <;> omega) | (simp (disch := omega) only [w64, wu64] <;> omega) | (simp (disch := omega) [-List.getD_eq_getElem?_getD, List.getD_cons_zero, List.getD_cons_succ, kCast_self, dfl_pair, dfl_int, w64, wu64] <;> omega) | (rw [Bool.eq_iff_iff]; simp (disch := omega) [-List.getD_eq_getElem?_getD, List.getD_cons_zero, List.getD_cons_succ, kCast_self, dfl_pair, dfl_int, w64, wu64] <;> omega) | (simp_all [-List.getD_eq_getElem?_getD] <;> omega))
set_option maxHeartbeats 4000000 in
theorem SlotBack_tri (x y : Nat) (hx : x ≤ 255) (hy : y ≤ 255) (a b : List Int) (first : Bool) : Tri En 6 [.agg [.int .u8 x, .int .u8 y, .slice 0 0 a.length, .slice 1 0 b.length, .bool first]] [.tab false (.int .u64) a, .tab false (.int .u64) b] (.bl true) (gones 2) := by
  have h : FrOk 3 (x % 20 : Nat) (1 + y % 8 : Nat) := ⟨by omega, by omega, by omega, by omega, by omega, by omega⟩
  have hr := fr_record h
  have hs := fr_size h
  have ex : Int.tmod (x : Int) 20 = (x % 20 : Nat) := by rw [Int.tmod_eq_emod_of_nonneg (by omega)]; omega
  have ey : Int.tmod (y : Int) 8 = ((1 + y % 8 : Nat) : Int) - 1 := by rw [Int.tmod_eq_emod_of_nonneg (by omega)]; omega
  refine Tri.of Try.func6 rfl Try.call6 rfl ?_
  by_cases h1 : 200 < a.length
  · refine Goods.fin 2000 [.c (.of speaks_tri), .c (.of hr), .s 46 (some true) true true] mixed Try.func6 ?_
    show Yes _
    repeat' apply And.intro
    (all_goals first | rfl | assumption | trivial | omega | (simp [-List.getD_eq_getElem?_getD, ex, ey] <;> omega) | (simp (disch := omega) only [w64, wu64] <;> omega) | (simp (disch := omega) [-List.getD_eq_getElem?_getD, List.getD_cons_zero, List.getD_cons_succ, kCast_self, dfl_pair, dfl_int, w64, wu64, ex, ey] <;> omega) | (rw [Bool.eq_iff_iff]; simp (disch := omega) [-List.getD_eq_getElem?_getD, List.getD_cons_zero, List.getD_cons_succ, kCast_self, dfl_pair, dfl_int, w64, wu64, ex, ey] <;> omega) | (simp_all [-List.getD_eq_getElem?_getD] <;> omega))
  · by_cases h2 : 200 < b.length
    · refine Goods.fin 2000 [.c (.of speaks_tri), .c (.of hr), .s 46 (some false) true true, .b true] mixed Try.func6 ?_
      show Yes _
      repeat' apply And.intro
      (all_goals first | rfl | assumption | trivial | omega | (simp [-List.getD_eq_getElem?_getD, ex, ey] <;> omega) | (simp (disch := omega) only [w64, wu64] <;> omega) | (simp (disch := omega) [-List.getD_eq_getElem?_getD, List.getD_cons_zero, List.getD_cons_succ, kCast_self, dfl_pair, dfl_int, w64, wu64, ex, ey] <;> omega) | (rw [Bool.eq_iff_iff]; simp (disch := omega) [-List.getD_eq_getElem?_getD, List.getD_cons_zero, List.getD_cons_succ, kCast_self, dfl_pair, dfl_int, w64, wu64, ex, ey] <;> omega) | (simp_all [-List.getD_eq_getElem?_getD] <;> omega))
    · have hn1 : 1 ≤ 1 + y % 8 := by omega
      have hn8 : 1 + y % 8 ≤ 8 := by omega
      have hw : x % 20 ≤ 19 := by omega
      generalize 1 + y % 8 = n at *
      generalize x % 20 = w at *
      have hX : 0 ≤ ((n : Int) - 1) * fRec w n ∧ ((n : Int) - 1) * fRec w n ≤ 7 * 43 := ⟨Int.mul_nonneg (by omega) (fRec_le h).1, Int.mul_le_mul (by omega) (by unfold fRec; omega) (fRec_le h).1 (by omega)⟩
      have q0 : (2 * ((n : Int) - 1) + 0) * fRec w n = 2 * (((n : Int) - 1) * fRec w n) := by rw [Int.add_zero, Int.mul_assoc]
      have q1 : (2 * ((n : Int) - 1) + 1) * fRec w n = 2 * (((n : Int) - 1) * fRec w n) + fRec w n := by rw [Int.add_mul, Int.mul_assoc, Int.one_mul]
      have q2 : 2 * (n : Int) * fRec w n = 2 * (((n : Int) - 1) * fRec w n) + 2 * fRec w n := by rw [Int.mul_assoc, Int.sub_mul, Int.one_mul]; omega
      have hRd : (3 : Int) ≤ fRec w n ∧ fRec w n ≤ 43 := by unfold fRec; omega
      have hRd' := fRec_le h
      have a0 := fr_at h (i := (n : Int) - 1) (s := 0) (by omega) (by omega) (by omega) (by omega)
      have a1 := fr_at h (i := (n : Int) - 1) (s := 1) (by omega) (by omega) (by omega) (by omega)
      rw [q0] at a0
      rw [q1] at a1
      rw [q2] at hs
      have ih0 := back_0 a b w n (fRec w n).toNat (4 + 4 * n + 2 * (((n : Int) - 1) * fRec w n).toNat) h hn1 (by omega) (by rw [q0]; omega) (by rw [q1]; omega) (by omega) (by omega) first (by omega) (by omega)
      generalize ((n : Int) - 1) * fRec w n = X at *
      generalize hF : fRec w n = F at *
      obtain ⟨R, rfl⟩ : ∃ R : Nat, F = R := ⟨F.toNat, by omega⟩
      obtain ⟨Y, rfl⟩ : ∃ Y : Nat, X = Y := ⟨X.toNat, by omega⟩
      simp only [Int.toNat_natCast] at ih0
      have r1 := rec_tri false R a (by omega)
      have r2 := rec_tri false R b (by omega)
      have hm := mem_new (3 + (1 + 4 * (n : Int) + (2 * (Y : Int) + 2 * R)))
      have eN : (min (max ((3 : Int) + (1 + 4 * (n : Int) + (2 * (Y : Int) + 2 * R))) 0) 16777216).toNat = 4 + 4 * n + 2 * Y + 2 * R := by omega
      rw [eN] at hm
      have y1 := slot_lay ⟨List.replicate (4 + 4 * n + 2 * Y + 2 * R) 0, 0, 0, 0, 0⟩ (3 + 1 + 4 * n + 2 * Y) true (recL R a) (by rw [recL_len]; omega)
      have y2 := slot_lay ⟨List.replicate (4 + 4 * n + 2 * Y + 2 * R) 0, 0, 0, 0, 0⟩ (3 + 1 + 4 * n + (2 * Y + R)) true (recL R b) (by rw [recL_len]; omega)
      rw [recL_len] at y1 y2
      have ih := ih0 R 0 ⟨List.replicate (4 + 4 * n + 2 * Y + 2 * R) 0, 0, 0, 0, 0⟩ (by omega) (by simp) rfl (fun i hi => absurd hi (Nat.not_lt_zero _)) (fun i hi => absurd hi (Nat.not_lt_zero _))
      refine Goods.to 2000 [.c (.of speaks_tri), .c (.of hr), .s 46 (some false) true true, .b false, .c (.of hs), .c (.of hm), .k 61 (.of a0), .k 64 (.of r1), .k 65 (.of y1), .k 70 (.of a1), .k 73 (.of r2), .k 74 (.of y2), .l, .stop] mixed (ih) (by kernel_rfl) ?_
      show Yes _
      repeat' apply And.intro
      (all_goals first | rfl | assumption | trivial | omega | (simp [-List.getD_eq_getElem?_getD, ex, ey] <;> omega) | (simp (disch := omega) only [w64, wu64] <;> omega) | (simp (disch := omega) [-List.getD_eq_getElem?_getD, List.getD_cons_zero, List.getD_cons_succ, kCast_self, dfl_pair, dfl_int, w64, wu64, ex, ey] <;> omega) | (rw [Bool.eq_iff_iff]; simp (disch := omega) [-List.getD_eq_getElem?_getD, List.getD_cons_zero, List.getD_cons_succ, kCast_self, dfl_pair, dfl_int, w64, wu64, ex, ey] <;> omega) | (simp_all [-List.getD_eq_getElem?_getD] <;> omega))
theorem SlotBack_law (d : dats ([(true, (.pair (E.Sh.rep (.int .u8) 2) (.pair (.slice (.int .u64)) (.pair (.slice (.int .u64)) (.pair .bool .unit)))))] : List (Bool × Sh))) (hd : datsOk ([(true, (.pair (E.Sh.rep (.int .u8) 2) (.pair (.slice (.int .u64)) (.pair (.slice (.int .u64)) (.pair .bool .unit)))))] : List (Bool × Sh)) d) : Tri En 6 (argsOf ([(true, (.pair (E.Sh.rep (.int .u8) 2) (.pair (.slice (.int .u64)) (.pair (.slice (.int .u64)) (.pair .bool .unit)))))] : List (Bool × Sh)) d 0) (objsOf ([(true, (.pair (E.Sh.rep (.int .u8) 2) (.pair (.slice (.int .u64)) (.pair (.slice (.int .u64)) (.pair .bool .unit)))))] : List (Bool × Sh)) d) (.bl true) (gones (cnts ([(true, (.pair (E.Sh.rep (.int .u8) 2) (.pair (.slice (.int .u64)) (.pair (.slice (.int .u64)) (.pair .bool .unit)))))] : List (Bool × Sh)))) := by
  obtain ⟨⟨⟨x, y, _⟩, a, b, first, _⟩, _⟩ := d
  obtain ⟨⟨⟨h0, h1, _⟩, _⟩, _⟩ := hd
  obtain ⟨x, rfl, hx⟩ := wf_u8 h0
  obtain ⟨y, rfl, hy⟩ := wf_u8 h1
  exact SlotBack_tri x y hx hy a b first
end Go.Proofs.Ytfclnofmhnapnaa.E
