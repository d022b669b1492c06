/- MemOne: the law's contract. -/
import Derived.Test.YtlmoifbklpflaaaL03b
namespace Go.Proofs.Ytlmoifbklpflaaa.E
open Go
set_option maxRecDepth 100000

/-- How many words are not what they were. -/
def diffN (xs ys : List Int) (k : Nat) : Nat := ((List.range k).filter fun i => xs.getD i 0 != ys.getD i 0).length
theorem diffN_succ (xs ys : List Int) (k : Nat) : diffN xs ys (k + 1) = diffN xs ys k + (if xs.getD k 0 = ys.getD k 0 then 0 else 1) := by
  unfold diffN
  rw [List.range_succ, List.filter_append, List.length_append]
  by_cases h : xs.getD k 0 = ys.getD k 0
  · simp [h, List.filter_cons, -List.getD_eq_getElem?_getD]
  · simp [h, List.filter_cons, -List.getD_eq_getElem?_getD]
theorem diffN_same (xs : List Int) : ∀ k : Nat, diffN xs xs k = 0
  | 0 => rfl
  | k + 1 => by rw [diffN_succ, diffN_same xs k, if_pos rfl]
theorem diffN_set (xs : List Int) (i : Nat) (x : Int) : ∀ k : Nat, diffN xs (xs.set i x) k ≤ (if i < k then 1 else 0)
  | 0 => by simp [diffN]
  | k + 1 => by
    have ih := diffN_set xs i x k
    rw [diffN_succ]
    by_cases h : i = k
    · subst h
      rw [if_neg (Nat.lt_irrefl _)] at ih
      rw [if_pos (Nat.lt_succ_self _)]
      split <;> omega
    · have e : (xs.set i x).getD k 0 = xs.getD k 0 := by simp only [List.getD, List.getElem?_set]; rw [if_neg h]
      rw [e, if_pos rfl]
      by_cases h2 : i < k
      · rw [if_pos h2] at ih; rw [if_pos (by omega)]; omega
      · rw [if_neg h2] at ih; omega
theorem put_diff (m : MemS) (a k x : Int) (n : Nat) : diffN m.words ((m.acc k a).put a x).words n ≤ 1 := by
  by_cases h : m.inr a
  · rw [MemS.put_words h]
    have := diffN_set m.words a.toNat x n
    split at this <;> omega
  · rw [MemS.put_out (m := m.acc k a) h, MemS.acc_words, diffN_same]; omega
theorem opS_diff (m : MemS) (k a x old : Int) (n : Nat) : diffN m.words (opS m k a x old).words n ≤ 1 := by
  unfold opS
  split
  · rw [MemS.acc_words, diffN_same]; omega
  · split
    · exact put_diff ..
    · split
      · exact put_diff ..
      · split
        · split
          · exact put_diff ..
          · rw [MemS.acc_words, diffN_same]; omega
        · split
          · exact put_diff ..
          · rw [diffN_same]; omega
theorem opS_ops (m : MemS) (k a x old : Int) (h1 : 1 ≤ k) (h5 : k ≤ 5) : (opS m k a x old).ops = inc m.ops := by
  have hk : k = 1 ∨ k = 2 ∨ k = 3 ∨ k = 4 ∨ k = 5 := by omega
  rcases hk with rfl | rfl | rfl | rfl | rfl
  · rw [show opS m 1 a x old = m.acc 1 a by simp [opS]]; rfl
  · rw [show opS m 2 a x old = (m.acc 2 a).put a x by simp [opS]]; rfl
  · rw [show opS m 3 a x old = (m.acc 3 a).put a x by simp [opS]]; rfl
  · by_cases h : m.inr a ∧ m.get a = old
    · rw [show opS m 4 a x old = (m.acc 4 a).put a x by simp [opS, h]]; rfl
    · rw [show opS m 4 a x old = m.acc 4 a by simp only [opS]; rw [if_neg (by omega), if_neg (by omega), if_neg (by omega), if_pos trivial, if_neg h]]; rfl
  · rw [show opS m 5 a x old = (m.acc 5 a).put a (IntKind.u64.wrap (m.get a + x)) by simp [opS]]; rfl
theorem ref_zero : Tri En 18 [.int .i64 0] [] (refA 0 ⟨[], 0, 0, 0, 0⟩) [.tab true (.int .u64) []] := ref_new 0 (by omega)
theorem dz_1 (m : MemS) (a x old : Int) : Tri En 19 [.ptr 0 0 0, .agg [.slice 1 0 0, .int .i64 0, .int .i64 0], .agg [.int .i64 1, .int .i64 a, .int .u64 x, .int .u64 old]] [memC 2 m, .tab true (.int .u64) [], memT m] (.tuple [.any, .any]) [memC 2 (m.acc 1 a), .gone, memT (m.acc 1 a)] := by
  have h1 := mem_load m a
  have h2' := rdo_out true ⟨[], 0, 0, 0, 0⟩ (by simp) 1 a x old (by simp [MemS.inr])
  have h3 := mem_last (m.acc 1 a)
  refine Tri.of Try.func19 rfl Try.call19 rfl ?_
  by_cases hz : m.get a = 0
  · refine Goods.fin 2000 [.s 15 (some false) true true, .s 19 (some false) true true, .s 41 (some true) true true, .c (.of h1), .c (.of h2'), .s 97 (some true) true true, .c (.of h3)] mixed Try.func19 ?_
    show Yes _
    repeat' apply And.intro
    (all_goals first | rfl | assumption | trivial | omega | (simp [-List.getD_eq_getElem?_getD] <;> omega) | (simp (disch := omega) only [w64, wu64] <;> omega) | (simp (disch := omega) [-List.getD_eq_getElem?_getD, List.getD_cons_zero, List.getD_cons_succ, kCast_self, dfl_pair, dfl_int, w64, wu64] <;> omega) | (rw [Bool.eq_iff_iff]; simp (disch := omega) [-List.getD_eq_getElem?_getD, List.getD_cons_zero, List.getD_cons_succ, kCast_self, dfl_pair, dfl_int, w64, wu64] <;> omega) | (simp_all [-List.getD_eq_getElem?_getD] <;> omega))
  · refine Goods.fin 2000 [.s 15 (some false) true true, .s 19 (some false) true true, .s 41 (some true) true true, .c (.of h1), .c (.of h2'), .s 97 (some false) true true] mixed Try.func19 ?_
    show Yes _
    repeat' apply And.intro
    (all_goals first | rfl | assumption | trivial | omega | (simp [-List.getD_eq_getElem?_getD] <;> omega) | (simp (disch := omega) only [w64, wu64] <;> omega) | (simp (disch := omega) [-List.getD_eq_getElem?_getD, List.getD_cons_zero, List.getD_cons_succ, kCast_self, dfl_pair, dfl_int, w64, wu64] <;> omega) | (rw [Bool.eq_iff_iff]; simp (disch := omega) [-List.getD_eq_getElem?_getD, List.getD_cons_zero, List.getD_cons_succ, kCast_self, dfl_pair, dfl_int, w64, wu64] <;> omega) | (simp_all [-List.getD_eq_getElem?_getD] <;> omega))
theorem dz_2 (m : MemS) (a x old : Int) : Tri En 19 [.ptr 0 0 0, .agg [.slice 1 0 0, .int .i64 0, .int .i64 0], .agg [.int .i64 2, .int .i64 a, .int .u64 x, .int .u64 old]] [memC 2 m, .tab true (.int .u64) [], memT m] (.tuple [.any, .any]) [memC 2 ((m.acc 2 a).put a x), .gone, memT ((m.acc 2 a).put a x)] := by
  have h1 := mem_store m a x
  have h2' := rdo_out true ⟨[], 0, 0, 0, 0⟩ (by simp) 2 a x old (by simp [MemS.inr])
  have h3 := mem_last ((m.acc 2 a).put a x)
  refine Tri.of Try.func19 rfl Try.call19 rfl ?_
  refine Goods.fin 2000 [.s 15 (some false) true true, .s 19 (some false) true true, .s 41 (some false) true true, .s 47 (some true) true true, .c (.of h1), .c (.of h2'), .s 97 (some true) true true, .c (.of h3)] mixed Try.func19 ?_
  show Yes _
  repeat' apply And.intro
  (all_goals first | rfl | assumption | trivial | omega | (simp [-List.getD_eq_getElem?_getD] <;> omega) | (simp (disch := omega) only [w64, wu64] <;> omega) | (simp (disch := omega) [-List.getD_eq_getElem?_getD, List.getD_cons_zero, List.getD_cons_succ, kCast_self, dfl_pair, dfl_int, w64, wu64] <;> omega) | (rw [Bool.eq_iff_iff]; simp (disch := omega) [-List.getD_eq_getElem?_getD, List.getD_cons_zero, List.getD_cons_succ, kCast_self, dfl_pair, dfl_int, w64, wu64] <;> omega) | (simp_all [-List.getD_eq_getElem?_getD] <;> omega))
theorem dz_3 (m : MemS) (a x old : Int) : Tri En 19 [.ptr 0 0 0, .agg [.slice 1 0 0, .int .i64 0, .int .i64 0], .agg [.int .i64 3, .int .i64 a, .int .u64 x, .int .u64 old]] [memC 2 m, .tab true (.int .u64) [], memT m] (.tuple [.any, .any]) [memC 2 ((m.acc 3 a).put a x), .gone, memT ((m.acc 3 a).put a x)] := by
  have h1 := mem_swap m a x
  have h2' := rdo_out true ⟨[], 0, 0, 0, 0⟩ (by simp) 3 a x old (by simp [MemS.inr])
  have h3 := mem_last ((m.acc 3 a).put a x)
  refine Tri.of Try.func19 rfl Try.call19 rfl ?_
  by_cases hz : m.get a = 0
  · refine Goods.fin 2000 [.s 15 (some false) true true, .s 19 (some false) true true, .s 41 (some false) true true, .s 47 (some false) true true, .s 55 (some true) true true, .c (.of h1), .c (.of h2'), .s 97 (some true) true true, .c (.of h3)] mixed Try.func19 ?_
    show Yes _
    repeat' apply And.intro
    (all_goals first | rfl | assumption | trivial | omega | (simp [-List.getD_eq_getElem?_getD] <;> omega) | (simp (disch := omega) only [w64, wu64] <;> omega) | (simp (disch := omega) [-List.getD_eq_getElem?_getD, List.getD_cons_zero, List.getD_cons_succ, kCast_self, dfl_pair, dfl_int, w64, wu64] <;> omega) | (rw [Bool.eq_iff_iff]; simp (disch := omega) [-List.getD_eq_getElem?_getD, List.getD_cons_zero, List.getD_cons_succ, kCast_self, dfl_pair, dfl_int, w64, wu64] <;> omega) | (simp_all [-List.getD_eq_getElem?_getD] <;> omega))
  · refine Goods.fin 2000 [.s 15 (some false) true true, .s 19 (some false) true true, .s 41 (some false) true true, .s 47 (some false) true true, .s 55 (some true) true true, .c (.of h1), .c (.of h2'), .s 97 (some false) true true] mixed Try.func19 ?_
    show Yes _
    repeat' apply And.intro
    (all_goals first | rfl | assumption | trivial | omega | (simp [-List.getD_eq_getElem?_getD] <;> omega) | (simp (disch := omega) only [w64, wu64] <;> omega) | (simp (disch := omega) [-List.getD_eq_getElem?_getD, List.getD_cons_zero, List.getD_cons_succ, kCast_self, dfl_pair, dfl_int, w64, wu64] <;> omega) | (rw [Bool.eq_iff_iff]; simp (disch := omega) [-List.getD_eq_getElem?_getD, List.getD_cons_zero, List.getD_cons_succ, kCast_self, dfl_pair, dfl_int, w64, wu64] <;> omega) | (simp_all [-List.getD_eq_getElem?_getD] <;> omega))
theorem dz_4y (m : MemS) (a x old : Int) (h : m.inr a) (h2 : m.get a = old) : Tri En 19 [.ptr 0 0 0, .agg [.slice 1 0 0, .int .i64 0, .int .i64 0], .agg [.int .i64 4, .int .i64 a, .int .u64 x, .int .u64 old]] [memC 2 m, .tab true (.int .u64) [], memT m] (.tuple [.any, .any]) [memC 2 ((m.acc 4 a).put a x), .gone, memT ((m.acc 4 a).put a x)] := by
  have h1 := swing_yes m a old x h h2
  have h2' := rdo_out true ⟨[], 0, 0, 0, 0⟩ (by simp) 4 a x old (by simp [MemS.inr])
  have h3 := mem_last ((m.acc 4 a).put a x)
  refine Tri.of Try.func19 rfl Try.call19 rfl ?_
  refine Goods.fin 2000 [.s 15 (some false) true true, .s 19 (some false) true true, .s 41 (some false) true true, .s 47 (some false) true true, .s 55 (some false) true true, .s 63 (some true) true true, .c (.of h1), .c (.of h2'), .s 97 (some true) true true] mixed Try.func19 ?_
  show Yes _
  repeat' apply And.intro
  (all_goals first | rfl | assumption | trivial | omega | (simp [-List.getD_eq_getElem?_getD] <;> omega) | (simp (disch := omega) only [w64, wu64] <;> omega) | (simp (disch := omega) [-List.getD_eq_getElem?_getD, List.getD_cons_zero, List.getD_cons_succ, kCast_self, dfl_pair, dfl_int, w64, wu64] <;> omega) | (rw [Bool.eq_iff_iff]; simp (disch := omega) [-List.getD_eq_getElem?_getD, List.getD_cons_zero, List.getD_cons_succ, kCast_self, dfl_pair, dfl_int, w64, wu64] <;> omega) | (simp_all [-List.getD_eq_getElem?_getD] <;> omega))
theorem dz_4n (m : MemS) (a x old : Int) (h : m.inr a) (h2 : m.get a ≠ old) : Tri En 19 [.ptr 0 0 0, .agg [.slice 1 0 0, .int .i64 0, .int .i64 0], .agg [.int .i64 4, .int .i64 a, .int .u64 x, .int .u64 old]] [memC 2 m, .tab true (.int .u64) [], memT m] (.tuple [.any, .any]) [memC 2 (m.acc 4 a), .gone, memT (m.acc 4 a)] := by
  have h1 := swing_no m a old x h h2
  have h2' := rdo_out true ⟨[], 0, 0, 0, 0⟩ (by simp) 4 a x old (by simp [MemS.inr])
  have h3 := mem_last (m.acc 4 a)
  refine Tri.of Try.func19 rfl Try.call19 rfl ?_
  refine Goods.fin 2000 [.s 15 (some false) true true, .s 19 (some false) true true, .s 41 (some false) true true, .s 47 (some false) true true, .s 55 (some false) true true, .s 63 (some true) true true, .c (.of h1), .c (.of h2'), .s 97 (some true) true true, .c (.of h3)] mixed Try.func19 ?_
  show Yes _
  repeat' apply And.intro
  (all_goals first | rfl | assumption | trivial | omega | (simp [-List.getD_eq_getElem?_getD] <;> omega) | (simp (disch := omega) only [w64, wu64] <;> omega) | (simp (disch := omega) [-List.getD_eq_getElem?_getD, List.getD_cons_zero, List.getD_cons_succ, kCast_self, dfl_pair, dfl_int, w64, wu64] <;> omega) | (rw [Bool.eq_iff_iff]; simp (disch := omega) [-List.getD_eq_getElem?_getD, List.getD_cons_zero, List.getD_cons_succ, kCast_self, dfl_pair, dfl_int, w64, wu64] <;> omega) | (simp_all [-List.getD_eq_getElem?_getD] <;> omega))
theorem dz_4o (m : MemS) (a x old : Int) (h : ¬ m.inr a) : Tri En 19 [.ptr 0 0 0, .agg [.slice 1 0 0, .int .i64 0, .int .i64 0], .agg [.int .i64 4, .int .i64 a, .int .u64 x, .int .u64 old]] [memC 2 m, .tab true (.int .u64) [], memT m] (.tuple [.any, .any]) [memC 2 (m.acc 4 a), .gone, memT (m.acc 4 a)] := by
  have h1 := swing_out m a old x h
  have h2' := rdo_out true ⟨[], 0, 0, 0, 0⟩ (by simp) 4 a x old (by simp [MemS.inr])
  have h3 := mem_last (m.acc 4 a)
  refine Tri.of Try.func19 rfl Try.call19 rfl ?_
  refine Goods.fin 2000 [.s 15 (some false) true true, .s 19 (some false) true true, .s 41 (some false) true true, .s 47 (some false) true true, .s 55 (some false) true true, .s 63 (some true) true true, .c (.of h1), .c (.of h2'), .s 97 (some true) true true, .c (.of h3)] mixed Try.func19 ?_
  show Yes _
  repeat' apply And.intro
  (all_goals first | rfl | assumption | trivial | omega | (simp [-List.getD_eq_getElem?_getD] <;> omega) | (simp (disch := omega) only [w64, wu64] <;> omega) | (simp (disch := omega) [-List.getD_eq_getElem?_getD, List.getD_cons_zero, List.getD_cons_succ, kCast_self, dfl_pair, dfl_int, w64, wu64] <;> omega) | (rw [Bool.eq_iff_iff]; simp (disch := omega) [-List.getD_eq_getElem?_getD, List.getD_cons_zero, List.getD_cons_succ, kCast_self, dfl_pair, dfl_int, w64, wu64] <;> omega) | (simp_all [-List.getD_eq_getElem?_getD] <;> omega))
theorem dz_5 (m : MemS) (a x old : Int) : Tri En 19 [.ptr 0 0 0, .agg [.slice 1 0 0, .int .i64 0, .int .i64 0], .agg [.int .i64 5, .int .i64 a, .int .u64 x, .int .u64 old]] [memC 2 m, .tab true (.int .u64) [], memT m] (.tuple [.any, .any]) [memC 2 ((m.acc 5 a).put a (IntKind.u64.wrap (m.get a + x))), .gone, memT ((m.acc 5 a).put a (IntKind.u64.wrap (m.get a + x)))] := by
  have h1 := mem_add m a x
  have h2' := rdo_out true ⟨[], 0, 0, 0, 0⟩ (by simp) 5 a x old (by simp [MemS.inr])
  have h3 := mem_last ((m.acc 5 a).put a (IntKind.u64.wrap (m.get a + x)))
  refine Tri.of Try.func19 rfl Try.call19 rfl ?_
  by_cases hz : m.get a = 0
  · refine Goods.fin 2000 [.s 15 (some false) true true, .s 19 (some false) true true, .s 41 (some false) true true, .s 47 (some false) true true, .s 55 (some false) true true, .s 63 (some false) true true, .s 73 (some true) true true, .c (.of h1), .c (.of h2'), .s 97 (some true) true true, .c (.of h3)] mixed Try.func19 ?_
    show Yes _
    repeat' apply And.intro
    (all_goals first | rfl | assumption | trivial | omega | (simp [-List.getD_eq_getElem?_getD] <;> omega) | (simp (disch := omega) only [w64, wu64] <;> omega) | (simp (disch := omega) [-List.getD_eq_getElem?_getD, List.getD_cons_zero, List.getD_cons_succ, kCast_self, dfl_pair, dfl_int, w64, wu64] <;> omega) | (rw [Bool.eq_iff_iff]; simp (disch := omega) [-List.getD_eq_getElem?_getD, List.getD_cons_zero, List.getD_cons_succ, kCast_self, dfl_pair, dfl_int, w64, wu64] <;> omega) | (simp_all [-List.getD_eq_getElem?_getD] <;> omega))
  · refine Goods.fin 2000 [.s 15 (some false) true true, .s 19 (some false) true true, .s 41 (some false) true true, .s 47 (some false) true true, .s 55 (some false) true true, .s 63 (some false) true true, .s 73 (some true) true true, .c (.of h1), .c (.of h2'), .s 97 (some false) true true] mixed Try.func19 ?_
    show Yes _
    repeat' apply And.intro
    (all_goals first | rfl | assumption | trivial | omega | (simp [-List.getD_eq_getElem?_getD] <;> omega) | (simp (disch := omega) only [w64, wu64] <;> omega) | (simp (disch := omega) [-List.getD_eq_getElem?_getD, List.getD_cons_zero, List.getD_cons_succ, kCast_self, dfl_pair, dfl_int, w64, wu64] <;> omega) | (rw [Bool.eq_iff_iff]; simp (disch := omega) [-List.getD_eq_getElem?_getD, List.getD_cons_zero, List.getD_cons_succ, kCast_self, dfl_pair, dfl_int, w64, wu64] <;> omega) | (simp_all [-List.getD_eq_getElem?_getD] <;> omega))
theorem dz_tri (m : MemS) (k a x old : Int) (h1 : 1 ≤ k) (h5 : k ≤ 5) : Tri En 19 [.ptr 0 0 0, .agg [.slice 1 0 0, .int .i64 0, .int .i64 0], .agg [.int .i64 k, .int .i64 a, .int .u64 x, .int .u64 old]] [memC 2 m, .tab true (.int .u64) [], memT m] (.tuple [.any, .any]) [memC 2 (opS m k a x old), .gone, memT (opS m k a x old)] := by
  have hk : k = 1 ∨ k = 2 ∨ k = 3 ∨ k = 4 ∨ k = 5 := by omega
  rcases hk with rfl | rfl | rfl | rfl | rfl
  · rw [show opS m 1 a x old = m.acc 1 a by simp [opS]]; exact dz_1 m a x old
  · rw [show opS m 2 a x old = (m.acc 2 a).put a x by simp [opS]]; exact dz_2 m a x old
  · rw [show opS m 3 a x old = (m.acc 3 a).put a x by simp [opS]]; exact dz_3 m a x old
  · by_cases h : m.inr a
    · by_cases h2 : m.get a = old
      · rw [show opS m 4 a x old = (m.acc 4 a).put a x by simp [opS, h, h2]]; exact dz_4y m a x old h h2
      · rw [show opS m 4 a x old = m.acc 4 a by simp [opS, h2]]; exact dz_4n m a x old h h2
    · rw [show opS m 4 a x old = m.acc 4 a by simp [opS, h]]; exact dz_4o m a x old h
  · rw [show opS m 5 a x old = (m.acc 5 a).put a (IntKind.u64.wrap (m.get a + x)) by simp [opS]]; exact dz_5 m a x old
theorem dz_none (m : MemS) (k a x old : Int) (hk : k < 1 ∨ 5 < k) : Tri En 19 [.ptr 0 0 0, .agg [.slice 1 0 0, .int .i64 0, .int .i64 0], .agg [.int .i64 k, .int .i64 a, .int .u64 x, .int .u64 old]] [memC 2 m, .tab true (.int .u64) [], memT m] (.tuple [.any, .any]) [memC 2 m, .gone, memT m] := by
  have hp' := mem_peek m a
  have h1 := rin_no true ⟨[], 0, 0, 0, 0⟩ a (by simp [MemS.inr])
  refine Tri.of Try.func19 rfl Try.call19 rfl ?_
  by_cases hk1 : k < 1
  · refine Goods.fin 2000 [.s 15 (some true) true true, .c (.of h1), .c (.of hp')] mixed Try.func19 ?_
    show Yes _
    repeat' apply And.intro
    (all_goals first | rfl | assumption | trivial | omega | (simp [-List.getD_eq_getElem?_getD] <;> omega) | (simp (disch := omega) only [w64, wu64] <;> omega) | (simp (disch := omega) [-List.getD_eq_getElem?_getD, List.getD_cons_zero, List.getD_cons_succ, kCast_self, dfl_pair, dfl_int, w64, wu64] <;> omega) | (rw [Bool.eq_iff_iff]; simp (disch := omega) [-List.getD_eq_getElem?_getD, List.getD_cons_zero, List.getD_cons_succ, kCast_self, dfl_pair, dfl_int, w64, wu64] <;> omega) | (simp_all [-List.getD_eq_getElem?_getD] <;> omega))
  · refine Goods.fin 2000 [.s 15 (some false) true true, .s 19 (some true) true true, .c (.of h1), .c (.of hp')] mixed Try.func19 ?_
    show Yes _
    repeat' apply And.intro
    (all_goals first | rfl | assumption | trivial | omega | (simp [-List.getD_eq_getElem?_getD] <;> omega) | (simp (disch := omega) only [w64, wu64] <;> omega) | (simp (disch := omega) [-List.getD_eq_getElem?_getD, List.getD_cons_zero, List.getD_cons_succ, kCast_self, dfl_pair, dfl_int, w64, wu64] <;> omega) | (rw [Bool.eq_iff_iff]; simp (disch := omega) [-List.getD_eq_getElem?_getD, List.getD_cons_zero, List.getD_cons_succ, kCast_self, dfl_pair, dfl_int, w64, wu64] <;> omega) | (simp_all [-List.getD_eq_getElem?_getD] <;> omega))
/-- The loop within: how many words changed. -/
noncomputable abbrev gOne (l : List (ty OpsK)) : Frm := ⟨En, 7, Try.f7.ntmps, [.tab false OpsK l], .bl true, gones 1⟩
/-- What is left of a round once all words were looked at. -/
theorem one_1 (l : List (ty OpsK)) (i : Nat) (was : List Int) (ops : Int) (m : MemS) (hm : m.words.length = was.length) (hw : was.length ≤ 1000000) (kk a x old : Int) (hd : diffN was m.words was.length ≤ 1)
    (hk : (1 ≤ kk ∧ kk ≤ 5 ∧ IntKind.i64.wrap (m.ops - ops) = 1) ∨ ((kk < 1 ∨ 5 < kk) ∧ IntKind.i64.wrap (m.ops - ops) = 0 ∧ diffN was m.words was.length = 0))
    (next : Goods (gOne l) ⟨.none, lp Try.f7 0, [(5, .ptr 1 0 0), (22, .slice 0 0 l.length), (23, .int .i64 l.length), (24, .int .i64 (i + 1 : Nat))], hp [.tab false OpsK l, memC 2 m, memT m]⟩) (hi : i ≤ 1000000) : ∀ (j k : Nat), k + j = was.length → Goods (gOne l) ⟨.none, lp Try.f7 1,
    [(5, .ptr 1 0 0), (7, .ptr 2 0 0), (8, .slice 3 0 was.length), (9, .int .i64 ops), (10, .slice 4 0 was.length), (11, .int .i64 (diffN was m.words k : Nat)), (22, .slice 0 0 l.length), (23, .int .i64 l.length), (24, .int .i64 i), (38, .slice 3 0 was.length), (39, .int .i64 was.length), (40, .int .i64 k)],
    hp [.tab false OpsK l, memC 5 m, .cells [.int .i64 kk, .int .i64 a, .int .u64 x, .int .u64 old], .tab true (.int .u64) was, .tab true (.int .u64) m.words, memT m]⟩
  | 0, k, h => by
    obtain rfl : k = was.length := by omega
    have ho := mem_ops m
    rcases hk with ⟨k1, k5, hs⟩ | ⟨hk, hs, hz⟩
    · refine Goods.to 2000 [.b false, .c (.of ho), .s 67 (some true) true true, .s 71 (some true) true true, .s 75 (some false) true true, .s 80 (some false) true true, .s 84 (some false) true true, .s 94 (some false) true true, .s 101 (some false) true true, .l, .stop] mixed (next) (by kernel_rfl) ?_
      show Yes _
      repeat' apply And.intro
      (all_goals first | rfl | assumption | trivial | omega | (simp [-List.getD_eq_getElem?_getD, hs] <;> omega) | (simp (disch := omega) only [w64, wu64] <;> omega) | (simp (disch := omega) [-List.getD_eq_getElem?_getD, List.getD_cons_zero, List.getD_cons_succ, kCast_self, dfl_pair, dfl_int, w64, wu64, hs] <;> omega) | (rw [Bool.eq_iff_iff]; simp (disch := omega) [-List.getD_eq_getElem?_getD, List.getD_cons_zero, List.getD_cons_succ, kCast_self, dfl_pair, dfl_int, w64, wu64, hs] <;> omega) | (simp_all [-List.getD_eq_getElem?_getD] <;> omega))
    · by_cases hk1 : 1 ≤ kk
      · refine Goods.to 2000 [.b false, .c (.of ho), .s 67 (some true) true true, .s 71 (some false) true true, .s 80 (some false) true true, .s 84 (some true) true true, .s 88 (some false) true true, .s 94 (some false) true true, .s 101 (some false) true true, .l, .stop] mixed (next) (by kernel_rfl) ?_
        show Yes _
        repeat' apply And.intro
        (all_goals first | rfl | assumption | trivial | omega | (simp [-List.getD_eq_getElem?_getD, hs, hz] <;> omega) | (simp (disch := omega) only [w64, wu64] <;> omega) | (simp (disch := omega) [-List.getD_eq_getElem?_getD, List.getD_cons_zero, List.getD_cons_succ, kCast_self, dfl_pair, dfl_int, w64, wu64, hs, hz] <;> omega) | (rw [Bool.eq_iff_iff]; simp (disch := omega) [-List.getD_eq_getElem?_getD, List.getD_cons_zero, List.getD_cons_succ, kCast_self, dfl_pair, dfl_int, w64, wu64, hs, hz] <;> omega) | (simp_all [-List.getD_eq_getElem?_getD] <;> omega))
      · refine Goods.to 2000 [.b false, .c (.of ho), .s 67 (some false) true true, .s 80 (some true) true true, .s 88 (some false) true true, .s 94 (some false) true true, .s 101 (some false) true true, .l, .stop] mixed (next) (by kernel_rfl) ?_
        show Yes _
        repeat' apply And.intro
        (all_goals first | rfl | assumption | trivial | omega | (simp [-List.getD_eq_getElem?_getD, hs, hz] <;> omega) | (simp (disch := omega) only [w64, wu64] <;> omega) | (simp (disch := omega) [-List.getD_eq_getElem?_getD, List.getD_cons_zero, List.getD_cons_succ, kCast_self, dfl_pair, dfl_int, w64, wu64, hs, hz] <;> omega) | (rw [Bool.eq_iff_iff]; simp (disch := omega) [-List.getD_eq_getElem?_getD, List.getD_cons_zero, List.getD_cons_succ, kCast_self, dfl_pair, dfl_int, w64, wu64, hs, hz] <;> omega) | (simp_all [-List.getD_eq_getElem?_getD] <;> omega))
  | j + 1, k, h => by
    have ih := one_1 l i was ops m hm hw kk a x old hd hk next hi j (k + 1) (by omega)
    have hs := diffN_succ was m.words k
    have hle : diffN was m.words k ≤ k := by unfold diffN; exact Nat.le_trans (List.length_filter_le _ _) (by simp)
    by_cases he : was.getD k 0 = m.words.getD k 0
    · rw [if_pos he] at hs
      rw [hs] at ih
      refine Goods.to 2000 [.b true, .s 46 (some false) true true, .b false, .l, .stop] mixed (ih) (by kernel_rfl) ?_
      show Yes _
      repeat' apply And.intro
      (all_goals first | rfl | assumption | trivial | omega | (simp [-List.getD_eq_getElem?_getD, he] <;> omega) | (simp (disch := omega) only [w64, wu64] <;> omega) | (simp (disch := omega) [-List.getD_eq_getElem?_getD, List.getD_cons_zero, List.getD_cons_succ, kCast_self, dfl_pair, dfl_int, w64, wu64, he] <;> omega) | (rw [Bool.eq_iff_iff]; simp (disch := omega) [-List.getD_eq_getElem?_getD, List.getD_cons_zero, List.getD_cons_succ, kCast_self, dfl_pair, dfl_int, w64, wu64, he] <;> omega) | (simp_all [-List.getD_eq_getElem?_getD] <;> omega))
    · rw [if_neg he] at hs
      rw [hs] at ih
      refine Goods.to 2000 [.b true, .s 46 (some false) true true, .b true, .l, .stop] mixed (ih) (by kernel_rfl) ?_
      show Yes _
      repeat' apply And.intro
      (all_goals first | rfl | assumption | trivial | omega | (simp [-List.getD_eq_getElem?_getD, he] <;> omega) | (simp (disch := omega) only [w64, wu64] <;> omega) | (simp (disch := omega) [-List.getD_eq_getElem?_getD, List.getD_cons_zero, List.getD_cons_succ, kCast_self, dfl_pair, dfl_int, w64, wu64, he] <;> omega) | (rw [Bool.eq_iff_iff]; simp (disch := omega) [-List.getD_eq_getElem?_getD, List.getD_cons_zero, List.getD_cons_succ, kCast_self, dfl_pair, dfl_int, w64, wu64, he] <;> omega) | (simp_all [-List.getD_eq_getElem?_getD] <;> omega))
theorem inc_sub (x : Int) : IntKind.i64.wrap (inc x - x) = 1 := by
  unfold inc IntKind.wrap
  simp [IntKind.bits, IntKind.signed]
  omega
theorem one_0 (l : List (ty OpsK)) (hl : l.length ≤ 100) : ∀ (j k : Nat) (m : MemS), k + j = l.length → m.words.length ≤ 1000000 → Goods (gOne l) ⟨.none, lp Try.f7 0,
    [(5, .ptr 1 0 0), (22, .slice 0 0 l.length), (23, .int .i64 l.length), (24, .int .i64 k)], hp [.tab false OpsK l, memC 2 m, memT m]⟩
  | 0, k, m, h, hm => by
    refine Goods.fin 2000 [.b false] mixed Try.func7 ?_
    show Yes _
    repeat' apply And.intro
    (all_goals first | rfl | assumption | trivial | omega | (simp [-List.getD_eq_getElem?_getD] <;> omega) | (simp (disch := omega) only [w64, wu64] <;> omega) | (simp (disch := omega) [-List.getD_eq_getElem?_getD, List.getD_cons_zero, List.getD_cons_succ, kCast_self, dfl_pair, dfl_int, w64, wu64] <;> omega) | (rw [Bool.eq_iff_iff]; simp (disch := omega) [-List.getD_eq_getElem?_getD, List.getD_cons_zero, List.getD_cons_succ, kCast_self, dfl_pair, dfl_int, w64, wu64] <;> omega) | (simp_all [-List.getD_eq_getElem?_getD] <;> omega))
  | j + 1, k, m, h, hm => by
    obtain ⟨⟨kk, a, x, old⟩, hn⟩ : ∃ p : Int × Int × Int × Int, l.getD k (0, 0, 0, 0) = p := ⟨_, rfl⟩
    have hw := mem_words m (by omega)
    have ho := mem_ops m
    by_cases hk : 1 ≤ kk ∧ kk ≤ 5
    · have hd := dz_tri m kk a x old hk.1 hk.2
      have hlen := opS_len m kk a x old
      have hw2 := mem_words (opS m kk a x old) (by omega)
      have next := one_0 l hl j (k + 1) (opS m kk a x old) (by omega) (by omega)
      have ih := one_1 l k m.words m.ops (opS m kk a x old) hlen hm kk a x old (opS_diff ..) (.inl ⟨hk.1, hk.2, by rw [opS_ops m kk a x old hk.1 hk.2]; exact inc_sub _⟩) next (by omega) m.words.length 0 (by omega)
      refine Goods.to 2000 [.b true, .c (.of hw), .c (.of ho), .c (.of ref_zero), .c (.of hd), .c (.of hw2), .l, .stop] mixed (ih) (by kernel_rfl) ?_
      show Yes _
      repeat' apply And.intro
      (all_goals first | rfl | assumption | trivial | omega | (simp [-List.getD_eq_getElem?_getD, hn, hlen] <;> omega) | (simp (disch := omega) only [w64, wu64] <;> omega) | (simp (disch := omega) [-List.getD_eq_getElem?_getD, List.getD_cons_zero, List.getD_cons_succ, kCast_self, dfl_pair, dfl_int, w64, wu64, hn, hlen] <;> omega) | (rw [Bool.eq_iff_iff]; simp (disch := omega) [-List.getD_eq_getElem?_getD, List.getD_cons_zero, List.getD_cons_succ, kCast_self, dfl_pair, dfl_int, w64, wu64, hn, hlen] <;> omega) | (simp_all [-List.getD_eq_getElem?_getD] <;> omega))
    · have hd := dz_none m kk a x old (by omega)
      have next := one_0 l hl j (k + 1) m (by omega) hm
      have ih := one_1 l k m.words m.ops m rfl hm kk a x old (by rw [diffN_same]; omega) (.inr ⟨by omega, by rw [Int.sub_self]; rfl, diffN_same _ _⟩) next (by omega) m.words.length 0 (by omega)
      refine Goods.to 2000 [.b true, .c (.of hw), .c (.of ho), .c (.of ref_zero), .c (.of hd), .c (.of hw), .l, .stop] mixed (ih) (by kernel_rfl) ?_
      show Yes _
      repeat' apply And.intro
      (all_goals first | rfl | assumption | trivial | omega | (simp [-List.getD_eq_getElem?_getD, hn] <;> omega) | (simp (disch := omega) only [w64, wu64] <;> omega) | (simp (disch := omega) [-List.getD_eq_getElem?_getD, List.getD_cons_zero, List.getD_cons_succ, kCast_self, dfl_pair, dfl_int, w64, wu64, hn] <;> omega) | (rw [Bool.eq_iff_iff]; simp (disch := omega) [-List.getD_eq_getElem?_getD, List.getD_cons_zero, List.getD_cons_succ, kCast_self, dfl_pair, dfl_int, w64, wu64, hn] <;> omega) | (simp_all [-List.getD_eq_getElem?_getD] <;> omega))
theorem MemOne_tri (n : Nat) (hn : n ≤ 255) (l : List (ty OpsK)) : Tri En 7 [.int .u8 n, .slice 0 0 l.length] [.tab false OpsK l] (.bl true) (gones 1) := by
  refine Tri.of Try.func7 rfl Try.call7 rfl ?_
  by_cases hl : 100 < l.length
  · refine Goods.fin 2000 [.c (.of speaks_tri), .b true] mixed Try.func7 ?_
    show Yes _
    repeat' apply And.intro
    (all_goals first | rfl | assumption | trivial | omega | (simp [-List.getD_eq_getElem?_getD] <;> omega) | (simp (disch := omega) only [w64, wu64] <;> omega) | (simp (disch := omega) [-List.getD_eq_getElem?_getD, List.getD_cons_zero, List.getD_cons_succ, kCast_self, dfl_pair, dfl_int, w64, wu64] <;> omega) | (rw [Bool.eq_iff_iff]; simp (disch := omega) [-List.getD_eq_getElem?_getD, List.getD_cons_zero, List.getD_cons_succ, kCast_self, dfl_pair, dfl_int, w64, wu64] <;> omega) | (simp_all [-List.getD_eq_getElem?_getD] <;> omega))
  · have h1 := mem_new n
    rw [show (min (max (n : Int) 0) 16777216).toNat = n by omega] at h1
    have ih := one_0 l (by omega) l.length 0 ⟨List.replicate n 0, 0, 0, 0, 0⟩ (by omega) (by simp; omega)
    refine Goods.to 2000 [.c (.of speaks_tri), .b false, .c (.of h1), .l, .stop] mixed (ih) (by kernel_rfl) ?_
    show Yes _
    repeat' apply And.intro
    (all_goals first | rfl | assumption | trivial | omega | (simp [-List.getD_eq_getElem?_getD] <;> omega) | (simp (disch := omega) only [w64, wu64] <;> omega) | (simp (disch := omega) [-List.getD_eq_getElem?_getD, List.getD_cons_zero, List.getD_cons_succ, kCast_self, dfl_pair, dfl_int, w64, wu64] <;> omega) | (rw [Bool.eq_iff_iff]; simp (disch := omega) [-List.getD_eq_getElem?_getD, List.getD_cons_zero, List.getD_cons_succ, kCast_self, dfl_pair, dfl_int, w64, wu64] <;> omega) | (simp_all [-List.getD_eq_getElem?_getD] <;> omega))
theorem MemOne_law (d : dats ([(false, (.int .u8)), (false, (.slice (.pair (.int .i64) (.pair (.int .i64) (.pair (.int .u64) (.pair (.int .u64) .unit))))))] : List (Bool × Sh))) (hd : datsOk ([(false, (.int .u8)), (false, (.slice (.pair (.int .i64) (.pair (.int .i64) (.pair (.int .u64) (.pair (.int .u64) .unit))))))] : List (Bool × Sh)) d) : Tri En 7 (argsOf ([(false, (.int .u8)), (false, (.slice (.pair (.int .i64) (.pair (.int .i64) (.pair (.int .u64) (.pair (.int .u64) .unit))))))] : List (Bool × Sh)) d 0) (objsOf ([(false, (.int .u8)), (false, (.slice (.pair (.int .i64) (.pair (.int .i64) (.pair (.int .u64) (.pair (.int .u64) .unit))))))] : List (Bool × Sh)) d) (.bl true) (gones (cnts ([(false, (.int .u8)), (false, (.slice (.pair (.int .i64) (.pair (.int .i64) (.pair (.int .u64) (.pair (.int .u64) .unit))))))] : List (Bool × Sh)))) := by
  obtain ⟨n, l, _⟩ := d
  obtain ⟨h0, _⟩ := hd
  obtain ⟨n, rfl, hn⟩ := wf_u8 h0
  exact MemOne_tri n hn l
end Go.Proofs.Ytlmoifbklpflaaa.E
