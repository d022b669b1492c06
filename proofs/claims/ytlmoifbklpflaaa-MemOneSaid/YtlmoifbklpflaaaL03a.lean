/- MemDoes, MemOne: an access of both. -/
import Derived.Test.YtlmoifbklpflaaaPmem
namespace Go.Proofs.Ytlmoifbklpflaaa.E
open Go
set_option maxRecDepth 100000

theorem inc_ne (x : Int) : inc x ≠ x := by
  unfold inc IntKind.wrap
  simp [IntKind.bits, IntKind.signed]
  omega
theorem swing_yes (m : MemS) (a old x : Int) (h : m.inr a) (h2 : m.get a = old) : Tri En 12 [.ptr 0 0 0, .int .i64 a, .int .u64 old, .int .u64 x] [memC 1 m, memT m] (.bl true) [memC 1 ((m.acc 4 a).put a x), memT ((m.acc 4 a).put a x)] := by
  rw [MemS.put_in (m := m.acc 4 a) h]
  rw [MemS.get_in h] at h2
  have h0 := h.1
  have h1 := h.2
  have hf := MemS.acc_faults h 4
  refine Tri.of Try.func12 rfl Try.call12 rfl ?_
  refine Goods.fin 2000 [.c (.of (at_in m 4 a h)), .s 22 (some false) true true, .b false] mixed Try.func12 ?_
  show Yes _
  repeat' apply And.intro
  (all_goals first | rfl | assumption | trivial | omega | (simp [-List.getD_eq_getElem?_getD, h2, hf] <;> omega) | (simp (disch := omega) only [w64, wu64] <;> omega) | (simp (disch := omega) [-List.getD_eq_getElem?_getD, List.getD_cons_zero, List.getD_cons_succ, kCast_self, dfl_pair, dfl_int, w64, wu64, h2, hf] <;> omega) | (rw [Bool.eq_iff_iff]; simp (disch := omega) [-List.getD_eq_getElem?_getD, List.getD_cons_zero, List.getD_cons_succ, kCast_self, dfl_pair, dfl_int, w64, wu64, h2, hf] <;> omega) | (simp_all [-List.getD_eq_getElem?_getD] <;> omega))
theorem swing_no (m : MemS) (a old x : Int) (h : m.inr a) (h2 : m.get a ≠ old) : Tri En 12 [.ptr 0 0 0, .int .i64 a, .int .u64 old, .int .u64 x] [memC 1 m, memT m] (.bl false) [memC 1 (m.acc 4 a), memT m] := by
  rw [MemS.get_in h] at h2
  have h0 := h.1
  have h1 := h.2
  refine Tri.of Try.func12 rfl Try.call12 rfl ?_
  refine Goods.fin 2000 [.c (.of (at_in m 4 a h)), .s 22 (some true) true true] mixed Try.func12 ?_
  show Yes _
  repeat' apply And.intro
  (all_goals first | rfl | assumption | trivial | omega | (simp [-List.getD_eq_getElem?_getD, h2] <;> omega) | (simp (disch := omega) only [w64, wu64] <;> omega) | (simp (disch := omega) [-List.getD_eq_getElem?_getD, List.getD_cons_zero, List.getD_cons_succ, kCast_self, dfl_pair, dfl_int, w64, wu64, h2] <;> omega) | (rw [Bool.eq_iff_iff]; simp (disch := omega) [-List.getD_eq_getElem?_getD, List.getD_cons_zero, List.getD_cons_succ, kCast_self, dfl_pair, dfl_int, w64, wu64, h2] <;> omega) | (simp_all [-List.getD_eq_getElem?_getD] <;> omega))
theorem swing_out (m : MemS) (a old x : Int) (h : ¬ m.inr a) : Tri En 12 [.ptr 0 0 0, .int .i64 a, .int .u64 old, .int .u64 x] [memC 1 m, memT m] (.bl false) [memC 1 (m.acc 4 a), memT m] := by
  have hf : (m.acc 4 a).faults = inc m.faults := by rw [MemS.acc_out h]
  have hne := inc_ne m.faults
  refine Tri.of Try.func12 rfl Try.call12 rfl ?_
  by_cases h2 : old = 0
  · refine Goods.fin 2000 [.c (.of (at_out m 4 a h)), .s 22 (some false) true true, .b true] mixed Try.func12 ?_
    show Yes _
    repeat' apply And.intro
    (all_goals first | rfl | assumption | trivial | omega | (simp [-List.getD_eq_getElem?_getD, hf, hne, h2] <;> omega) | (simp (disch := omega) only [w64, wu64] <;> omega) | (simp (disch := omega) [-List.getD_eq_getElem?_getD, List.getD_cons_zero, List.getD_cons_succ, kCast_self, dfl_pair, dfl_int, w64, wu64, hf, hne, h2] <;> omega) | (rw [Bool.eq_iff_iff]; simp (disch := omega) [-List.getD_eq_getElem?_getD, List.getD_cons_zero, List.getD_cons_succ, kCast_self, dfl_pair, dfl_int, w64, wu64, hf, hne, h2] <;> omega) | (simp_all [-List.getD_eq_getElem?_getD] <;> omega))
  · refine Goods.fin 2000 [.c (.of (at_out m 4 a h)), .s 22 (some true) true true] mixed Try.func12 ?_
    show Yes _
    repeat' apply And.intro
    (all_goals first | rfl | assumption | trivial | omega | (simp [-List.getD_eq_getElem?_getD, h2] <;> omega) | (simp (disch := omega) only [w64, wu64] <;> omega) | (simp (disch := omega) [-List.getD_eq_getElem?_getD, List.getD_cons_zero, List.getD_cons_succ, kCast_self, dfl_pair, dfl_int, w64, wu64, h2] <;> omega) | (rw [Bool.eq_iff_iff]; simp (disch := omega) [-List.getD_eq_getElem?_getD, List.getD_cons_zero, List.getD_cons_succ, kCast_self, dfl_pair, dfl_int, w64, wu64, h2] <;> omega) | (simp_all [-List.getD_eq_getElem?_getD] <;> omega))
/-- The document's memory: what it keeps of one. -/
def refA (j : Nat) (m : MemS) : AV := .agg [.slice j 0 m.words.length, .int .i64 m.ops, .int .i64 m.faults]
theorem rin_yes (own : Bool) (m : MemS) (a : Int) (h : m.inr a) : Tri En 26 [refA 0 m, .int .i64 a] [.tab own (.int .u64) m.words] (.bl true) [.tab own (.int .u64) m.words] := by
  obtain ⟨h0, h1⟩ := h
  refine Tri.of Try.func26 rfl Try.call26 rfl ?_
  refine Goods.fin 2000 [.s 6 (some true) true true] mixed Try.func26 ?_
  show Yes _
  repeat' apply And.intro
  (all_goals first | rfl | assumption | trivial | omega | (simp [-List.getD_eq_getElem?_getD] <;> omega) | (simp (disch := omega) only [w64, wu64] <;> omega) | (simp (disch := omega) [-List.getD_eq_getElem?_getD, List.getD_cons_zero, List.getD_cons_succ, kCast_self, dfl_pair, dfl_int, w64, wu64] <;> omega) | (rw [Bool.eq_iff_iff]; simp (disch := omega) [-List.getD_eq_getElem?_getD, List.getD_cons_zero, List.getD_cons_succ, kCast_self, dfl_pair, dfl_int, w64, wu64] <;> omega) | (simp_all [-List.getD_eq_getElem?_getD] <;> omega))
theorem rin_no (own : Bool) (m : MemS) (a : Int) (h : ¬ m.inr a) : Tri En 26 [refA 0 m, .int .i64 a] [.tab own (.int .u64) m.words] (.bl false) [.tab own (.int .u64) m.words] := by
  unfold MemS.inr at h
  refine Tri.of Try.func26 rfl Try.call26 rfl ?_
  by_cases h0 : 0 ≤ a
  · refine Goods.fin 2000 [.s 6 (some true) true true] mixed Try.func26 ?_
    show Yes _
    repeat' apply And.intro
    (all_goals first | rfl | assumption | trivial | omega | (simp [-List.getD_eq_getElem?_getD] <;> omega) | (simp (disch := omega) only [w64, wu64] <;> omega) | (simp (disch := omega) [-List.getD_eq_getElem?_getD, List.getD_cons_zero, List.getD_cons_succ, kCast_self, dfl_pair, dfl_int, w64, wu64] <;> omega) | (rw [Bool.eq_iff_iff]; simp (disch := omega) [-List.getD_eq_getElem?_getD, List.getD_cons_zero, List.getD_cons_succ, kCast_self, dfl_pair, dfl_int, w64, wu64] <;> omega) | (simp_all [-List.getD_eq_getElem?_getD] <;> omega))
  · refine Goods.fin 2000 [.s 6 (some false) true true] mixed Try.func26 ?_
    show Yes _
    repeat' apply And.intro
    (all_goals first | rfl | assumption | trivial | omega | (simp [-List.getD_eq_getElem?_getD] <;> omega) | (simp (disch := omega) only [w64, wu64] <;> omega) | (simp (disch := omega) [-List.getD_eq_getElem?_getD, List.getD_cons_zero, List.getD_cons_succ, kCast_self, dfl_pair, dfl_int, w64, wu64] <;> omega) | (rw [Bool.eq_iff_iff]; simp (disch := omega) [-List.getD_eq_getElem?_getD, List.getD_cons_zero, List.getD_cons_succ, kCast_self, dfl_pair, dfl_int, w64, wu64] <;> omega) | (simp_all [-List.getD_eq_getElem?_getD] <;> omega))
theorem ref_new (n : Nat) (hn : n ≤ 1000000) : Tri En 18 [.int .i64 n] [] (refA 0 ⟨List.replicate n 0, 0, 0, 0, 0⟩) [.tab true (.int .u64) (List.replicate n 0)] := by
  refine Tri.of Try.func18 rfl Try.call18 rfl ?_
  refine Goods.fin 2000 [.b false] mixed Try.func18 ?_
  show Yes _
  repeat' apply And.intro
  (all_goals first | rfl | assumption | trivial | omega | (simp [-List.getD_eq_getElem?_getD] <;> omega) | (simp (disch := omega) only [w64, wu64] <;> omega) | (simp (disch := omega) [-List.getD_eq_getElem?_getD, List.getD_cons_zero, List.getD_cons_succ, kCast_self, dfl_pair, dfl_int, w64, wu64] <;> omega) | (rw [Bool.eq_iff_iff]; simp (disch := omega) [-List.getD_eq_getElem?_getD, List.getD_cons_zero, List.getD_cons_succ, kCast_self, dfl_pair, dfl_int, w64, wu64] <;> omega) | (simp_all [-List.getD_eq_getElem?_getD] <;> omega))
theorem rdo_out (own : Bool) (m : MemS) (hm : m.words.length ≤ 17179869184) (k a x old : Int) (h : ¬ m.inr a) : Tri En 27 [refA 0 m, .int .i64 k, .int .i64 a, .int .u64 x, .int .u64 old] [.tab own (.int .u64) m.words] (.tuple [refA 1 (m.acc k a), .int .u64 0, .bl false]) [.tab own (.int .u64) m.words, .tab true (.int .u64) m.words] := by
  have h1 := rin_no own m a h
  rw [MemS.acc_out h]
  refine Tri.of Try.func27 rfl Try.call27 rfl ?_
  refine Goods.fin 2000 [.c (.of h1)] mixed Try.func27 ?_
  show Yes _
  repeat' apply And.intro
  (all_goals first | rfl | assumption | trivial | omega | (simp [-List.getD_eq_getElem?_getD, inc] <;> omega) | (simp (disch := omega) only [w64, wu64] <;> omega) | (simp (disch := omega) [-List.getD_eq_getElem?_getD, List.getD_cons_zero, List.getD_cons_succ, kCast_self, dfl_pair, dfl_int, w64, wu64, inc] <;> omega) | (rw [Bool.eq_iff_iff]; simp (disch := omega) [-List.getD_eq_getElem?_getD, List.getD_cons_zero, List.getD_cons_succ, kCast_self, dfl_pair, dfl_int, w64, wu64, inc] <;> omega) | (simp_all [-List.getD_eq_getElem?_getD] <;> omega))
theorem rdo_1 (own : Bool) (m : MemS) (hm : m.words.length ≤ 17179869184) (a x old : Int) (h : m.inr a) : Tri En 27 [refA 0 m, .int .i64 1, .int .i64 a, .int .u64 x, .int .u64 old] [.tab own (.int .u64) m.words] (.tuple [refA 1 (m.acc 1 a), .int .u64 (m.get a), .bl false]) [.tab own (.int .u64) m.words, .tab true (.int .u64) (m.acc 1 a).words] := by
  have h1 := rin_yes own m a h
  have g0 := h.1
  have g1 := h.2
  rw [MemS.acc_in h]
  rw [MemS.get_in h]
  refine Tri.of Try.func27 rfl Try.call27 rfl ?_
  refine Goods.fin 2000 [.c (.of h1), .s 41 (some false) true true, .s 42 (some false) true true, .s 49 (some false) true true, .s 61 (some false) true true, .s 70 (some false) true true] mixed Try.func27 ?_
  show Yes _
  repeat' apply And.intro
  (all_goals first | rfl | assumption | trivial | omega | (simp [-List.getD_eq_getElem?_getD, inc] <;> omega) | (simp (disch := omega) only [w64, wu64] <;> omega) | (simp (disch := omega) [-List.getD_eq_getElem?_getD, List.getD_cons_zero, List.getD_cons_succ, kCast_self, dfl_pair, dfl_int, w64, wu64, inc] <;> omega) | (rw [Bool.eq_iff_iff]; simp (disch := omega) [-List.getD_eq_getElem?_getD, List.getD_cons_zero, List.getD_cons_succ, kCast_self, dfl_pair, dfl_int, w64, wu64, inc] <;> omega) | (simp_all [-List.getD_eq_getElem?_getD] <;> omega))
theorem rdo_2 (own : Bool) (m : MemS) (hm : m.words.length ≤ 17179869184) (a x old : Int) (h : m.inr a) : Tri En 27 [refA 0 m, .int .i64 2, .int .i64 a, .int .u64 x, .int .u64 old] [.tab own (.int .u64) m.words] (.tuple [refA 1 ((m.acc 2 a).put a x), .int .u64 (0), .bl false]) [.tab own (.int .u64) m.words, .tab true (.int .u64) ((m.acc 2 a).put a x).words] := by
  have h1 := rin_yes own m a h
  have g0 := h.1
  have g1 := h.2
  rw [MemS.put_in (m := m.acc 2 a) h]
  rw [MemS.acc_in h]
  refine Tri.of Try.func27 rfl Try.call27 rfl ?_
  refine Goods.fin 2000 [.c (.of h1), .s 41 (some true) true true, .s 70 (some true) true true] mixed Try.func27 ?_
  show Yes _
  repeat' apply And.intro
  (all_goals first | rfl | assumption | trivial | omega | (simp [-List.getD_eq_getElem?_getD, inc] <;> omega) | (simp (disch := omega) only [w64, wu64] <;> omega) | (simp (disch := omega) [-List.getD_eq_getElem?_getD, List.getD_cons_zero, List.getD_cons_succ, kCast_self, dfl_pair, dfl_int, w64, wu64, inc] <;> omega) | (rw [Bool.eq_iff_iff]; simp (disch := omega) [-List.getD_eq_getElem?_getD, List.getD_cons_zero, List.getD_cons_succ, kCast_self, dfl_pair, dfl_int, w64, wu64, inc] <;> omega) | (simp_all [-List.getD_eq_getElem?_getD] <;> omega))
theorem rdo_3 (own : Bool) (m : MemS) (hm : m.words.length ≤ 17179869184) (a x old : Int) (h : m.inr a) : Tri En 27 [refA 0 m, .int .i64 3, .int .i64 a, .int .u64 x, .int .u64 old] [.tab own (.int .u64) m.words] (.tuple [refA 1 ((m.acc 3 a).put a x), .int .u64 (m.get a), .bl false]) [.tab own (.int .u64) m.words, .tab true (.int .u64) ((m.acc 3 a).put a x).words] := by
  have h1 := rin_yes own m a h
  have g0 := h.1
  have g1 := h.2
  rw [MemS.put_in (m := m.acc 3 a) h]
  rw [MemS.acc_in h]
  rw [MemS.get_in h]
  refine Tri.of Try.func27 rfl Try.call27 rfl ?_
  refine Goods.fin 2000 [.c (.of h1), .s 41 (some false) true true, .s 42 (some true) true true, .s 70 (some false) true true] mixed Try.func27 ?_
  show Yes _
  repeat' apply And.intro
  (all_goals first | rfl | assumption | trivial | omega | (simp [-List.getD_eq_getElem?_getD, inc] <;> omega) | (simp (disch := omega) only [w64, wu64] <;> omega) | (simp (disch := omega) [-List.getD_eq_getElem?_getD, List.getD_cons_zero, List.getD_cons_succ, kCast_self, dfl_pair, dfl_int, w64, wu64, inc] <;> omega) | (rw [Bool.eq_iff_iff]; simp (disch := omega) [-List.getD_eq_getElem?_getD, List.getD_cons_zero, List.getD_cons_succ, kCast_self, dfl_pair, dfl_int, w64, wu64, inc] <;> omega) | (simp_all [-List.getD_eq_getElem?_getD] <;> omega))
theorem rdo_4y (own : Bool) (m : MemS) (hm : m.words.length ≤ 17179869184) (a x old : Int) (h : m.inr a) (h2 : m.get a = old) : Tri En 27 [refA 0 m, .int .i64 4, .int .i64 a, .int .u64 x, .int .u64 old] [.tab own (.int .u64) m.words] (.tuple [refA 1 ((m.acc 4 a).put a x), .int .u64 (0), .bl true]) [.tab own (.int .u64) m.words, .tab true (.int .u64) ((m.acc 4 a).put a x).words] := by
  have h1 := rin_yes own m a h
  have g0 := h.1
  have g1 := h.2
  rw [MemS.put_in (m := m.acc 4 a) h]
  rw [MemS.acc_in h]
  rw [MemS.get_in h] at h2
  refine Tri.of Try.func27 rfl Try.call27 rfl ?_
  refine Goods.fin 2000 [.c (.of h1), .s 41 (some false) true true, .s 42 (some false) true true, .s 49 (some true) true true, .s 52 (some false) true true] mixed Try.func27 ?_
  show Yes _
  repeat' apply And.intro
  (all_goals first | rfl | assumption | trivial | omega | (simp [-List.getD_eq_getElem?_getD, inc, h2] <;> omega) | (simp (disch := omega) only [w64, wu64] <;> omega) | (simp (disch := omega) [-List.getD_eq_getElem?_getD, List.getD_cons_zero, List.getD_cons_succ, kCast_self, dfl_pair, dfl_int, w64, wu64, inc, h2] <;> omega) | (rw [Bool.eq_iff_iff]; simp (disch := omega) [-List.getD_eq_getElem?_getD, List.getD_cons_zero, List.getD_cons_succ, kCast_self, dfl_pair, dfl_int, w64, wu64, inc, h2] <;> omega) | (simp_all [-List.getD_eq_getElem?_getD] <;> omega))
theorem rdo_4n (own : Bool) (m : MemS) (hm : m.words.length ≤ 17179869184) (a x old : Int) (h : m.inr a) (h2 : m.get a ≠ old) : Tri En 27 [refA 0 m, .int .i64 4, .int .i64 a, .int .u64 x, .int .u64 old] [.tab own (.int .u64) m.words] (.tuple [refA 1 (m.acc 4 a), .int .u64 (0), .bl false]) [.tab own (.int .u64) m.words, .tab true (.int .u64) (m.acc 4 a).words] := by
  have h1 := rin_yes own m a h
  have g0 := h.1
  have g1 := h.2
  rw [MemS.acc_in h]
  rw [MemS.get_in h] at h2
  refine Tri.of Try.func27 rfl Try.call27 rfl ?_
  refine Goods.fin 2000 [.c (.of h1), .s 41 (some false) true true, .s 42 (some false) true true, .s 49 (some true) true true, .s 52 (some true) true true] mixed Try.func27 ?_
  show Yes _
  repeat' apply And.intro
  (all_goals first | rfl | assumption | trivial | omega | (simp [-List.getD_eq_getElem?_getD, inc, h2] <;> omega) | (simp (disch := omega) only [w64, wu64] <;> omega) | (simp (disch := omega) [-List.getD_eq_getElem?_getD, List.getD_cons_zero, List.getD_cons_succ, kCast_self, dfl_pair, dfl_int, w64, wu64, inc, h2] <;> omega) | (rw [Bool.eq_iff_iff]; simp (disch := omega) [-List.getD_eq_getElem?_getD, List.getD_cons_zero, List.getD_cons_succ, kCast_self, dfl_pair, dfl_int, w64, wu64, inc, h2] <;> omega) | (simp_all [-List.getD_eq_getElem?_getD] <;> omega))
theorem rdo_5 (own : Bool) (m : MemS) (hm : m.words.length ≤ 17179869184) (a x old : Int) (h : m.inr a) : Tri En 27 [refA 0 m, .int .i64 5, .int .i64 a, .int .u64 x, .int .u64 old] [.tab own (.int .u64) m.words] (.tuple [refA 1 ((m.acc 5 a).put a (IntKind.u64.wrap (m.get a + x))), .int .u64 (m.get a), .bl false]) [.tab own (.int .u64) m.words, .tab true (.int .u64) ((m.acc 5 a).put a (IntKind.u64.wrap (m.get a + x))).words] := by
  have h1 := rin_yes own m a h
  have g0 := h.1
  have g1 := h.2
  rw [MemS.put_in (m := m.acc 5 a) h]
  rw [MemS.acc_in h]
  rw [MemS.get_in h]
  refine Tri.of Try.func27 rfl Try.call27 rfl ?_
  refine Goods.fin 2000 [.c (.of h1), .s 41 (some false) true true, .s 42 (some false) true true, .s 49 (some false) true true, .s 61 (some true) true true, .s 70 (some false) true true] mixed Try.func27 ?_
  show Yes _
  repeat' apply And.intro
  (all_goals first | rfl | assumption | trivial | omega | (simp [-List.getD_eq_getElem?_getD, inc] <;> omega) | (simp (disch := omega) only [w64, wu64] <;> omega) | (simp (disch := omega) [-List.getD_eq_getElem?_getD, List.getD_cons_zero, List.getD_cons_succ, kCast_self, dfl_pair, dfl_int, w64, wu64, inc] <;> omega) | (rw [Bool.eq_iff_iff]; simp (disch := omega) [-List.getD_eq_getElem?_getD, List.getD_cons_zero, List.getD_cons_succ, kCast_self, dfl_pair, dfl_int, w64, wu64, inc] <;> omega) | (simp_all [-List.getD_eq_getElem?_getD] <;> omega))
theorem do_1 (own : Bool) (m : MemS) (hm : m.words.length ≤ 17179869184) (a x old : Int) (h : m.inr a) : Tri En 19 [.ptr 0 0 0, refA 1 m, .agg [.int .i64 1, .int .i64 a, .int .u64 x, .int .u64 old]] [memC 2 m, .tab own (.int .u64) m.words, memT m] (.tuple [refA 3 (m.acc 1 a), .bl true]) [memC 2 (m.acc 1 a), .tab own (.int .u64) m.words, memT (m.acc 1 a), .tab true (.int .u64) (m.acc 1 a).words] := by
  have h1 := mem_load m a
  have h2' := rdo_1 own m hm a x old h
  have h3 := mem_last (m.acc 1 a)
  have e1 : (m.acc 1 a).lk = 1 := rfl
  have e2 : (m.acc 1 a).la = a := rfl
  refine Tri.of Try.func19 rfl Try.call19 rfl ?_
  refine Goods.fin 2000 [.s 15 (some false) true true, .s 19 (some false) true true, .s 41 (some true) true true, .c (.of h1), .c (.of h2'), .s 97 (some true) true true, .c (.of h3)] mixed Try.func19 ?_
  show Yes _
  repeat' apply And.intro
  (all_goals first | rfl | assumption | trivial | omega | (simp [-List.getD_eq_getElem?_getD, e1, e2] <;> omega) | (simp (disch := omega) only [w64, wu64] <;> omega) | (simp (disch := omega) [-List.getD_eq_getElem?_getD, List.getD_cons_zero, List.getD_cons_succ, kCast_self, dfl_pair, dfl_int, w64, wu64, e1, e2] <;> omega) | (rw [Bool.eq_iff_iff]; simp (disch := omega) [-List.getD_eq_getElem?_getD, List.getD_cons_zero, List.getD_cons_succ, kCast_self, dfl_pair, dfl_int, w64, wu64, e1, e2] <;> omega) | (simp_all [-List.getD_eq_getElem?_getD] <;> omega))
theorem do_2 (own : Bool) (m : MemS) (hm : m.words.length ≤ 17179869184) (a x old : Int) (h : m.inr a) : Tri En 19 [.ptr 0 0 0, refA 1 m, .agg [.int .i64 2, .int .i64 a, .int .u64 x, .int .u64 old]] [memC 2 m, .tab own (.int .u64) m.words, memT m] (.tuple [refA 3 ((m.acc 2 a).put a x), .bl true]) [memC 2 ((m.acc 2 a).put a x), .tab own (.int .u64) m.words, memT ((m.acc 2 a).put a x), .tab true (.int .u64) ((m.acc 2 a).put a x).words] := by
  have h1 := mem_store m a x
  have h2' := rdo_2 own m hm a x old h
  have h3 := mem_last ((m.acc 2 a).put a x)
  have e1 : ((m.acc 2 a).put a x).lk = 2 := rfl
  have e2 : ((m.acc 2 a).put a x).la = a := rfl
  refine Tri.of Try.func19 rfl Try.call19 rfl ?_
  refine Goods.fin 2000 [.s 15 (some false) true true, .s 19 (some false) true true, .s 41 (some false) true true, .s 47 (some true) true true, .c (.of h1), .c (.of h2'), .s 97 (some true) true true, .c (.of h3)] mixed Try.func19 ?_
  show Yes _
  repeat' apply And.intro
  (all_goals first | rfl | assumption | trivial | omega | (simp [-List.getD_eq_getElem?_getD, e1, e2] <;> omega) | (simp (disch := omega) only [w64, wu64] <;> omega) | (simp (disch := omega) [-List.getD_eq_getElem?_getD, List.getD_cons_zero, List.getD_cons_succ, kCast_self, dfl_pair, dfl_int, w64, wu64, e1, e2] <;> omega) | (rw [Bool.eq_iff_iff]; simp (disch := omega) [-List.getD_eq_getElem?_getD, List.getD_cons_zero, List.getD_cons_succ, kCast_self, dfl_pair, dfl_int, w64, wu64, e1, e2] <;> omega) | (simp_all [-List.getD_eq_getElem?_getD] <;> omega))
theorem do_3 (own : Bool) (m : MemS) (hm : m.words.length ≤ 17179869184) (a x old : Int) (h : m.inr a) : Tri En 19 [.ptr 0 0 0, refA 1 m, .agg [.int .i64 3, .int .i64 a, .int .u64 x, .int .u64 old]] [memC 2 m, .tab own (.int .u64) m.words, memT m] (.tuple [refA 3 ((m.acc 3 a).put a x), .bl true]) [memC 2 ((m.acc 3 a).put a x), .tab own (.int .u64) m.words, memT ((m.acc 3 a).put a x), .tab true (.int .u64) ((m.acc 3 a).put a x).words] := by
  have h1 := mem_swap m a x
  have h2' := rdo_3 own m hm a x old h
  have h3 := mem_last ((m.acc 3 a).put a x)
  have e1 : ((m.acc 3 a).put a x).lk = 3 := rfl
  have e2 : ((m.acc 3 a).put a x).la = a := rfl
  refine Tri.of Try.func19 rfl Try.call19 rfl ?_
  refine Goods.fin 2000 [.s 15 (some false) true true, .s 19 (some false) true true, .s 41 (some false) true true, .s 47 (some false) true true, .s 55 (some true) true true, .c (.of h1), .c (.of h2'), .s 97 (some true) true true, .c (.of h3)] mixed Try.func19 ?_
  show Yes _
  repeat' apply And.intro
  (all_goals first | rfl | assumption | trivial | omega | (simp [-List.getD_eq_getElem?_getD, e1, e2] <;> omega) | (simp (disch := omega) only [w64, wu64] <;> omega) | (simp (disch := omega) [-List.getD_eq_getElem?_getD, List.getD_cons_zero, List.getD_cons_succ, kCast_self, dfl_pair, dfl_int, w64, wu64, e1, e2] <;> omega) | (rw [Bool.eq_iff_iff]; simp (disch := omega) [-List.getD_eq_getElem?_getD, List.getD_cons_zero, List.getD_cons_succ, kCast_self, dfl_pair, dfl_int, w64, wu64, e1, e2] <;> omega) | (simp_all [-List.getD_eq_getElem?_getD] <;> omega))
theorem do_4y (own : Bool) (m : MemS) (hm : m.words.length ≤ 17179869184) (a x old : Int) (h : m.inr a) (h2 : m.get a = old) : Tri En 19 [.ptr 0 0 0, refA 1 m, .agg [.int .i64 4, .int .i64 a, .int .u64 x, .int .u64 old]] [memC 2 m, .tab own (.int .u64) m.words, memT m] (.tuple [refA 3 ((m.acc 4 a).put a x), .bl true]) [memC 2 ((m.acc 4 a).put a x), .tab own (.int .u64) m.words, memT ((m.acc 4 a).put a x), .tab true (.int .u64) ((m.acc 4 a).put a x).words] := by
  have h1 := swing_yes m a old x h h2
  have h2' := rdo_4y own m hm a x old h h2
  have h3 := mem_last ((m.acc 4 a).put a x)
  have e1 : ((m.acc 4 a).put a x).lk = 4 := rfl
  have e2 : ((m.acc 4 a).put a x).la = a := rfl
  refine Tri.of Try.func19 rfl Try.call19 rfl ?_
  refine Goods.fin 2000 [.s 15 (some false) true true, .s 19 (some false) true true, .s 41 (some false) true true, .s 47 (some false) true true, .s 55 (some false) true true, .s 63 (some true) true true, .c (.of h1), .c (.of h2'), .s 97 (some true) true true, .c (.of h3)] mixed Try.func19 ?_
  show Yes _
  repeat' apply And.intro
  (all_goals first | rfl | assumption | trivial | omega | (simp [-List.getD_eq_getElem?_getD, e1, e2] <;> omega) | (simp (disch := omega) only [w64, wu64] <;> omega) | (simp (disch := omega) [-List.getD_eq_getElem?_getD, List.getD_cons_zero, List.getD_cons_succ, kCast_self, dfl_pair, dfl_int, w64, wu64, e1, e2] <;> omega) | (rw [Bool.eq_iff_iff]; simp (disch := omega) [-List.getD_eq_getElem?_getD, List.getD_cons_zero, List.getD_cons_succ, kCast_self, dfl_pair, dfl_int, w64, wu64, e1, e2] <;> omega) | (simp_all [-List.getD_eq_getElem?_getD] <;> omega))
theorem do_4n (own : Bool) (m : MemS) (hm : m.words.length ≤ 17179869184) (a x old : Int) (h : m.inr a) (h2 : m.get a ≠ old) : Tri En 19 [.ptr 0 0 0, refA 1 m, .agg [.int .i64 4, .int .i64 a, .int .u64 x, .int .u64 old]] [memC 2 m, .tab own (.int .u64) m.words, memT m] (.tuple [refA 3 (m.acc 4 a), .bl true]) [memC 2 (m.acc 4 a), .tab own (.int .u64) m.words, memT (m.acc 4 a), .tab true (.int .u64) (m.acc 4 a).words] := by
  have h1 := swing_no m a old x h h2
  have h2' := rdo_4n own m hm a x old h h2
  have h3 := mem_last (m.acc 4 a)
  have e1 : (m.acc 4 a).lk = 4 := rfl
  have e2 : (m.acc 4 a).la = a := rfl
  refine Tri.of Try.func19 rfl Try.call19 rfl ?_
  refine Goods.fin 2000 [.s 15 (some false) true true, .s 19 (some false) true true, .s 41 (some false) true true, .s 47 (some false) true true, .s 55 (some false) true true, .s 63 (some true) true true, .c (.of h1), .c (.of h2'), .s 97 (some true) true true, .c (.of h3)] mixed Try.func19 ?_
  show Yes _
  repeat' apply And.intro
  (all_goals first | rfl | assumption | trivial | omega | (simp [-List.getD_eq_getElem?_getD, e1, e2] <;> omega) | (simp (disch := omega) only [w64, wu64] <;> omega) | (simp (disch := omega) [-List.getD_eq_getElem?_getD, List.getD_cons_zero, List.getD_cons_succ, kCast_self, dfl_pair, dfl_int, w64, wu64, e1, e2] <;> omega) | (rw [Bool.eq_iff_iff]; simp (disch := omega) [-List.getD_eq_getElem?_getD, List.getD_cons_zero, List.getD_cons_succ, kCast_self, dfl_pair, dfl_int, w64, wu64, e1, e2] <;> omega) | (simp_all [-List.getD_eq_getElem?_getD] <;> omega))
theorem do_5 (own : Bool) (m : MemS) (hm : m.words.length ≤ 17179869184) (a x old : Int) (h : m.inr a) : Tri En 19 [.ptr 0 0 0, refA 1 m, .agg [.int .i64 5, .int .i64 a, .int .u64 x, .int .u64 old]] [memC 2 m, .tab own (.int .u64) m.words, memT m] (.tuple [refA 3 ((m.acc 5 a).put a (IntKind.u64.wrap (m.get a + x))), .bl true]) [memC 2 ((m.acc 5 a).put a (IntKind.u64.wrap (m.get a + x))), .tab own (.int .u64) m.words, memT ((m.acc 5 a).put a (IntKind.u64.wrap (m.get a + x))), .tab true (.int .u64) ((m.acc 5 a).put a (IntKind.u64.wrap (m.get a + x))).words] := by
  have h1 := mem_add m a x
  have h2' := rdo_5 own m hm a x old h
  have h3 := mem_last ((m.acc 5 a).put a (IntKind.u64.wrap (m.get a + x)))
  have e1 : ((m.acc 5 a).put a (IntKind.u64.wrap (m.get a + x))).lk = 5 := rfl
  have e2 : ((m.acc 5 a).put a (IntKind.u64.wrap (m.get a + x))).la = a := rfl
  refine Tri.of Try.func19 rfl Try.call19 rfl ?_
  refine Goods.fin 2000 [.s 15 (some false) true true, .s 19 (some false) true true, .s 41 (some false) true true, .s 47 (some false) true true, .s 55 (some false) true true, .s 63 (some false) true true, .s 73 (some true) true true, .c (.of h1), .c (.of h2'), .s 97 (some true) true true, .c (.of h3)] mixed Try.func19 ?_
  show Yes _
  repeat' apply And.intro
  (all_goals first | rfl | assumption | trivial | omega | (simp [-List.getD_eq_getElem?_getD, e1, e2] <;> omega) | (simp (disch := omega) only [w64, wu64] <;> omega) | (simp (disch := omega) [-List.getD_eq_getElem?_getD, List.getD_cons_zero, List.getD_cons_succ, kCast_self, dfl_pair, dfl_int, w64, wu64, e1, e2] <;> omega) | (rw [Bool.eq_iff_iff]; simp (disch := omega) [-List.getD_eq_getElem?_getD, List.getD_cons_zero, List.getD_cons_succ, kCast_self, dfl_pair, dfl_int, w64, wu64, e1, e2] <;> omega) | (simp_all [-List.getD_eq_getElem?_getD] <;> omega))
theorem do_1o (own : Bool) (m : MemS) (hm : m.words.length ≤ 17179869184) (a x old : Int) (h : ¬ m.inr a) : Tri En 19 [.ptr 0 0 0, refA 1 m, .agg [.int .i64 1, .int .i64 a, .int .u64 x, .int .u64 old]] [memC 2 m, .tab own (.int .u64) m.words, memT m] (.tuple [refA 3 (m.acc 1 a), .bl true]) [memC 2 (m.acc 1 a), .tab own (.int .u64) m.words, memT (m.acc 1 a), .tab true (.int .u64) (m.acc 1 a).words] := by
  have h1 := mem_load m a
  rw [MemS.get_out h] at h1
  have h2' := rdo_out own m hm 1 a x old h
  have h3 := mem_last (m.acc 1 a)
  have e1 : (m.acc 1 a).lk = 1 := rfl
  have e2 : (m.acc 1 a).la = a := rfl
  refine Tri.of Try.func19 rfl Try.call19 rfl ?_
  refine Goods.fin 2000 [.s 15 (some false) true true, .s 19 (some false) true true, .s 41 (some true) true true, .c (.of h1), .c (.of h2'), .s 97 (some true) true true, .c (.of h3)] mixed Try.func19 ?_
  show Yes _
  repeat' apply And.intro
  (all_goals first | rfl | assumption | trivial | omega | (simp [-List.getD_eq_getElem?_getD, e1, e2] <;> omega) | (simp (disch := omega) only [w64, wu64] <;> omega) | (simp (disch := omega) [-List.getD_eq_getElem?_getD, List.getD_cons_zero, List.getD_cons_succ, kCast_self, dfl_pair, dfl_int, w64, wu64, e1, e2] <;> omega) | (rw [Bool.eq_iff_iff]; simp (disch := omega) [-List.getD_eq_getElem?_getD, List.getD_cons_zero, List.getD_cons_succ, kCast_self, dfl_pair, dfl_int, w64, wu64, e1, e2] <;> omega) | (simp_all [-List.getD_eq_getElem?_getD] <;> omega))
theorem do_2o (own : Bool) (m : MemS) (hm : m.words.length ≤ 17179869184) (a x old : Int) (h : ¬ m.inr a) : Tri En 19 [.ptr 0 0 0, refA 1 m, .agg [.int .i64 2, .int .i64 a, .int .u64 x, .int .u64 old]] [memC 2 m, .tab own (.int .u64) m.words, memT m] (.tuple [refA 3 (m.acc 2 a), .bl true]) [memC 2 (m.acc 2 a), .tab own (.int .u64) m.words, memT (m.acc 2 a), .tab true (.int .u64) (m.acc 2 a).words] := by
  have h1 := mem_store m a x
  rw [MemS.put_out (m := m.acc 2 a) h] at h1
  have h2' := rdo_out own m hm 2 a x old h
  have h3 := mem_last (m.acc 2 a)
  have e1 : (m.acc 2 a).lk = 2 := rfl
  have e2 : (m.acc 2 a).la = a := rfl
  refine Tri.of Try.func19 rfl Try.call19 rfl ?_
  refine Goods.fin 2000 [.s 15 (some false) true true, .s 19 (some false) true true, .s 41 (some false) true true, .s 47 (some true) true true, .c (.of h1), .c (.of h2'), .s 97 (some true) true true, .c (.of h3)] mixed Try.func19 ?_
  show Yes _
  repeat' apply And.intro
  (all_goals first | rfl | assumption | trivial | omega | (simp [-List.getD_eq_getElem?_getD, e1, e2] <;> omega) | (simp (disch := omega) only [w64, wu64] <;> omega) | (simp (disch := omega) [-List.getD_eq_getElem?_getD, List.getD_cons_zero, List.getD_cons_succ, kCast_self, dfl_pair, dfl_int, w64, wu64, e1, e2] <;> omega) | (rw [Bool.eq_iff_iff]; simp (disch := omega) [-List.getD_eq_getElem?_getD, List.getD_cons_zero, List.getD_cons_succ, kCast_self, dfl_pair, dfl_int, w64, wu64, e1, e2] <;> omega) | (simp_all [-List.getD_eq_getElem?_getD] <;> omega))
theorem do_3o (own : Bool) (m : MemS) (hm : m.words.length ≤ 17179869184) (a x old : Int) (h : ¬ m.inr a) : Tri En 19 [.ptr 0 0 0, refA 1 m, .agg [.int .i64 3, .int .i64 a, .int .u64 x, .int .u64 old]] [memC 2 m, .tab own (.int .u64) m.words, memT m] (.tuple [refA 3 (m.acc 3 a), .bl true]) [memC 2 (m.acc 3 a), .tab own (.int .u64) m.words, memT (m.acc 3 a), .tab true (.int .u64) (m.acc 3 a).words] := by
  have h1 := mem_swap m a x
  rw [MemS.put_out (m := m.acc 3 a) h, MemS.get_out h] at h1
  have h2' := rdo_out own m hm 3 a x old h
  have h3 := mem_last (m.acc 3 a)
  have e1 : (m.acc 3 a).lk = 3 := rfl
  have e2 : (m.acc 3 a).la = a := rfl
  refine Tri.of Try.func19 rfl Try.call19 rfl ?_
  refine Goods.fin 2000 [.s 15 (some false) true true, .s 19 (some false) true true, .s 41 (some false) true true, .s 47 (some false) true true, .s 55 (some true) true true, .c (.of h1), .c (.of h2'), .s 97 (some true) true true, .c (.of h3)] mixed Try.func19 ?_
  show Yes _
  repeat' apply And.intro
  (all_goals first | rfl | assumption | trivial | omega | (simp [-List.getD_eq_getElem?_getD, e1, e2] <;> omega) | (simp (disch := omega) only [w64, wu64] <;> omega) | (simp (disch := omega) [-List.getD_eq_getElem?_getD, List.getD_cons_zero, List.getD_cons_succ, kCast_self, dfl_pair, dfl_int, w64, wu64, e1, e2] <;> omega) | (rw [Bool.eq_iff_iff]; simp (disch := omega) [-List.getD_eq_getElem?_getD, List.getD_cons_zero, List.getD_cons_succ, kCast_self, dfl_pair, dfl_int, w64, wu64, e1, e2] <;> omega) | (simp_all [-List.getD_eq_getElem?_getD] <;> omega))
theorem do_4o (own : Bool) (m : MemS) (hm : m.words.length ≤ 17179869184) (a x old : Int) (h : ¬ m.inr a) : Tri En 19 [.ptr 0 0 0, refA 1 m, .agg [.int .i64 4, .int .i64 a, .int .u64 x, .int .u64 old]] [memC 2 m, .tab own (.int .u64) m.words, memT m] (.tuple [refA 3 (m.acc 4 a), .bl true]) [memC 2 (m.acc 4 a), .tab own (.int .u64) m.words, memT (m.acc 4 a), .tab true (.int .u64) (m.acc 4 a).words] := by
  have h1 := swing_out m a old x h
  have h2' := rdo_out own m hm 4 a x old h
  have h3 := mem_last (m.acc 4 a)
  have e1 : (m.acc 4 a).lk = 4 := rfl
  have e2 : (m.acc 4 a).la = a := rfl
  refine Tri.of Try.func19 rfl Try.call19 rfl ?_
  refine Goods.fin 2000 [.s 15 (some false) true true, .s 19 (some false) true true, .s 41 (some false) true true, .s 47 (some false) true true, .s 55 (some false) true true, .s 63 (some true) true true, .c (.of h1), .c (.of h2'), .s 97 (some true) true true, .c (.of h3)] mixed Try.func19 ?_
  show Yes _
  repeat' apply And.intro
  (all_goals first | rfl | assumption | trivial | omega | (simp [-List.getD_eq_getElem?_getD, e1, e2] <;> omega) | (simp (disch := omega) only [w64, wu64] <;> omega) | (simp (disch := omega) [-List.getD_eq_getElem?_getD, List.getD_cons_zero, List.getD_cons_succ, kCast_self, dfl_pair, dfl_int, w64, wu64, e1, e2] <;> omega) | (rw [Bool.eq_iff_iff]; simp (disch := omega) [-List.getD_eq_getElem?_getD, List.getD_cons_zero, List.getD_cons_succ, kCast_self, dfl_pair, dfl_int, w64, wu64, e1, e2] <;> omega) | (simp_all [-List.getD_eq_getElem?_getD] <;> omega))
theorem do_5o (own : Bool) (m : MemS) (hm : m.words.length ≤ 17179869184) (a x old : Int) (h : ¬ m.inr a) : Tri En 19 [.ptr 0 0 0, refA 1 m, .agg [.int .i64 5, .int .i64 a, .int .u64 x, .int .u64 old]] [memC 2 m, .tab own (.int .u64) m.words, memT m] (.tuple [refA 3 (m.acc 5 a), .bl true]) [memC 2 (m.acc 5 a), .tab own (.int .u64) m.words, memT (m.acc 5 a), .tab true (.int .u64) (m.acc 5 a).words] := by
  have h1 := mem_add m a x
  rw [MemS.put_out (m := m.acc 5 a) h, MemS.get_out h] at h1
  have h2' := rdo_out own m hm 5 a x old h
  have h3 := mem_last (m.acc 5 a)
  have e1 : (m.acc 5 a).lk = 5 := rfl
  have e2 : (m.acc 5 a).la = a := rfl
  refine Tri.of Try.func19 rfl Try.call19 rfl ?_
  refine Goods.fin 2000 [.s 15 (some false) true true, .s 19 (some false) true true, .s 41 (some false) true true, .s 47 (some false) true true, .s 55 (some false) true true, .s 63 (some false) true true, .s 73 (some true) true true, .c (.of h1), .c (.of h2'), .s 97 (some true) true true, .c (.of h3)] mixed Try.func19 ?_
  show Yes _
  repeat' apply And.intro
  (all_goals first | rfl | assumption | trivial | omega | (simp [-List.getD_eq_getElem?_getD, e1, e2] <;> omega) | (simp (disch := omega) only [w64, wu64] <;> omega) | (simp (disch := omega) [-List.getD_eq_getElem?_getD, List.getD_cons_zero, List.getD_cons_succ, kCast_self, dfl_pair, dfl_int, w64, wu64, e1, e2] <;> omega) | (rw [Bool.eq_iff_iff]; simp (disch := omega) [-List.getD_eq_getElem?_getD, List.getD_cons_zero, List.getD_cons_succ, kCast_self, dfl_pair, dfl_int, w64, wu64, e1, e2] <;> omega) | (simp_all [-List.getD_eq_getElem?_getD] <;> omega))
/-- What an access of any kind leaves. -/
def opS (m : MemS) (k a x old : Int) : MemS := if k = 1 then m.acc 1 a else if k = 2 then (m.acc 2 a).put a x else if k = 3 then (m.acc 3 a).put a x else if k = 4 then (if m.inr a ∧ m.get a = old then (m.acc 4 a).put a x else m.acc 4 a) else if k = 5 then (m.acc 5 a).put a (IntKind.u64.wrap (m.get a + x)) else m
theorem do_tri (own : Bool) (m : MemS) (hm : m.words.length ≤ 17179869184) (k a x old : Int) (h1 : 1 ≤ k) (h5 : k ≤ 5) : Tri En 19 [.ptr 0 0 0, refA 1 m, .agg [.int .i64 k, .int .i64 a, .int .u64 x, .int .u64 old]] [memC 2 m, .tab own (.int .u64) m.words, memT m] (.tuple [refA 3 (opS m k a x old), .bl true]) [memC 2 (opS m k a x old), .tab own (.int .u64) m.words, memT (opS m k a x old), .tab true (.int .u64) (opS m k a x old).words] := by
  have hk : k = 1 ∨ k = 2 ∨ k = 3 ∨ k = 4 ∨ k = 5 := by omega
  by_cases h : m.inr a
  · rcases hk with rfl | rfl | rfl | rfl | rfl
    · rw [show opS m 1 a x old = m.acc 1 a by simp [opS]]; exact do_1 own m hm a x old h
    · rw [show opS m 2 a x old = (m.acc 2 a).put a x by simp [opS]]; exact do_2 own m hm a x old h
    · rw [show opS m 3 a x old = (m.acc 3 a).put a x by simp [opS]]; exact do_3 own m hm a x old h
    · by_cases h2 : m.get a = old
      · rw [show opS m 4 a x old = (m.acc 4 a).put a x by simp [opS, h, h2]]; exact do_4y own m hm a x old h h2
      · rw [show opS m 4 a x old = m.acc 4 a by simp [opS, h2]]; exact do_4n own m hm a x old h h2
    · rw [show opS m 5 a x old = (m.acc 5 a).put a (IntKind.u64.wrap (m.get a + x)) by simp [opS]]; exact do_5 own m hm a x old h
  · rcases hk with rfl | rfl | rfl | rfl | rfl
    · rw [show opS m 1 a x old = m.acc 1 a by simp [opS]]; exact do_1o own m hm a x old h
    · rw [show opS m 2 a x old = m.acc 2 a by simp [opS, MemS.put_out (m := m.acc 2 a) h]]; exact do_2o own m hm a x old h
    · rw [show opS m 3 a x old = m.acc 3 a by simp [opS, MemS.put_out (m := m.acc 3 a) h]]; exact do_3o own m hm a x old h
    · rw [show opS m 4 a x old = m.acc 4 a by simp [opS, h]]; exact do_4o own m hm a x old h
    · rw [show opS m 5 a x old = m.acc 5 a by simp [opS, MemS.put_out (m := m.acc 5 a) h]]; exact do_5o own m hm a x old h
theorem opS_len (m : MemS) (k a x old : Int) : (opS m k a x old).words.length = m.words.length := by
  unfold opS; split <;> (try split) <;> (try split) <;> (try split) <;> (try split) <;> (try split) <;> simp [MemS.put_len, MemS.acc_words]
theorem do_none (own : Bool) (m : MemS) (k a x old : Int) (hk : k < 1 ∨ 5 < k) : Tri En 19 [.ptr 0 0 0, refA 1 m, .agg [.int .i64 k, .int .i64 a, .int .u64 x, .int .u64 old]] [memC 2 m, .tab own (.int .u64) m.words, memT m] (.tuple [refA 1 m, .bl true]) [memC 2 m, .tab own (.int .u64) m.words, memT m] := by
  have hp' := mem_peek m a
  refine Tri.of Try.func19 rfl Try.call19 rfl ?_
  by_cases h : m.inr a
  · have h1 := rin_yes own m a h
    have g0 := h.1
    have g1 := h.2
    rw [MemS.get_in h] at hp'
    by_cases hk1 : k < 1
    · refine Goods.fin 2000 [.s 15 (some true) true true, .c (.of h1), .c (.of hp')] mixed Try.func19 ?_
      show Yes _
      repeat' apply And.intro
      (all_goals first | rfl | assumption | trivial | omega | (simp [-List.getD_eq_getElem?_getD] <;> omega) | (simp (disch := omega) only [w64, wu64] <;> omega) | (simp (disch := omega) [-List.getD_eq_getElem?_getD, List.getD_cons_zero, List.getD_cons_succ, kCast_self, dfl_pair, dfl_int, w64, wu64] <;> omega) | (rw [Bool.eq_iff_iff]; simp (disch := omega) [-List.getD_eq_getElem?_getD, List.getD_cons_zero, List.getD_cons_succ, kCast_self, dfl_pair, dfl_int, w64, wu64] <;> omega) | (simp_all [-List.getD_eq_getElem?_getD] <;> omega))
    · refine Goods.fin 2000 [.s 15 (some false) true true, .s 19 (some true) true true, .c (.of h1), .c (.of hp')] mixed Try.func19 ?_
      show Yes _
      repeat' apply And.intro
      (all_goals first | rfl | assumption | trivial | omega | (simp [-List.getD_eq_getElem?_getD] <;> omega) | (simp (disch := omega) only [w64, wu64] <;> omega) | (simp (disch := omega) [-List.getD_eq_getElem?_getD, List.getD_cons_zero, List.getD_cons_succ, kCast_self, dfl_pair, dfl_int, w64, wu64] <;> omega) | (rw [Bool.eq_iff_iff]; simp (disch := omega) [-List.getD_eq_getElem?_getD, List.getD_cons_zero, List.getD_cons_succ, kCast_self, dfl_pair, dfl_int, w64, wu64] <;> omega) | (simp_all [-List.getD_eq_getElem?_getD] <;> omega))
  · have h1 := rin_no own m a h
    rw [MemS.get_out h] at hp'
    by_cases hk1 : k < 1
    · refine Goods.fin 2000 [.s 15 (some true) true true, .c (.of h1), .c (.of hp')] mixed Try.func19 ?_
      show Yes _
      repeat' apply And.intro
      (all_goals first | rfl | assumption | trivial | omega | (simp [-List.getD_eq_getElem?_getD] <;> omega) | (simp (disch := omega) only [w64, wu64] <;> omega) | (simp (disch := omega) [-List.getD_eq_getElem?_getD, List.getD_cons_zero, List.getD_cons_succ, kCast_self, dfl_pair, dfl_int, w64, wu64] <;> omega) | (rw [Bool.eq_iff_iff]; simp (disch := omega) [-List.getD_eq_getElem?_getD, List.getD_cons_zero, List.getD_cons_succ, kCast_self, dfl_pair, dfl_int, w64, wu64] <;> omega) | (simp_all [-List.getD_eq_getElem?_getD] <;> omega))
    · refine Goods.fin 2000 [.s 15 (some false) true true, .s 19 (some true) true true, .c (.of h1), .c (.of hp')] mixed Try.func19 ?_
      show Yes _
      repeat' apply And.intro
      (all_goals first | rfl | assumption | trivial | omega | (simp [-List.getD_eq_getElem?_getD] <;> omega) | (simp (disch := omega) only [w64, wu64] <;> omega) | (simp (disch := omega) [-List.getD_eq_getElem?_getD, List.getD_cons_zero, List.getD_cons_succ, kCast_self, dfl_pair, dfl_int, w64, wu64] <;> omega) | (rw [Bool.eq_iff_iff]; simp (disch := omega) [-List.getD_eq_getElem?_getD, List.getD_cons_zero, List.getD_cons_succ, kCast_self, dfl_pair, dfl_int, w64, wu64] <;> omega) | (simp_all [-List.getD_eq_getElem?_getD] <;> omega))
end Go.Proofs.Ytlmoifbklpflaaa.E
