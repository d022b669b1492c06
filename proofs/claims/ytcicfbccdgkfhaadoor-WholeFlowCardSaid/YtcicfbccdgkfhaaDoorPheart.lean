/- Package heart: the contract of each function that reads, or writes, a superblock. -/
import Derived.Test.YtcicfbccdgkfhaaDoorHplain
import Derived.Test.YtcicfbccdgkfhaaDoorEv
namespace Go.Proofs.YtcicfbccdgkfhaaDoor.E
set_option linter.unusedSimpArgs false
set_option linter.unusedVariables false
open Go
set_option maxRecDepth 100000

def supA0 : AV := .agg [.bl true, .int .i64 (-1), .int .i64 0, .int .u64 0]
def supA1 (a m : Nat) : AV := .agg [.bl false, .int .i64 a, .int .i64 0, .int .u64 m]
def supA2 (a : Nat) : AV := .agg [.bl false, .int .i64 (-1), .int .i64 a, .int .u64 0]
def supA3 : AV := .agg [.bl false, .int .i64 (-1), .int .i64 (-1), .int .u64 0]
def supAn : AV := .agg [.bl false, .int .i64 0, .int .i64 0, .int .u64 0]
theorem f08 : FldOk ((0 : Nat) : Int) ((8 : Nat) : Int) := ⟨by omega, by omega, by omega, by omega⟩
theorem f88 : FldOk ((8 : Nat) : Int) ((8 : Nat) : Int) := ⟨by omega, by omega, by omega, by omega⟩
theorem f832 : FldOk ((8 : Nat) : Int) ((32 : Nat) : Int) := ⟨by omega, by omega, by omega, by omega⟩
theorem ix0 {i : Nat} (h : i < 1000) : (IntKind.i64.wrap (2 * (i : Int))).toNat = 2 * i := by rw [w64 (by omega) (by omega)]; omega
theorem ix1 {i : Nat} (h : i < 1000) : (IntKind.i64.wrap (IntKind.i64.wrap (2 * (i : Int)) + 1)).toNat = 2 * i + 1 := by rw [w64 (x := 2 * (i : Int)) (by omega) (by omega), w64 (by omega) (by omega)]; omega
abbrev TAt (own : Bool) (n : Nat) (f : SupF) (i : Int) (v : AV) (b : Bool) : Prop := Tri En 41 [.slice 0 0 (2 * n), .int .i64 i] [.tab own (.int .u64) (hW n f)] (.tuple [v, .bl b]) [.tab own (.int .u64) (hW n f)]
theorem at_none (own : Bool) (n : Nat) (hn : n ≤ 64) (f : SupF) (i : Int) (hi : ¬ (0 ≤ i ∧ i < n)) : TAt own n f i supAn false := by
  have hl := hW_len n f
  unfold TAt
  generalize hW n f = W at *
  refine Tri.of Tryd.func41 rfl Tryd.call41 rfl ?_
  by_cases h0 : i < 0
  · refine Goods.fin 2000 [.s 9 (some true) true true] mixed Tryd.func41 ?_
    show Yes _
    repeat' apply And.intro
    (all_goals first | rfl | assumption | trivial | omega | (simp [-List.getD_eq_getElem?_getD] <;> omega) | (simp (disch := omega) only [w64, wu64] <;> omega) | (simp (disch := omega) [-List.getD_eq_getElem?_getD, List.getD_cons_zero, List.getD_cons_succ, kCast_self, dfl_pair, dfl_int, w64, wu64] <;> omega) | (rw [Bool.eq_iff_iff]; simp (disch := omega) [-List.getD_eq_getElem?_getD, List.getD_cons_zero, List.getD_cons_succ, kCast_self, dfl_pair, dfl_int, w64, wu64] <;> omega) | (simp_all [-List.getD_eq_getElem?_getD] <;> omega))
  · refine Goods.fin 2000 [.s 9 (some false) true true, .s 15 (some true) true true] mixed Tryd.func41 ?_
    show Yes _
    repeat' apply And.intro
    (all_goals first | rfl | assumption | trivial | omega | (simp [-List.getD_eq_getElem?_getD] <;> omega) | (simp (disch := omega) only [w64, wu64] <;> omega) | (simp (disch := omega) [-List.getD_eq_getElem?_getD, List.getD_cons_zero, List.getD_cons_succ, kCast_self, dfl_pair, dfl_int, w64, wu64] <;> omega) | (rw [Bool.eq_iff_iff]; simp (disch := omega) [-List.getD_eq_getElem?_getD, List.getD_cons_zero, List.getD_cons_succ, kCast_self, dfl_pair, dfl_int, w64, wu64] <;> omega) | (simp_all [-List.getD_eq_getElem?_getD] <;> omega))
theorem at_0 (own : Bool) (n : Nat) (hn : n ≤ 64) (f : SupF) (i : Nat) (hi : i < n) (a : Nat) (ha : a < 256) (e : f i = (0, 0, 0)) : TAt own n f i supA0 true := by
  have i0 := ix0 (i := i) (by omega)
  have i1 := ix1 (i := i) (by omega)
  have hl := hW_len n f
  have h0 := hW_0 (f := f) hi
  rw [e, ← i0] at h0
  obtain ⟨e1, e2⟩ := hw_get 0 0 (by omega) (by omega)
  have hlt := hwN_lt 0 0
  have g1 := get_yes (hwN 0 0) 8 8 hlt f88
  have g0 := get_yes (hwN 0 0) 0 8 hlt f08
  rw [e2] at g1
  rw [e1] at g0
  unfold TAt
  generalize hwN 0 0 = w at *
  generalize hW n f = W at *
  refine Tri.of Tryd.func41 rfl Tryd.call41 rfl ?_
  refine Goods.fin 2000 [.s 9 (some false) true true, .s 15 (some false) true true, .k 26 (.of g1), .k 31 (.of g0), .b false, .b false, .b false] mixed Tryd.func41 ?_
  show Yes _
  repeat' apply And.intro
  (all_goals first | rfl | assumption | trivial | omega | (simp [-List.getD_eq_getElem?_getD] <;> omega) | (simp (disch := omega) only [w64, wu64] <;> omega) | (simp (disch := omega) [-List.getD_eq_getElem?_getD, List.getD_cons_zero, List.getD_cons_succ, kCast_self, dfl_pair, dfl_int, w64, wu64] <;> omega) | (rw [Bool.eq_iff_iff]; simp (disch := omega) [-List.getD_eq_getElem?_getD, List.getD_cons_zero, List.getD_cons_succ, kCast_self, dfl_pair, dfl_int, w64, wu64] <;> omega) | (simp_all [-List.getD_eq_getElem?_getD] <;> omega))
theorem at_2 (own : Bool) (n : Nat) (hn : n ≤ 64) (f : SupF) (i : Nat) (hi : i < n) (a : Nat) (ha : a < 256) (e : f i = (2, a, 0)) : TAt own n f i (supA2 a) true := by
  have i0 := ix0 (i := i) (by omega)
  have i1 := ix1 (i := i) (by omega)
  have hl := hW_len n f
  have h0 := hW_0 (f := f) hi
  rw [e, ← i0] at h0
  obtain ⟨e1, e2⟩ := hw_get 2 a (by omega) (by omega)
  have hlt := hwN_lt 2 a
  have g1 := get_yes (hwN 2 a) 8 8 hlt f88
  have g0 := get_yes (hwN 2 a) 0 8 hlt f08
  rw [e2] at g1
  rw [e1] at g0
  unfold TAt
  generalize hwN 2 a = w at *
  generalize hW n f = W at *
  refine Tri.of Tryd.func41 rfl Tryd.call41 rfl ?_
  refine Goods.fin 2000 [.s 9 (some false) true true, .s 15 (some false) true true, .k 26 (.of g1), .k 31 (.of g0), .b false, .b true] mixed Tryd.func41 ?_
  show Yes _
  repeat' apply And.intro
  (all_goals first | rfl | assumption | trivial | omega | (simp [-List.getD_eq_getElem?_getD] <;> omega) | (simp (disch := omega) only [w64, wu64] <;> omega) | (simp (disch := omega) [-List.getD_eq_getElem?_getD, List.getD_cons_zero, List.getD_cons_succ, kCast_self, dfl_pair, dfl_int, w64, wu64] <;> omega) | (rw [Bool.eq_iff_iff]; simp (disch := omega) [-List.getD_eq_getElem?_getD, List.getD_cons_zero, List.getD_cons_succ, kCast_self, dfl_pair, dfl_int, w64, wu64] <;> omega) | (simp_all [-List.getD_eq_getElem?_getD] <;> omega))
theorem at_3 (own : Bool) (n : Nat) (hn : n ≤ 64) (f : SupF) (i : Nat) (hi : i < n) (a : Nat) (ha : a < 256) (e : f i = (3, 0, 0)) : TAt own n f i supA3 true := by
  have i0 := ix0 (i := i) (by omega)
  have i1 := ix1 (i := i) (by omega)
  have hl := hW_len n f
  have h0 := hW_0 (f := f) hi
  rw [e, ← i0] at h0
  obtain ⟨e1, e2⟩ := hw_get 3 0 (by omega) (by omega)
  have hlt := hwN_lt 3 0
  have g1 := get_yes (hwN 3 0) 8 8 hlt f88
  have g0 := get_yes (hwN 3 0) 0 8 hlt f08
  rw [e2] at g1
  rw [e1] at g0
  unfold TAt
  generalize hwN 3 0 = w at *
  generalize hW n f = W at *
  refine Tri.of Tryd.func41 rfl Tryd.call41 rfl ?_
  refine Goods.fin 2000 [.s 9 (some false) true true, .s 15 (some false) true true, .k 26 (.of g1), .k 31 (.of g0), .b false, .b false, .b true] mixed Tryd.func41 ?_
  show Yes _
  repeat' apply And.intro
  (all_goals first | rfl | assumption | trivial | omega | (simp [-List.getD_eq_getElem?_getD] <;> omega) | (simp (disch := omega) only [w64, wu64] <;> omega) | (simp (disch := omega) [-List.getD_eq_getElem?_getD, List.getD_cons_zero, List.getD_cons_succ, kCast_self, dfl_pair, dfl_int, w64, wu64] <;> omega) | (rw [Bool.eq_iff_iff]; simp (disch := omega) [-List.getD_eq_getElem?_getD, List.getD_cons_zero, List.getD_cons_succ, kCast_self, dfl_pair, dfl_int, w64, wu64] <;> omega) | (simp_all [-List.getD_eq_getElem?_getD] <;> omega))
theorem at_1 (own : Bool) (n : Nat) (hn : n ≤ 64) (f : SupF) (i : Nat) (hi : i < n) (a m : Nat) (ha : a < 256) (e : f i = (1, a, m)) : TAt own n f i (supA1 a m) true := by
  have i0 := ix0 (i := i) (by omega)
  have i1 := ix1 (i := i) (by omega)
  have hl := hW_len n f
  have h0 := hW_0 (f := f) hi
  have h1 := hW_1 (f := f) hi
  rw [e, ← i0] at h0
  rw [e, ← i1] at h1
  obtain ⟨e1, e2⟩ := hw_get 1 a (by omega) ha
  have hlt := hwN_lt 1 a
  have g1 := get_yes (hwN 1 a) 8 8 hlt f88
  have g0 := get_yes (hwN 1 a) 0 8 hlt f08
  rw [e2] at g1
  rw [e1] at g0
  unfold TAt
  generalize hwN 1 a = w at *
  generalize hW n f = W at *
  refine Tri.of Tryd.func41 rfl Tryd.call41 rfl ?_
  refine Goods.fin 2000 [.s 9 (some false) true true, .s 15 (some false) true true, .k 26 (.of g1), .k 31 (.of g0), .b true] mixed Tryd.func41 ?_
  show Yes _
  repeat' apply And.intro
  (all_goals first | rfl | assumption | trivial | omega | (simp [-List.getD_eq_getElem?_getD] <;> omega) | (simp (disch := omega) only [w64, wu64] <;> omega) | (simp (disch := omega) [-List.getD_eq_getElem?_getD, List.getD_cons_zero, List.getD_cons_succ, kCast_self, dfl_pair, dfl_int, w64, wu64] <;> omega) | (rw [Bool.eq_iff_iff]; simp (disch := omega) [-List.getD_eq_getElem?_getD, List.getD_cons_zero, List.getD_cons_succ, kCast_self, dfl_pair, dfl_int, w64, wu64] <;> omega) | (simp_all [-List.getD_eq_getElem?_getD] <;> omega))
theorem put_tri (n : Nat) (hn : n ≤ 64) (f : SupF) (i : Nat) (hi : i < n) (k a m : Nat) (hk : k < 256) (ha : a < 256) : Tri En 93 [.slice 0 0 (2 * n), .int .i64 i, .int .i64 k, .int .i64 a, .int .u64 m] [.tab true (.int .u64) (hW n f)] (.tuple []) [.tab true (.int .u64) (hW n (updS f i (k, a, m)))] := by
  have i0 := ix0 (i := i) (by omega)
  have i1 := ix1 (i := i) (by omega)
  have hl := hW_len n f
  have hs := hW_set n f i k a m
  rw [← i1, ← i0] at hs
  have p0 := put_yes 0 k 0 8 (by omega) f08 (by omega)
  have p1 := put_yes (putN 0 k 0 8) a 8 8 (putN_lt ..) f88 (by omega)
  have e : putN (putN 0 k 0 8) a 8 8 = hwN k a := rfl
  rw [e] at p1
  rw [← hs]
  generalize hwN k a = w at *
  generalize putN 0 k 0 8 = y at *
  generalize hW n f = W at *
  refine Tri.of Tryd.func93 rfl Tryd.call93 rfl ?_
  refine Goods.fin 2000 [.c (.of p0), .c (.of p1)] mixed Tryd.func93 ?_
  show Yes _
  repeat' apply And.intro
  (all_goals first | rfl | assumption | trivial | omega | (simp [-List.getD_eq_getElem?_getD] <;> omega) | (simp (disch := omega) only [w64, wu64] <;> omega) | (simp (disch := omega) [-List.getD_eq_getElem?_getD, List.getD_cons_zero, List.getD_cons_succ, kCast_self, dfl_pair, dfl_int, w64, wu64] <;> omega) | (rw [Bool.eq_iff_iff]; simp (disch := omega) [-List.getD_eq_getElem?_getD, List.getD_cons_zero, List.getD_cons_succ, kCast_self, dfl_pair, dfl_int, w64, wu64] <;> omega) | (simp_all [-List.getD_eq_getElem?_getD] <;> omega))
end Go.Proofs.YtcicfbccdgkfhaaDoor.E
