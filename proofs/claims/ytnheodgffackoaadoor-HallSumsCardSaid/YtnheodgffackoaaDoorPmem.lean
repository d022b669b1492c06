/- Package mem: its plain model, and the contract of each method. -/
import Derived.Test.YtnheodgffackoaaDoorEn
namespace Go.Proofs.YtnheodgffackoaaDoor.E
set_option linter.unusedSimpArgs false
set_option linter.unusedVariables false
open Go
set_option maxRecDepth 100000

structure MemS where
  words : List Int
  ops : Int
  faults : Int
  lk : Int
  la : Int
def inc (x : Int) : Int := IntKind.i64.wrap (x + 1)
namespace MemS
def inr (m : MemS) (a : Int) : Prop := 0 ≤ a ∧ a < m.words.length
instance (m : MemS) (a : Int) : Decidable (m.inr a) := by unfold inr; infer_instance
def get (m : MemS) (a : Int) : Int := if m.inr a then m.words.getD a.toNat 0 else 0
/-- An access: how, and where. -/
def acc (m : MemS) (k a : Int) : MemS := { m with ops := inc m.ops, faults := if m.inr a then m.faults else inc m.faults, lk := k, la := a }
def put (m : MemS) (a x : Int) : MemS := { m with words := if m.inr a then m.words.set a.toNat x else m.words }
theorem acc_in {m : MemS} {a : Int} (h : m.inr a) (k : Int) : m.acc k a = { m with ops := inc m.ops, lk := k, la := a } := by simp [acc, h]
theorem acc_out {m : MemS} {a : Int} (h : ¬ m.inr a) (k : Int) : m.acc k a = { m with ops := inc m.ops, faults := inc m.faults, lk := k, la := a } := by simp [acc, h]
theorem get_in {m : MemS} {a : Int} (h : m.inr a) : m.get a = m.words.getD a.toNat 0 := by simp [get, h]
theorem get_out {m : MemS} {a : Int} (h : ¬ m.inr a) : m.get a = 0 := by simp [get, h]
theorem put_in {m : MemS} {a : Int} (h : m.inr a) (x : Int) : m.put a x = { m with words := m.words.set a.toNat x } := by simp [put, h]
theorem put_out {m : MemS} {a : Int} (h : ¬ m.inr a) (x : Int) : m.put a x = m := by simp [put, h]
/-- What an access leaves, and a put. -/
theorem put_words {m : MemS} {a : Int} (h : m.inr a) (k x : Int) : ((m.acc k a).put a x).words = m.words.set a.toNat x := by rw [put_in (m := m.acc k a) h]; rfl
theorem put_len (m : MemS) (a k x : Int) : ((m.acc k a).put a x).words.length = m.words.length := by
  by_cases h : m.inr a
  · rw [put_words h]; simp
  · rw [put_out (m := m.acc k a) h]; rfl
theorem put_ops (m : MemS) (a k x : Int) : ((m.acc k a).put a x).ops = inc m.ops := rfl
theorem put_faults {m : MemS} {a : Int} (h : m.inr a) (k x : Int) : ((m.acc k a).put a x).faults = m.faults := by show (m.acc k a).faults = _; rw [acc_in h]
theorem acc_words (m : MemS) (a k : Int) : (m.acc k a).words = m.words := rfl
theorem acc_ops (m : MemS) (a k : Int) : (m.acc k a).ops = inc m.ops := rfl
theorem acc_faults {m : MemS} {a : Int} (h : m.inr a) (k : Int) : (m.acc k a).faults = m.faults := by rw [acc_in h]
end MemS
theorem inc_nat {n : Nat} (h : n ≤ 1000000000000) : inc n = (n + 1 : Nat) := by unfold inc; rw [w64 (by omega) (by omega)]; omega
/-- The memory's struct, its words in object j; its words. -/
def memC (j : Nat) (m : MemS) : AObj := .cells [.slice j 0 m.words.length, .int .i64 m.ops, .int .i64 m.faults, .int .i64 m.lk, .int .i64 m.la]
def memT (m : MemS) : AObj := .tab true (.int .u64) m.words

theorem mem_new (n : Int) : Tri En 10 [.int .i64 n] [] (.ptr 0 0 0) [memC 1 ⟨List.replicate (min (max n 0) 16777216).toNat 0, 0, 0, 0, 0⟩, memT ⟨List.replicate (min (max n 0) 16777216).toNat 0, 0, 0, 0, 0⟩] := by
  refine Tri.of Tryd.func10 rfl Tryd.call10 rfl ?_
  refine Goods.fin 2000 [] mixed Tryd.func10 ?_
  show Yes _
  repeat' apply And.intro
  (all_goals first | rfl | assumption | trivial | omega | (simp [-List.getD_eq_getElem?_getD] <;> omega) | (simp (disch := omega) only [w64, wu64] <;> omega) | (simp (disch := omega) [-List.getD_eq_getElem?_getD, List.getD_cons_zero, List.getD_cons_succ, kCast_self, dfl_pair, dfl_int, w64, wu64] <;> omega) | (rw [Bool.eq_iff_iff]; simp (disch := omega) [-List.getD_eq_getElem?_getD, List.getD_cons_zero, List.getD_cons_succ, kCast_self, dfl_pair, dfl_int, w64, wu64] <;> omega) | (simp_all [-List.getD_eq_getElem?_getD] <;> omega))
theorem mem_len (m : MemS) : Tri En 26 [.ptr 0 0 0] [memC 1 m, memT m] (.int .i64 m.words.length) [memC 1 m, memT m] := by
  refine Tri.of Tryd.func26 rfl Tryd.call26 rfl ?_
  refine Goods.fin 2000 [] mixed Tryd.func26 ?_
  show Yes _
  repeat' apply And.intro
  (all_goals first | rfl | assumption | trivial | omega | (simp [-List.getD_eq_getElem?_getD] <;> omega) | (simp (disch := omega) only [w64, wu64] <;> omega) | (simp (disch := omega) [-List.getD_eq_getElem?_getD, List.getD_cons_zero, List.getD_cons_succ, kCast_self, dfl_pair, dfl_int, w64, wu64] <;> omega) | (rw [Bool.eq_iff_iff]; simp (disch := omega) [-List.getD_eq_getElem?_getD, List.getD_cons_zero, List.getD_cons_succ, kCast_self, dfl_pair, dfl_int, w64, wu64] <;> omega) | (simp_all [-List.getD_eq_getElem?_getD] <;> omega))
theorem mem_ops (m : MemS) : Tri En 38 [.ptr 0 0 0] [memC 1 m, memT m] (.int .i64 m.ops) [memC 1 m, memT m] := by
  refine Tri.of Tryd.func38 rfl Tryd.call38 rfl ?_
  refine Goods.fin 2000 [] mixed Tryd.func38 ?_
  show Yes _
  repeat' apply And.intro
  (all_goals first | rfl | assumption | trivial | omega | (simp [-List.getD_eq_getElem?_getD] <;> omega) | (simp (disch := omega) only [w64, wu64] <;> omega) | (simp (disch := omega) [-List.getD_eq_getElem?_getD, List.getD_cons_zero, List.getD_cons_succ, kCast_self, dfl_pair, dfl_int, w64, wu64] <;> omega) | (rw [Bool.eq_iff_iff]; simp (disch := omega) [-List.getD_eq_getElem?_getD, List.getD_cons_zero, List.getD_cons_succ, kCast_self, dfl_pair, dfl_int, w64, wu64] <;> omega) | (simp_all [-List.getD_eq_getElem?_getD] <;> omega))
theorem mem_faults (m : MemS) : Tri En 22 [.ptr 0 0 0] [memC 1 m, memT m] (.int .i64 m.faults) [memC 1 m, memT m] := by
  refine Tri.of Tryd.func22 rfl Tryd.call22 rfl ?_
  refine Goods.fin 2000 [] mixed Tryd.func22 ?_
  show Yes _
  repeat' apply And.intro
  (all_goals first | rfl | assumption | trivial | omega | (simp [-List.getD_eq_getElem?_getD] <;> omega) | (simp (disch := omega) only [w64, wu64] <;> omega) | (simp (disch := omega) [-List.getD_eq_getElem?_getD, List.getD_cons_zero, List.getD_cons_succ, kCast_self, dfl_pair, dfl_int, w64, wu64] <;> omega) | (rw [Bool.eq_iff_iff]; simp (disch := omega) [-List.getD_eq_getElem?_getD, List.getD_cons_zero, List.getD_cons_succ, kCast_self, dfl_pair, dfl_int, w64, wu64] <;> omega) | (simp_all [-List.getD_eq_getElem?_getD] <;> omega))
theorem mem_last (m : MemS) : Tri En 39 [.ptr 0 0 0] [memC 1 m, memT m] (.agg [.int .i64 m.lk, .int .i64 m.la]) [memC 1 m, memT m] := by
  refine Tri.of Tryd.func39 rfl Tryd.call39 rfl ?_
  refine Goods.fin 2000 [] mixed Tryd.func39 ?_
  show Yes _
  repeat' apply And.intro
  (all_goals first | rfl | assumption | trivial | omega | (simp [-List.getD_eq_getElem?_getD] <;> omega) | (simp (disch := omega) only [w64, wu64] <;> omega) | (simp (disch := omega) [-List.getD_eq_getElem?_getD, List.getD_cons_zero, List.getD_cons_succ, kCast_self, dfl_pair, dfl_int, w64, wu64] <;> omega) | (rw [Bool.eq_iff_iff]; simp (disch := omega) [-List.getD_eq_getElem?_getD, List.getD_cons_zero, List.getD_cons_succ, kCast_self, dfl_pair, dfl_int, w64, wu64] <;> omega) | (simp_all [-List.getD_eq_getElem?_getD] <;> omega))
theorem at_in (m : MemS) (k a : Int) (h : m.inr a) : Tri En 42 [.ptr 0 0 0, .int .i64 k, .int .i64 a] [memC 1 m, memT m] (.ptr 1 a.toNat 0) [memC 1 (m.acc k a), memT m] := by
  rw [MemS.acc_in h]
  obtain ⟨h0, h1⟩ := h
  refine Tri.of Tryd.func42 rfl Tryd.call42 rfl ?_
  refine Goods.fin 2000 [.s 21 (some false) true true, .b false] mixed Tryd.func42 ?_
  show Yes _
  repeat' apply And.intro
  (all_goals first | rfl | assumption | trivial | omega | (simp [-List.getD_eq_getElem?_getD] <;> omega) | (simp (disch := omega) only [w64, wu64] <;> omega) | (simp (disch := omega) [-List.getD_eq_getElem?_getD, List.getD_cons_zero, List.getD_cons_succ, kCast_self, dfl_pair, dfl_int, w64, wu64] <;> omega) | (rw [Bool.eq_iff_iff]; simp (disch := omega) [-List.getD_eq_getElem?_getD, List.getD_cons_zero, List.getD_cons_succ, kCast_self, dfl_pair, dfl_int, w64, wu64] <;> omega) | (simp_all [-List.getD_eq_getElem?_getD] <;> omega))
theorem at_out (m : MemS) (k a : Int) (h : ¬ m.inr a) : Tri En 42 [.ptr 0 0 0, .int .i64 k, .int .i64 a] [memC 1 m, memT m] (.ptr 2 0 0) [memC 1 (m.acc k a), memT m, .cells [.int .u64 0]] := by
  rw [MemS.acc_out h]
  unfold MemS.inr at h
  refine Tri.of Tryd.func42 rfl Tryd.call42 rfl ?_
  by_cases h0 : a < 0
  · refine Goods.fin 2000 [.s 21 (some true) true true] mixed Tryd.func42 ?_
    show Yes _
    repeat' apply And.intro
    (all_goals first | rfl | assumption | trivial | omega | (simp [-List.getD_eq_getElem?_getD] <;> omega) | (simp (disch := omega) only [w64, wu64] <;> omega) | (simp (disch := omega) [-List.getD_eq_getElem?_getD, List.getD_cons_zero, List.getD_cons_succ, kCast_self, dfl_pair, dfl_int, w64, wu64] <;> omega) | (rw [Bool.eq_iff_iff]; simp (disch := omega) [-List.getD_eq_getElem?_getD, List.getD_cons_zero, List.getD_cons_succ, kCast_self, dfl_pair, dfl_int, w64, wu64] <;> omega) | (simp_all [-List.getD_eq_getElem?_getD] <;> omega))
  · refine Goods.fin 2000 [.s 21 (some false) true true, .b true] mixed Tryd.func42 ?_
    show Yes _
    repeat' apply And.intro
    (all_goals first | rfl | assumption | trivial | omega | (simp [-List.getD_eq_getElem?_getD] <;> omega) | (simp (disch := omega) only [w64, wu64] <;> omega) | (simp (disch := omega) [-List.getD_eq_getElem?_getD, List.getD_cons_zero, List.getD_cons_succ, kCast_self, dfl_pair, dfl_int, w64, wu64] <;> omega) | (rw [Bool.eq_iff_iff]; simp (disch := omega) [-List.getD_eq_getElem?_getD, List.getD_cons_zero, List.getD_cons_succ, kCast_self, dfl_pair, dfl_int, w64, wu64] <;> omega) | (simp_all [-List.getD_eq_getElem?_getD] <;> omega))
theorem mem_load (m : MemS) (a : Int) : Tri En 44 [.ptr 0 0 0, .int .i64 a] [memC 1 m, memT m] (.int .u64 (m.get a)) [memC 1 (m.acc 1 a), memT m] := by
  refine Tri.of Tryd.func44 rfl Tryd.call44 rfl ?_
  by_cases h : m.inr a
  · rw [MemS.get_in h]
    have h0 := h.1
    have h1 := h.2
    refine Goods.fin 2000 [.c (.of (at_in m 1 a h))] mixed Tryd.func44 ?_
    show Yes _
    repeat' apply And.intro
    (all_goals first | rfl | assumption | trivial | omega | (simp [-List.getD_eq_getElem?_getD] <;> omega) | (simp (disch := omega) only [w64, wu64] <;> omega) | (simp (disch := omega) [-List.getD_eq_getElem?_getD, List.getD_cons_zero, List.getD_cons_succ, kCast_self, dfl_pair, dfl_int, w64, wu64] <;> omega) | (rw [Bool.eq_iff_iff]; simp (disch := omega) [-List.getD_eq_getElem?_getD, List.getD_cons_zero, List.getD_cons_succ, kCast_self, dfl_pair, dfl_int, w64, wu64] <;> omega) | (simp_all [-List.getD_eq_getElem?_getD] <;> omega))
  · rw [MemS.get_out h]
    refine Goods.fin 2000 [.c (.of (at_out m 1 a h))] mixed Tryd.func44 ?_
    show Yes _
    repeat' apply And.intro
    (all_goals first | rfl | assumption | trivial | omega | (simp [-List.getD_eq_getElem?_getD] <;> omega) | (simp (disch := omega) only [w64, wu64] <;> omega) | (simp (disch := omega) [-List.getD_eq_getElem?_getD, List.getD_cons_zero, List.getD_cons_succ, kCast_self, dfl_pair, dfl_int, w64, wu64] <;> omega) | (rw [Bool.eq_iff_iff]; simp (disch := omega) [-List.getD_eq_getElem?_getD, List.getD_cons_zero, List.getD_cons_succ, kCast_self, dfl_pair, dfl_int, w64, wu64] <;> omega) | (simp_all [-List.getD_eq_getElem?_getD] <;> omega))
theorem mem_store (m : MemS) (a x : Int) : Tri En 30 [.ptr 0 0 0, .int .i64 a, .int .u64 x] [memC 1 m, memT m] (.tuple []) [memC 1 ((m.acc 2 a).put a x), memT ((m.acc 2 a).put a x)] := by
  refine Tri.of Tryd.func30 rfl Tryd.call30 rfl ?_
  by_cases h : m.inr a
  · rw [MemS.put_in (m := m.acc 2 a) h]
    have h0 := h.1
    have h1 := h.2
    refine Goods.fin 2000 [.c (.of (at_in m 2 a h))] mixed Tryd.func30 ?_
    show Yes _
    repeat' apply And.intro
    (all_goals first | rfl | assumption | trivial | omega | (simp [-List.getD_eq_getElem?_getD] <;> omega) | (simp (disch := omega) only [w64, wu64] <;> omega) | (simp (disch := omega) [-List.getD_eq_getElem?_getD, List.getD_cons_zero, List.getD_cons_succ, kCast_self, dfl_pair, dfl_int, w64, wu64] <;> omega) | (rw [Bool.eq_iff_iff]; simp (disch := omega) [-List.getD_eq_getElem?_getD, List.getD_cons_zero, List.getD_cons_succ, kCast_self, dfl_pair, dfl_int, w64, wu64] <;> omega) | (simp_all [-List.getD_eq_getElem?_getD] <;> omega))
  · rw [MemS.put_out (m := m.acc 2 a) h]
    refine Goods.fin 2000 [.c (.of (at_out m 2 a h))] mixed Tryd.func30 ?_
    show Yes _
    repeat' apply And.intro
    (all_goals first | rfl | assumption | trivial | omega | (simp [-List.getD_eq_getElem?_getD] <;> omega) | (simp (disch := omega) only [w64, wu64] <;> omega) | (simp (disch := omega) [-List.getD_eq_getElem?_getD, List.getD_cons_zero, List.getD_cons_succ, kCast_self, dfl_pair, dfl_int, w64, wu64] <;> omega) | (rw [Bool.eq_iff_iff]; simp (disch := omega) [-List.getD_eq_getElem?_getD, List.getD_cons_zero, List.getD_cons_succ, kCast_self, dfl_pair, dfl_int, w64, wu64] <;> omega) | (simp_all [-List.getD_eq_getElem?_getD] <;> omega))
theorem mem_peek (m : MemS) (a : Int) : Tri En 36 [.ptr 0 0 0, .int .i64 a] [memC 1 m, memT m] (.int .u64 (m.get a)) [memC 1 m, memT m] := by
  refine Tri.of Tryd.func36 rfl Tryd.call36 rfl ?_
  by_cases h : m.inr a
  · rw [MemS.get_in h]
    have h0 := h.1
    have h1 := h.2
    refine Goods.fin 2000 [.s 6 (some false) true true, .b false] mixed Tryd.func36 ?_
    show Yes _
    repeat' apply And.intro
    (all_goals first | rfl | assumption | trivial | omega | (simp [-List.getD_eq_getElem?_getD] <;> omega) | (simp (disch := omega) only [w64, wu64] <;> omega) | (simp (disch := omega) [-List.getD_eq_getElem?_getD, List.getD_cons_zero, List.getD_cons_succ, kCast_self, dfl_pair, dfl_int, w64, wu64] <;> omega) | (rw [Bool.eq_iff_iff]; simp (disch := omega) [-List.getD_eq_getElem?_getD, List.getD_cons_zero, List.getD_cons_succ, kCast_self, dfl_pair, dfl_int, w64, wu64] <;> omega) | (simp_all [-List.getD_eq_getElem?_getD] <;> omega))
  · rw [MemS.get_out h]
    unfold MemS.inr at h
    by_cases h0 : a < 0
    · refine Goods.fin 2000 [.s 6 (some true) true true] mixed Tryd.func36 ?_
      show Yes _
      repeat' apply And.intro
      (all_goals first | rfl | assumption | trivial | omega | (simp [-List.getD_eq_getElem?_getD] <;> omega) | (simp (disch := omega) only [w64, wu64] <;> omega) | (simp (disch := omega) [-List.getD_eq_getElem?_getD, List.getD_cons_zero, List.getD_cons_succ, kCast_self, dfl_pair, dfl_int, w64, wu64] <;> omega) | (rw [Bool.eq_iff_iff]; simp (disch := omega) [-List.getD_eq_getElem?_getD, List.getD_cons_zero, List.getD_cons_succ, kCast_self, dfl_pair, dfl_int, w64, wu64] <;> omega) | (simp_all [-List.getD_eq_getElem?_getD] <;> omega))
    · refine Goods.fin 2000 [.s 6 (some false) true true, .b true] mixed Tryd.func36 ?_
      show Yes _
      repeat' apply And.intro
      (all_goals first | rfl | assumption | trivial | omega | (simp [-List.getD_eq_getElem?_getD] <;> omega) | (simp (disch := omega) only [w64, wu64] <;> omega) | (simp (disch := omega) [-List.getD_eq_getElem?_getD, List.getD_cons_zero, List.getD_cons_succ, kCast_self, dfl_pair, dfl_int, w64, wu64] <;> omega) | (rw [Bool.eq_iff_iff]; simp (disch := omega) [-List.getD_eq_getElem?_getD, List.getD_cons_zero, List.getD_cons_succ, kCast_self, dfl_pair, dfl_int, w64, wu64] <;> omega) | (simp_all [-List.getD_eq_getElem?_getD] <;> omega))
theorem clone_u64 (own : Bool) (xs : List Int) (off n : Nat) (h : off + n ≤ xs.length) (hn : n ≤ 17179869184) : Tri En 69 [.slice 0 off n] [.tab own (.int .u64) xs] (.slice 1 0 n) [.tab own (.int .u64) xs, .tab true (.int .u64) ((xs.drop off).take n)] := by
  rcases Nat.eq_zero_or_pos n with h0 | h0
  · subst h0
    refine Tri.slice0 (pre := []) (post := []) ?_ ?_
    · refine Tri.of Tryd.func69 rfl Tryd.call69 rfl ?_
      refine Goods.fin 2000 [] mixed Tryd.func69 ?_
      show Yes _
      repeat' apply And.intro
      (all_goals first | rfl | assumption | trivial | omega | (simp [-List.getD_eq_getElem?_getD] <;> omega) | (simp (disch := omega) only [w64, wu64] <;> omega) | (simp (disch := omega) [-List.getD_eq_getElem?_getD, List.getD_cons_zero, List.getD_cons_succ, kCast_self, dfl_pair, dfl_int, w64, wu64] <;> omega) | (rw [Bool.eq_iff_iff]; simp (disch := omega) [-List.getD_eq_getElem?_getD, List.getD_cons_zero, List.getD_cons_succ, kCast_self, dfl_pair, dfl_int, w64, wu64] <;> omega) | (simp_all [-List.getD_eq_getElem?_getD] <;> omega))
    · refine Tri.of Tryd.func69 rfl Tryd.call69 rfl ?_
      refine Goods.fin 2000 [] mixed Tryd.func69 ?_
      show Yes _
      repeat' apply And.intro
      (all_goals first | rfl | assumption | trivial | omega | (simp [-List.getD_eq_getElem?_getD] <;> omega) | (simp (disch := omega) only [w64, wu64] <;> omega) | (simp (disch := omega) [-List.getD_eq_getElem?_getD, List.getD_cons_zero, List.getD_cons_succ, kCast_self, dfl_pair, dfl_int, w64, wu64] <;> omega) | (rw [Bool.eq_iff_iff]; simp (disch := omega) [-List.getD_eq_getElem?_getD, List.getD_cons_zero, List.getD_cons_succ, kCast_self, dfl_pair, dfl_int, w64, wu64] <;> omega) | (simp_all [-List.getD_eq_getElem?_getD] <;> omega))
  · refine Tri.of Tryd.func69 rfl Tryd.call69 rfl ?_
    refine Goods.fin 2000 [.s 7 none true false] mixed Tryd.func69 ?_
    show Yes _
    repeat' apply And.intro
    (all_goals first | rfl | assumption | trivial | omega | (simp [-List.getD_eq_getElem?_getD] <;> omega) | (simp (disch := omega) only [w64, wu64] <;> omega) | (simp (disch := omega) [-List.getD_eq_getElem?_getD, List.getD_cons_zero, List.getD_cons_succ, kCast_self, dfl_pair, dfl_int, w64, wu64] <;> omega) | (rw [Bool.eq_iff_iff]; simp (disch := omega) [-List.getD_eq_getElem?_getD, List.getD_cons_zero, List.getD_cons_succ, kCast_self, dfl_pair, dfl_int, w64, wu64] <;> omega) | (simp_all [-List.getD_eq_getElem?_getD] <;> omega))
theorem mem_words (m : MemS) (hn : m.words.length ≤ 17179869184) : Tri En 99 [.ptr 0 0 0] [memC 1 m, memT m] (.slice 2 0 m.words.length) [memC 1 m, memT m, .tab true (.int .u64) m.words] := by
  refine Tri.of Tryd.func99 rfl Tryd.call99 rfl ?_
  have hc := clone_u64 true m.words 0 m.words.length (by omega) hn
  rw [List.drop_zero, List.take_length] at hc
  refine Goods.fin 2000 [.c (.of hc)] mixed Tryd.func99 ?_
  show Yes _
  repeat' apply And.intro
  (all_goals first | rfl | assumption | trivial | omega | (simp [-List.getD_eq_getElem?_getD] <;> omega) | (simp (disch := omega) only [w64, wu64] <;> omega) | (simp (disch := omega) [-List.getD_eq_getElem?_getD, List.getD_cons_zero, List.getD_cons_succ, kCast_self, dfl_pair, dfl_int, w64, wu64] <;> omega) | (rw [Bool.eq_iff_iff]; simp (disch := omega) [-List.getD_eq_getElem?_getD, List.getD_cons_zero, List.getD_cons_succ, kCast_self, dfl_pair, dfl_int, w64, wu64] <;> omega) | (simp_all [-List.getD_eq_getElem?_getD] <;> omega))
end Go.Proofs.YtnheodgffackoaaDoor.E
