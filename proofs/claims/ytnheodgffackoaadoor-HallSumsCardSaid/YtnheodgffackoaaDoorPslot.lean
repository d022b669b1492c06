/- Package slot: the contract of each function. -/
import Derived.Test.YtnheodgffackoaaDoorPmem
namespace Go.Proofs.YtnheodgffackoaaDoor.E
set_option linter.unusedSimpArgs false
set_option linter.unusedVariables false
open Go
set_option maxRecDepth 100000

/-- A frame's numbers are small. -/
structure FrOk (b w n : Int) : Prop where
  b0 : 0 ≤ b
  b1 : b ≤ 1000000
  w0 : 0 ≤ w
  w1 : w ≤ 100000
  n0 : 0 ≤ n
  n1 : n ≤ 1000
def frA (b w n : Int) : AV := .agg [.int .i64 b, .int .i64 w, .int .i64 n]
def fRec (w n : Int) : Int := w + 3 * n
theorem fRec_le {b w n : Int} (h : FrOk b w n) : 0 ≤ fRec w n ∧ fRec w n ≤ 103000 := by have := h.w0; have := h.w1; have := h.n0; have := h.n1; unfold fRec; omega
theorem nrec_le {b w n : Int} (h : FrOk b w n) : 0 ≤ n * fRec w n ∧ n * fRec w n ≤ 103000000 :=
  ⟨Int.mul_nonneg h.n0 (fRec_le h).1, Int.le_trans (Int.mul_le_mul h.n1 (fRec_le h).2 (fRec_le h).1 (by omega)) (by omega)⟩
theorem wrec_le {b w n i s : Int} (h : FrOk b w n) (hi : 0 ≤ i) (hi' : i ≤ 1000) (hs : 0 ≤ s) (hs' : s ≤ 10) : 0 ≤ (2 * i + s) * fRec w n ∧ (2 * i + s) * fRec w n ≤ 300000000 :=
  ⟨Int.mul_nonneg (by omega) (fRec_le h).1, Int.le_trans (Int.mul_le_mul (show 2 * i + s ≤ 2010 by omega) (fRec_le h).2 (fRec_le h).1 (by omega)) (by omega)⟩
theorem fr_record {b w n : Int} (h : FrOk b w n) : Tri En 41 [frA b w n] [] (.int .i64 (fRec w n)) [] := by
  obtain ⟨b0, b1, w0, w1, n0, n1⟩ := h
  unfold fRec
  refine Tri.of Tryd.func41 rfl Tryd.call41 rfl ?_
  refine Goods.fin 2000 [] mixed Tryd.func41 ?_
  show Yes _
  repeat' apply And.intro
  (all_goals first | rfl | assumption | trivial | omega | (simp [-List.getD_eq_getElem?_getD] <;> omega) | (simp (disch := omega) only [w64, wu64] <;> omega) | (simp (disch := omega) [-List.getD_eq_getElem?_getD, List.getD_cons_zero, List.getD_cons_succ, kCast_self, dfl_pair, dfl_int, w64, wu64] <;> omega) | (rw [Bool.eq_iff_iff]; simp (disch := omega) [-List.getD_eq_getElem?_getD, List.getD_cons_zero, List.getD_cons_succ, kCast_self, dfl_pair, dfl_int, w64, wu64] <;> omega) | (simp_all [-List.getD_eq_getElem?_getD] <;> omega))
theorem fr_size {b w n : Int} (h : FrOk b w n) : Tri En 29 [frA b w n] [] (.int .i64 (1 + 4 * n + 2 * n * fRec w n)) [] := by
  have hr := fRec_le h
  have hn := nrec_le h
  have e : 2 * n * fRec w n = 2 * (n * fRec w n) := Int.mul_assoc ..
  have h' := h
  obtain ⟨b0, b1, w0, w1, n0, n1⟩ := h
  refine Tri.of Tryd.func29 rfl Tryd.call29 rfl ?_
  refine Goods.fin 2000 [.c (.of (fr_record h'))] mixed Tryd.func29 ?_
  show Yes _
  repeat' apply And.intro
  (all_goals first | rfl | assumption | trivial | omega | (simp [-List.getD_eq_getElem?_getD] <;> omega) | (simp (disch := omega) only [w64, wu64] <;> omega) | (simp (disch := omega) [-List.getD_eq_getElem?_getD, List.getD_cons_zero, List.getD_cons_succ, kCast_self, dfl_pair, dfl_int, w64, wu64] <;> omega) | (rw [Bool.eq_iff_iff]; simp (disch := omega) [-List.getD_eq_getElem?_getD, List.getD_cons_zero, List.getD_cons_succ, kCast_self, dfl_pair, dfl_int, w64, wu64] <;> omega) | (simp_all [-List.getD_eq_getElem?_getD] <;> omega))
theorem fr_head {b w n : Int} (h : FrOk b w n) : Tri En 31 [frA b w n] [] (.int .i64 b) [] := by
  obtain ⟨b0, b1, w0, w1, n0, n1⟩ := h
  refine Tri.of Tryd.func31 rfl Tryd.call31 rfl ?_
  refine Goods.fin 2000 [] mixed Tryd.func31 ?_
  show Yes _
  repeat' apply And.intro
  (all_goals first | rfl | assumption | trivial | omega | (simp [-List.getD_eq_getElem?_getD] <;> omega) | (simp (disch := omega) only [w64, wu64] <;> omega) | (simp (disch := omega) [-List.getD_eq_getElem?_getD, List.getD_cons_zero, List.getD_cons_succ, kCast_self, dfl_pair, dfl_int, w64, wu64] <;> omega) | (rw [Bool.eq_iff_iff]; simp (disch := omega) [-List.getD_eq_getElem?_getD, List.getD_cons_zero, List.getD_cons_succ, kCast_self, dfl_pair, dfl_int, w64, wu64] <;> omega) | (simp_all [-List.getD_eq_getElem?_getD] <;> omega))
theorem fr_held {b w n : Int} (h : FrOk b w n) {i : Int} (hi : 0 ≤ i) (hi' : i ≤ 1000) : Tri En 51 [frA b w n, .int .i64 i] [] (.int .i64 (b + 1 + i)) [] := by
  obtain ⟨b0, b1, w0, w1, n0, n1⟩ := h
  refine Tri.of Tryd.func51 rfl Tryd.call51 rfl ?_
  refine Goods.fin 2000 [] mixed Tryd.func51 ?_
  show Yes _
  repeat' apply And.intro
  (all_goals first | rfl | assumption | trivial | omega | (simp [-List.getD_eq_getElem?_getD] <;> omega) | (simp (disch := omega) only [w64, wu64] <;> omega) | (simp (disch := omega) [-List.getD_eq_getElem?_getD, List.getD_cons_zero, List.getD_cons_succ, kCast_self, dfl_pair, dfl_int, w64, wu64] <;> omega) | (rw [Bool.eq_iff_iff]; simp (disch := omega) [-List.getD_eq_getElem?_getD, List.getD_cons_zero, List.getD_cons_succ, kCast_self, dfl_pair, dfl_int, w64, wu64] <;> omega) | (simp_all [-List.getD_eq_getElem?_getD] <;> omega))
theorem fr_asked {b w n : Int} (h : FrOk b w n) {i : Int} (hi : 0 ≤ i) (hi' : i ≤ 1000) : Tri En 53 [frA b w n, .int .i64 i] [] (.int .i64 (b + 1 + i + n)) [] := by
  have h' := h
  obtain ⟨b0, b1, w0, w1, n0, n1⟩ := h
  refine Tri.of Tryd.func53 rfl Tryd.call53 rfl ?_
  refine Goods.fin 2000 [.c (.of (fr_held h' hi hi'))] mixed Tryd.func53 ?_
  show Yes _
  repeat' apply And.intro
  (all_goals first | rfl | assumption | trivial | omega | (simp [-List.getD_eq_getElem?_getD] <;> omega) | (simp (disch := omega) only [w64, wu64] <;> omega) | (simp (disch := omega) [-List.getD_eq_getElem?_getD, List.getD_cons_zero, List.getD_cons_succ, kCast_self, dfl_pair, dfl_int, w64, wu64] <;> omega) | (rw [Bool.eq_iff_iff]; simp (disch := omega) [-List.getD_eq_getElem?_getD, List.getD_cons_zero, List.getD_cons_succ, kCast_self, dfl_pair, dfl_int, w64, wu64] <;> omega) | (simp_all [-List.getD_eq_getElem?_getD] <;> omega))
theorem fr_a {b w n : Int} (h : FrOk b w n) {i : Int} (hi : 0 ≤ i) (hi' : i ≤ 1000) : Tri En 46 [frA b w n, .int .i64 i] [] (.int .i64 (b + 1 + i + 2 * n)) [] := by
  have h' := h
  obtain ⟨b0, b1, w0, w1, n0, n1⟩ := h
  refine Tri.of Tryd.func46 rfl Tryd.call46 rfl ?_
  refine Goods.fin 2000 [.c (.of (fr_asked h' hi hi'))] mixed Tryd.func46 ?_
  show Yes _
  repeat' apply And.intro
  (all_goals first | rfl | assumption | trivial | omega | (simp [-List.getD_eq_getElem?_getD] <;> omega) | (simp (disch := omega) only [w64, wu64] <;> omega) | (simp (disch := omega) [-List.getD_eq_getElem?_getD, List.getD_cons_zero, List.getD_cons_succ, kCast_self, dfl_pair, dfl_int, w64, wu64] <;> omega) | (rw [Bool.eq_iff_iff]; simp (disch := omega) [-List.getD_eq_getElem?_getD, List.getD_cons_zero, List.getD_cons_succ, kCast_self, dfl_pair, dfl_int, w64, wu64] <;> omega) | (simp_all [-List.getD_eq_getElem?_getD] <;> omega))
theorem fr_b {b w n : Int} (h : FrOk b w n) {i : Int} (hi : 0 ≤ i) (hi' : i ≤ 1000) : Tri En 54 [frA b w n, .int .i64 i] [] (.int .i64 (b + 1 + i + 3 * n)) [] := by
  have h' := h
  obtain ⟨b0, b1, w0, w1, n0, n1⟩ := h
  refine Tri.of Tryd.func54 rfl Tryd.call54 rfl ?_
  refine Goods.fin 2000 [.c (.of (fr_a h' hi hi'))] mixed Tryd.func54 ?_
  show Yes _
  repeat' apply And.intro
  (all_goals first | rfl | assumption | trivial | omega | (simp [-List.getD_eq_getElem?_getD] <;> omega) | (simp (disch := omega) only [w64, wu64] <;> omega) | (simp (disch := omega) [-List.getD_eq_getElem?_getD, List.getD_cons_zero, List.getD_cons_succ, kCast_self, dfl_pair, dfl_int, w64, wu64] <;> omega) | (rw [Bool.eq_iff_iff]; simp (disch := omega) [-List.getD_eq_getElem?_getD, List.getD_cons_zero, List.getD_cons_succ, kCast_self, dfl_pair, dfl_int, w64, wu64] <;> omega) | (simp_all [-List.getD_eq_getElem?_getD] <;> omega))
theorem fr_at {b w n : Int} (h : FrOk b w n) {i s : Int} (hi : 0 ≤ i) (hi' : i ≤ 1000) (hs : 0 ≤ s) (hs' : s ≤ 10) : Tri En 37 [frA b w n, .int .i64 i, .int .i64 s] [] (.int .i64 (b + 1 + 4 * n + (2 * i + s) * fRec w n)) [] := by
  have h' := h
  have hw := wrec_le h hi hi' hs hs'
  have hr := fRec_le h
  obtain ⟨b0, b1, w0, w1, n0, n1⟩ := h
  refine Tri.of Tryd.func37 rfl Tryd.call37 rfl ?_
  refine Goods.fin 2000 [.c (.of (fr_record h'))] mixed Tryd.func37 ?_
  show Yes _
  repeat' apply And.intro
  (all_goals first | rfl | assumption | trivial | omega | (simp [-List.getD_eq_getElem?_getD] <;> omega) | (simp (disch := omega) only [w64, wu64] <;> omega) | (simp (disch := omega) [-List.getD_eq_getElem?_getD, List.getD_cons_zero, List.getD_cons_succ, kCast_self, dfl_pair, dfl_int, w64, wu64] <;> omega) | (rw [Bool.eq_iff_iff]; simp (disch := omega) [-List.getD_eq_getElem?_getD, List.getD_cons_zero, List.getD_cons_succ, kCast_self, dfl_pair, dfl_int, w64, wu64] <;> omega) | (simp_all [-List.getD_eq_getElem?_getD] <;> omega))
theorem fr_done {b w n : Int} (h : FrOk b w n) {i : Int} (hi : 0 ≤ i) (hi' : i ≤ 1000) : Tri En 64 [frA b w n, .int .i64 i] [] (.int .i64 (w + 3 * i)) [] := by
  obtain ⟨b0, b1, w0, w1, n0, n1⟩ := h
  refine Tri.of Tryd.func64 rfl Tryd.call64 rfl ?_
  refine Goods.fin 2000 [] mixed Tryd.func64 ?_
  show Yes _
  repeat' apply And.intro
  (all_goals first | rfl | assumption | trivial | omega | (simp [-List.getD_eq_getElem?_getD] <;> omega) | (simp (disch := omega) only [w64, wu64] <;> omega) | (simp (disch := omega) [-List.getD_eq_getElem?_getD, List.getD_cons_zero, List.getD_cons_succ, kCast_self, dfl_pair, dfl_int, w64, wu64] <;> omega) | (rw [Bool.eq_iff_iff]; simp (disch := omega) [-List.getD_eq_getElem?_getD, List.getD_cons_zero, List.getD_cons_succ, kCast_self, dfl_pair, dfl_int, w64, wu64] <;> omega) | (simp_all [-List.getD_eq_getElem?_getD] <;> omega))
theorem fr_answer {b w n : Int} (h : FrOk b w n) {i : Int} (hi : 0 ≤ i) (hi' : i ≤ 1000) : Tri En 67 [frA b w n, .int .i64 i] [] (.int .i64 (w + 3 * i + 1)) [] := by
  have h' := h
  obtain ⟨b0, b1, w0, w1, n0, n1⟩ := h
  refine Tri.of Tryd.func67 rfl Tryd.call67 rfl ?_
  refine Goods.fin 2000 [.c (.of (fr_done h' hi hi'))] mixed Tryd.func67 ?_
  show Yes _
  repeat' apply And.intro
  (all_goals first | rfl | assumption | trivial | omega | (simp [-List.getD_eq_getElem?_getD] <;> omega) | (simp (disch := omega) only [w64, wu64] <;> omega) | (simp (disch := omega) [-List.getD_eq_getElem?_getD, List.getD_cons_zero, List.getD_cons_succ, kCast_self, dfl_pair, dfl_int, w64, wu64] <;> omega) | (rw [Bool.eq_iff_iff]; simp (disch := omega) [-List.getD_eq_getElem?_getD, List.getD_cons_zero, List.getD_cons_succ, kCast_self, dfl_pair, dfl_int, w64, wu64] <;> omega) | (simp_all [-List.getD_eq_getElem?_getD] <;> omega))
/-- A layer: its memory in object m, its words in object j. -/
def layC (m j : Nat) (at_ : Int) (off n : Nat) : AObj := .cells [.ptr m 0 0, .int .i64 at_, .slice j off n]
theorem slot_lay (m : MemS) (at_ : Int) (own : Bool) (ws : List Int) (hn : ws.length ≤ 17179869184) : Tri En 78 [.ptr 0 0 0, .int .i64 at_, .slice 2 0 ws.length] [memC 1 m, memT m, .tab own (.int .u64) ws] (.ptr 3 0 0)
    [memC 1 m, memT m, .tab own (.int .u64) ws, layC 0 4 at_ 0 ws.length, .tab true (.int .u64) ws] := by
  have hc := clone_u64 own ws 0 ws.length (by omega) hn
  rw [List.drop_zero, List.take_length] at hc
  refine Tri.of Tryd.func78 rfl Tryd.call78 rfl ?_
  refine Goods.fin 2000 [.c (.of hc)] mixed Tryd.func78 ?_
  show Yes _
  repeat' apply And.intro
  (all_goals first | rfl | assumption | trivial | omega | (simp [-List.getD_eq_getElem?_getD] <;> omega) | (simp (disch := omega) only [w64, wu64] <;> omega) | (simp (disch := omega) [-List.getD_eq_getElem?_getD, List.getD_cons_zero, List.getD_cons_succ, kCast_self, dfl_pair, dfl_int, w64, wu64] <;> omega) | (rw [Bool.eq_iff_iff]; simp (disch := omega) [-List.getD_eq_getElem?_getD, List.getD_cons_zero, List.getD_cons_succ, kCast_self, dfl_pair, dfl_int, w64, wu64] <;> omega) | (simp_all [-List.getD_eq_getElem?_getD] <;> omega))
theorem lay_step (m : MemS) (at_ : Int) (ws : List Int) (off n : Nat) (h : off + n < ws.length) : Tri En 81 [.ptr 0 0 0] [layC 1 2 at_ off (n + 1), memC 3 m, .tab true (.int .u64) ws, memT m] (.bool (decide (n = 0)))
    [layC 1 2 (inc at_) (off + 1) n, memC 3 ((m.acc 2 at_).put at_ (ws.getD off 0)), .tab true (.int .u64) ws, memT ((m.acc 2 at_).put at_ (ws.getD off 0))] := by
  refine Tri.of Tryd.func81 rfl Tryd.call81 rfl ?_
  refine Goods.fin 2000 [.b true, .c (.of (mem_store m at_ (ws.getD off 0)))] mixed Tryd.func81 ?_
  show Yes _
  repeat' apply And.intro
  (all_goals first | rfl | assumption | trivial | omega | (simp [-List.getD_eq_getElem?_getD] <;> omega) | (simp (disch := omega) only [w64, wu64] <;> omega) | (simp (disch := omega) [-List.getD_eq_getElem?_getD, List.getD_cons_zero, List.getD_cons_succ, kCast_self, dfl_pair, dfl_int, w64, wu64] <;> omega) | (rw [Bool.eq_iff_iff]; simp (disch := omega) [-List.getD_eq_getElem?_getD, List.getD_cons_zero, List.getD_cons_succ, kCast_self, dfl_pair, dfl_int, w64, wu64] <;> omega) | (simp_all [-List.getD_eq_getElem?_getD] <;> omega))
theorem lay_over (m : MemS) (at_ : Int) (ws : List Int) (off : Nat) : Tri En 81 [.ptr 0 0 0] [layC 1 2 at_ off 0, memC 3 m, .tab true (.int .u64) ws, memT m] (.bl true)
    [layC 1 2 at_ off 0, memC 3 m, .tab true (.int .u64) ws, memT m] := by
  refine Tri.of Tryd.func81 rfl Tryd.call81 rfl ?_
  refine Goods.fin 2000 [.b false] mixed Tryd.func81 ?_
  show Yes _
  repeat' apply And.intro
  (all_goals first | rfl | assumption | trivial | omega | (simp [-List.getD_eq_getElem?_getD] <;> omega) | (simp (disch := omega) only [w64, wu64] <;> omega) | (simp (disch := omega) [-List.getD_eq_getElem?_getD, List.getD_cons_zero, List.getD_cons_succ, kCast_self, dfl_pair, dfl_int, w64, wu64] <;> omega) | (rw [Bool.eq_iff_iff]; simp (disch := omega) [-List.getD_eq_getElem?_getD, List.getD_cons_zero, List.getD_cons_succ, kCast_self, dfl_pair, dfl_int, w64, wu64] <;> omega) | (simp_all [-List.getD_eq_getElem?_getD] <;> omega))
/-- A copier: its memory in object m, its words in object j. -/
def cpC (m j : Nat) (at_ n : Int) (len : Nat) : AObj := .cells [.ptr m 0 0, .int .i64 at_, .int .i64 n, .slice j 0 len]
theorem slot_copy (m : MemS) (at_ n : Int) : Tri En 57 [.ptr 0 0 0, .int .i64 at_, .int .i64 n] [memC 1 m, memT m] (.ptr 2 0 0)
    [memC 1 m, memT m, cpC 0 3 at_ (max n 0) 0, .tab true (.int .u64) []] := by
  refine Tri.of Tryd.func57 rfl Tryd.call57 rfl ?_
  refine Goods.fin 2000 [] mixed Tryd.func57 ?_
  show Yes _
  repeat' apply And.intro
  (all_goals first | rfl | assumption | trivial | omega | (simp [-List.getD_eq_getElem?_getD] <;> omega) | (simp (disch := omega) only [w64, wu64] <;> omega) | (simp (disch := omega) [-List.getD_eq_getElem?_getD, List.getD_cons_zero, List.getD_cons_succ, kCast_self, dfl_pair, dfl_int, w64, wu64] <;> omega) | (rw [Bool.eq_iff_iff]; simp (disch := omega) [-List.getD_eq_getElem?_getD, List.getD_cons_zero, List.getD_cons_succ, kCast_self, dfl_pair, dfl_int, w64, wu64] <;> omega) | (simp_all [-List.getD_eq_getElem?_getD] <;> omega))
theorem cp_step (m : MemS) (at_ n : Int) (ws : List Int) (h : ws.length < n) (hn : n ≤ 1000000) (ha : 0 ≤ at_) (ha' : at_ ≤ 1000000000000) : Tri En 60 [.ptr 0 0 0] [cpC 1 2 at_ n ws.length, memC 3 m, .tab true (.int .u64) ws, memT m] (.bool (decide ((ws.length : Int) + 1 = n)))
    [cpC 1 4 at_ n (ws.length + 1), memC 3 (m.acc 1 (at_ + ws.length)), .gone, memT m, .tab true (.int .u64) (ws ++ [m.get (at_ + ws.length)])] := by
  refine Tri.of Tryd.func60 rfl Tryd.call60 rfl ?_
  have hl := mem_load m (at_ + ws.length)
  refine Goods.fin 2000 [.b true, .c (.of hl)] mixed Tryd.func60 ?_
  show Yes _
  repeat' apply And.intro
  (all_goals first | rfl | assumption | trivial | omega | (simp [-List.getD_eq_getElem?_getD] <;> omega) | (simp (disch := omega) only [w64, wu64] <;> omega) | (simp (disch := omega) [-List.getD_eq_getElem?_getD, List.getD_cons_zero, List.getD_cons_succ, kCast_self, dfl_pair, dfl_int, w64, wu64] <;> omega) | (rw [Bool.eq_iff_iff]; simp (disch := omega) [-List.getD_eq_getElem?_getD, List.getD_cons_zero, List.getD_cons_succ, kCast_self, dfl_pair, dfl_int, w64, wu64] <;> omega) | (simp_all [-List.getD_eq_getElem?_getD] <;> omega))
theorem cp_over (m : MemS) (at_ n : Int) (ws : List Int) (h : n ≤ ws.length) : Tri En 60 [.ptr 0 0 0] [cpC 1 2 at_ n ws.length, memC 3 m, .tab true (.int .u64) ws, memT m] (.bool (decide (n = ws.length)))
    [cpC 1 2 at_ n ws.length, memC 3 m, .tab true (.int .u64) ws, memT m] := by
  refine Tri.of Tryd.func60 rfl Tryd.call60 rfl ?_
  refine Goods.fin 2000 [.b false] mixed Tryd.func60 ?_
  show Yes _
  repeat' apply And.intro
  (all_goals first | rfl | assumption | trivial | omega | (simp [-List.getD_eq_getElem?_getD] <;> omega) | (simp (disch := omega) only [w64, wu64] <;> omega) | (simp (disch := omega) [-List.getD_eq_getElem?_getD, List.getD_cons_zero, List.getD_cons_succ, kCast_self, dfl_pair, dfl_int, w64, wu64] <;> omega) | (rw [Bool.eq_iff_iff]; simp (disch := omega) [-List.getD_eq_getElem?_getD, List.getD_cons_zero, List.getD_cons_succ, kCast_self, dfl_pair, dfl_int, w64, wu64] <;> omega) | (simp_all [-List.getD_eq_getElem?_getD] <;> omega))
theorem cp_words (m : MemS) (at_ n : Int) (ws : List Int) (hn : ws.length ≤ 17179869184) : Tri En 63 [.ptr 0 0 0] [cpC 1 2 at_ n ws.length, memC 3 m, .tab true (.int .u64) ws, memT m] (.slice 4 0 ws.length)
    [cpC 1 2 at_ n ws.length, memC 3 m, .tab true (.int .u64) ws, memT m, .tab true (.int .u64) ws] := by
  have hc := clone_u64 true ws 0 ws.length (by omega) hn
  rw [List.drop_zero, List.take_length] at hc
  refine Tri.of Tryd.func63 rfl Tryd.call63 rfl ?_
  refine Goods.fin 2000 [.c (.of hc)] mixed Tryd.func63 ?_
  show Yes _
  repeat' apply And.intro
  (all_goals first | rfl | assumption | trivial | omega | (simp [-List.getD_eq_getElem?_getD] <;> omega) | (simp (disch := omega) only [w64, wu64] <;> omega) | (simp (disch := omega) [-List.getD_eq_getElem?_getD, List.getD_cons_zero, List.getD_cons_succ, kCast_self, dfl_pair, dfl_int, w64, wu64] <;> omega) | (rw [Bool.eq_iff_iff]; simp (disch := omega) [-List.getD_eq_getElem?_getD, List.getD_cons_zero, List.getD_cons_succ, kCast_self, dfl_pair, dfl_int, w64, wu64] <;> omega) | (simp_all [-List.getD_eq_getElem?_getD] <;> omega))
end Go.Proofs.YtnheodgffackoaaDoor.E
