/- Package slot: frames. -/
import Derived.Test.YtcicfbccdgkfhaaDoorPmem
namespace Go.Proofs.YtcicfbccdgkfhaaDoor.E
set_option linter.unusedSimpArgs false
set_option linter.unusedVariables false
open Go
set_option maxRecDepth 100000

/-- A frame's numbers are small. -/
structure FrOk (b w n : Int) : Prop where
  b0 : 0 ≤ b
  b1 : b ≤ 1000000
  w0 : 0 ≤ w
  w1 : w ≤ 100000
  n0 : 0 ≤ n
  n1 : n ≤ 1000
def frA (b w n : Int) : AV := .agg [.int .i64 b, .int .i64 w, .int .i64 n]
def fRec (w n : Int) : Int := w + 3 * n
theorem fRec_le {b w n : Int} (h : FrOk b w n) : 0 ≤ fRec w n ∧ fRec w n ≤ 103000 := by have := h.w0; have := h.w1; have := h.n0; have := h.n1; unfold fRec; omega
theorem nrec_le {b w n : Int} (h : FrOk b w n) : 0 ≤ n * fRec w n ∧ n * fRec w n ≤ 103000000 :=
  ⟨Int.mul_nonneg h.n0 (fRec_le h).1, Int.le_trans (Int.mul_le_mul h.n1 (fRec_le h).2 (fRec_le h).1 (by omega)) (by omega)⟩
theorem wrec_le {b w n i s : Int} (h : FrOk b w n) (hi : 0 ≤ i) (hi' : i ≤ 1000) (hs : 0 ≤ s) (hs' : s ≤ 10) : 0 ≤ (2 * i + s) * fRec w n ∧ (2 * i + s) * fRec w n ≤ 300000000 :=
  ⟨Int.mul_nonneg (by omega) (fRec_le h).1, Int.le_trans (Int.mul_le_mul (show 2 * i + s ≤ 2010 by omega) (fRec_le h).2 (fRec_le h).1 (by omega)) (by omega)⟩
theorem fr_record {b w n : Int} (h : FrOk b w n) : Tri En 50 [frA b w n] [] (.int .i64 (fRec w n)) [] := by
  obtain ⟨b0, b1, w0, w1, n0, n1⟩ := h
  unfold fRec
  refine Tri.of Tryd.func50 rfl Tryd.call50 rfl ?_
  refine Goods.fin 2000 [] mixed Tryd.func50 ?_
  show Yes _
  repeat' apply And.intro
  (all_goals first | rfl | assumption | trivial | omega | (simp [-List.getD_eq_getElem?_getD] <;> omega) | (simp (disch := omega) only [w64, wu64] <;> omega) | (simp (disch := omega) [-List.getD_eq_getElem?_getD, List.getD_cons_zero, List.getD_cons_succ, kCast_self, dfl_pair, dfl_int, w64, wu64] <;> omega) | (rw [Bool.eq_iff_iff]; simp (disch := omega) [-List.getD_eq_getElem?_getD, List.getD_cons_zero, List.getD_cons_succ, kCast_self, dfl_pair, dfl_int, w64, wu64] <;> omega) | (simp_all [-List.getD_eq_getElem?_getD] <;> omega))
theorem fr_size {b w n : Int} (h : FrOk b w n) : Tri En 8 [frA b w n] [] (.int .i64 (1 + 4 * n + 2 * n * fRec w n)) [] := by
  have hr := fRec_le h
  have hn := nrec_le h
  have e : 2 * n * fRec w n = 2 * (n * fRec w n) := Int.mul_assoc ..
  have h' := h
  obtain ⟨b0, b1, w0, w1, n0, n1⟩ := h
  refine Tri.of Tryd.func8 rfl Tryd.call8 rfl ?_
  refine Goods.fin 2000 [.c (.of (fr_record h'))] mixed Tryd.func8 ?_
  show Yes _
  repeat' apply And.intro
  (all_goals first | rfl | assumption | trivial | omega | (simp [-List.getD_eq_getElem?_getD] <;> omega) | (simp (disch := omega) only [w64, wu64] <;> omega) | (simp (disch := omega) [-List.getD_eq_getElem?_getD, List.getD_cons_zero, List.getD_cons_succ, kCast_self, dfl_pair, dfl_int, w64, wu64] <;> omega) | (rw [Bool.eq_iff_iff]; simp (disch := omega) [-List.getD_eq_getElem?_getD, List.getD_cons_zero, List.getD_cons_succ, kCast_self, dfl_pair, dfl_int, w64, wu64] <;> omega) | (simp_all [-List.getD_eq_getElem?_getD] <;> omega))
theorem fr_head {b w n : Int} (h : FrOk b w n) : Tri En 11 [frA b w n] [] (.int .i64 b) [] := by
  obtain ⟨b0, b1, w0, w1, n0, n1⟩ := h
  refine Tri.of Tryd.func11 rfl Tryd.call11 rfl ?_
  refine Goods.fin 2000 [] mixed Tryd.func11 ?_
  show Yes _
  repeat' apply And.intro
  (all_goals first | rfl | assumption | trivial | omega | (simp [-List.getD_eq_getElem?_getD] <;> omega) | (simp (disch := omega) only [w64, wu64] <;> omega) | (simp (disch := omega) [-List.getD_eq_getElem?_getD, List.getD_cons_zero, List.getD_cons_succ, kCast_self, dfl_pair, dfl_int, w64, wu64] <;> omega) | (rw [Bool.eq_iff_iff]; simp (disch := omega) [-List.getD_eq_getElem?_getD, List.getD_cons_zero, List.getD_cons_succ, kCast_self, dfl_pair, dfl_int, w64, wu64] <;> omega) | (simp_all [-List.getD_eq_getElem?_getD] <;> omega))
theorem fr_at {b w n : Int} (h : FrOk b w n) {i s : Int} (hi : 0 ≤ i) (hi' : i ≤ 1000) (hs : 0 ≤ s) (hs' : s ≤ 10) : Tri En 87 [frA b w n, .int .i64 i, .int .i64 s] [] (.int .i64 (b + 1 + 4 * n + (2 * i + s) * fRec w n)) [] := by
  have h' := h
  have hw := wrec_le h hi hi' hs hs'
  have hr := fRec_le h
  obtain ⟨b0, b1, w0, w1, n0, n1⟩ := h
  refine Tri.of Tryd.func87 rfl Tryd.call87 rfl ?_
  refine Goods.fin 2000 [.c (.of (fr_record h'))] mixed Tryd.func87 ?_
  show Yes _
  repeat' apply And.intro
  (all_goals first | rfl | assumption | trivial | omega | (simp [-List.getD_eq_getElem?_getD] <;> omega) | (simp (disch := omega) only [w64, wu64] <;> omega) | (simp (disch := omega) [-List.getD_eq_getElem?_getD, List.getD_cons_zero, List.getD_cons_succ, kCast_self, dfl_pair, dfl_int, w64, wu64] <;> omega) | (rw [Bool.eq_iff_iff]; simp (disch := omega) [-List.getD_eq_getElem?_getD, List.getD_cons_zero, List.getD_cons_succ, kCast_self, dfl_pair, dfl_int, w64, wu64] <;> omega) | (simp_all [-List.getD_eq_getElem?_getD] <;> omega))
end Go.Proofs.YtcicfbccdgkfhaaDoor.E
