/- Package conf: the contract of each function. -/
import Derived.Test.YthlpfafmiakfdaaDoorEn
namespace Go.Proofs.YthlpfafmiakfdaaDoor.E
set_option linter.unusedSimpArgs false
set_option linter.unusedVariables false
open Go
set_option maxRecDepth 100000

theorem clone_i64 (own : Bool) (xs : List Int) (off n : Nat) (h : off + n ≤ xs.length) (hn : n ≤ 17179869184) : Tri En 36 [.slice 0 off n] [.tab own (.int .i64) xs] (.slice 1 0 n) [.tab own (.int .i64) xs, .tab true (.int .i64) ((xs.drop off).take n)] := by
  rcases Nat.eq_zero_or_pos n with h0 | h0
  · subst h0
    refine Tri.slice0 (pre := []) (post := []) ?_ ?_
    · refine Tri.of Tryd.func36 rfl Tryd.call36 rfl ?_
      refine Goods.fin 2000 [] mixed Tryd.func36 ?_
      show Yes _
      repeat' apply And.intro
      (all_goals first | rfl | assumption | trivial | omega | (simp [-List.getD_eq_getElem?_getD] <;> omega) | (simp (disch := omega) only [w64, wu64] <;> omega) | (simp (disch := omega) [-List.getD_eq_getElem?_getD, List.getD_cons_zero, List.getD_cons_succ, kCast_self, dfl_pair, dfl_int, w64, wu64] <;> omega) | (rw [Bool.eq_iff_iff]; simp (disch := omega) [-List.getD_eq_getElem?_getD, List.getD_cons_zero, List.getD_cons_succ, kCast_self, dfl_pair, dfl_int, w64, wu64] <;> omega) | (simp_all [-List.getD_eq_getElem?_getD] <;> omega))
    · refine Tri.of Tryd.func36 rfl Tryd.call36 rfl ?_
      refine Goods.fin 2000 [] mixed Tryd.func36 ?_
      show Yes _
      repeat' apply And.intro
      (all_goals first | rfl | assumption | trivial | omega | (simp [-List.getD_eq_getElem?_getD] <;> omega) | (simp (disch := omega) only [w64, wu64] <;> omega) | (simp (disch := omega) [-List.getD_eq_getElem?_getD, List.getD_cons_zero, List.getD_cons_succ, kCast_self, dfl_pair, dfl_int, w64, wu64] <;> omega) | (rw [Bool.eq_iff_iff]; simp (disch := omega) [-List.getD_eq_getElem?_getD, List.getD_cons_zero, List.getD_cons_succ, kCast_self, dfl_pair, dfl_int, w64, wu64] <;> omega) | (simp_all [-List.getD_eq_getElem?_getD] <;> omega))
  · refine Tri.of Tryd.func36 rfl Tryd.call36 rfl ?_
    refine Goods.fin 2000 [.s 7 none true false] mixed Tryd.func36 ?_
    show Yes _
    repeat' apply And.intro
    (all_goals first | rfl | assumption | trivial | omega | (simp [-List.getD_eq_getElem?_getD] <;> omega) | (simp (disch := omega) only [w64, wu64] <;> omega) | (simp (disch := omega) [-List.getD_eq_getElem?_getD, List.getD_cons_zero, List.getD_cons_succ, kCast_self, dfl_pair, dfl_int, w64, wu64] <;> omega) | (rw [Bool.eq_iff_iff]; simp (disch := omega) [-List.getD_eq_getElem?_getD, List.getD_cons_zero, List.getD_cons_succ, kCast_self, dfl_pair, dfl_int, w64, wu64] <;> omega) | (simp_all [-List.getD_eq_getElem?_getD] <;> omega))
/-- A way that a system may be. -/
structure Cnf where
  w : Int
  s : Int
  b : Int
  t : Int
  cl : List Int
def cnfA (j : Nat) (c : Cnf) : AV := .agg [.int .i64 c.w, .int .i64 c.s, .int .i64 c.b, .int .i64 c.t, .slice j 0 c.cl.length]
def okN (last n : Int) : Prop := last < n ∧ n ≤ 512 ∧ n % 16 = 0
instance (last n : Int) : Decidable (okN last n) := by unfold okN; infer_instance
def okL (last : Int) : List Int → Prop
  | [] => True
  | n :: l => okN last n ∧ okL n l
instance okL_dec : ∀ (l : List Int) (last : Int), Decidable (okL last l)
  | [], _ => .isTrue trivial
  | n :: l, last => @instDecidableAnd (okN last n) (okL n l) _ (okL_dec l n)
instance (last : Int) (l : List Int) : Decidable (okL last l) := okL_dec l last
structure Cnf.Small (c : Cnf) : Prop where
  w0 : 1 ≤ c.w
  w1 : c.w ≤ 64
  s0 : 1 ≤ c.s
  s1 : c.s ≤ 64
  b0 : 1 ≤ c.b
  b1 : c.b ≤ 64
  t0 : 0 ≤ c.t
  t1 : c.t ≤ 8
structure Cnf.Ok (c : Cnf) : Prop extends c.Small where
  l0 : 1 ≤ c.cl.length
  l1 : c.cl.length ≤ 16
  ok : okL 0 c.cl
theorem okL_drop {l : List Int} {k : Nat} {last : Int} (h : k < l.length) : okL last (l.drop k) ↔ okN last (l.getD k 0) ∧ okL (l.getD k 0) (l.drop (k + 1)) := by
  rw [List.drop_eq_getElem_cons h]
  simp [okL, List.getD, h]
theorem conf_copy (own : Bool) (c : Cnf) (h : c.cl.length ≤ 17179869184) : Tri En 24 [cnfA 0 c] [.tab own (.int .i64) c.cl] (cnfA 1 c) [.tab own (.int .i64) c.cl, .tab true (.int .i64) c.cl] := by
  have hc := clone_i64 own c.cl 0 c.cl.length (by omega) h
  rw [List.drop_zero, List.take_length] at hc
  refine Tri.of Tryd.func24 rfl Tryd.call24 rfl ?_
  refine Goods.fin 2000 [.c (.of hc)] mixed Tryd.func24 ?_
  show Yes _
  repeat' apply And.intro
  (all_goals first | rfl | assumption | trivial | omega | (simp [-List.getD_eq_getElem?_getD] <;> omega) | (simp (disch := omega) only [w64, wu64] <;> omega) | (simp (disch := omega) [-List.getD_eq_getElem?_getD, List.getD_cons_zero, List.getD_cons_succ, kCast_self, dfl_pair, dfl_int, w64, wu64] <;> omega) | (rw [Bool.eq_iff_iff]; simp (disch := omega) [-List.getD_eq_getElem?_getD, List.getD_cons_zero, List.getD_cons_succ, kCast_self, dfl_pair, dfl_int, w64, wu64] <;> omega) | (simp_all [-List.getD_eq_getElem?_getD] <;> omega))
end Go.Proofs.YthlpfafmiakfdaaDoor.E
