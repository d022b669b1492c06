/- The document's superblocks (chandleryref11): New, with, Refill. -/
import Derived.Test.YtdnhnglhdabkgaaDoorHplain
namespace Go.Proofs.YtdnhnglhdabkgaaDoor.E
set_option linter.unusedSimpArgs false
set_option linter.unusedVariables false
open Go
set_option maxRecDepth 100000

def rlT (n : Nat) (f : SupF) : AObj := .tab true SupK (rL n f)
def rA (x : SupT) : AV := .agg [.int .i64 x.1, .int .i64 x.2.1, .int .u64 x.2.2]
theorem rnew_tri (own : Bool) (c : Cnf) (h : c.Ok) (n : Nat) (hn : (n : Int) = c.s) : Tri En 16 [cnfA 0 c] [.tab own (.int .i64) c.cl] (.slice 1 0 n) [.tab own (.int .i64) c.cl, rlT n fun _ => (0, 0, 0)] := by
  have s1 := h.s1
  have e : rL n (fun _ => (0, 0, 0)) = List.replicate n (0, 0, 0) := by
    refine List.ext_getElem? fun i => ?_
    simp only [rL, List.getElem?_map, List.getElem?_replicate]
    by_cases hi : i < n
    · rw [List.getElem?_range hi, if_pos hi]; rfl
    · rw [if_neg hi]; simp; omega
  unfold rlT
  rw [e]
  obtain ⟨cw, cs, cb, ct, cl⟩ := c
  simp only at hn
  subst hn
  refine Tri.of Tryd.func16 rfl Tryd.call16 rfl ?_
  refine Goods.fin 2000 [] mixed Tryd.func16 ?_
  show Yes _
  repeat' apply And.intro
  (all_goals first | rfl | assumption | trivial | omega | (simp [-List.getD_eq_getElem?_getD] <;> omega) | (simp (disch := omega) only [w64, wu64] <;> omega) | (simp (disch := omega) [-List.getD_eq_getElem?_getD, List.getD_cons_zero, List.getD_cons_succ, kCast_self, dfl_pair, dfl_int, w64, wu64] <;> omega) | (rw [Bool.eq_iff_iff]; simp (disch := omega) [-List.getD_eq_getElem?_getD, List.getD_cons_zero, List.getD_cons_succ, kCast_self, dfl_pair, dfl_int, w64, wu64] <;> omega) | (simp_all [-List.getD_eq_getElem?_getD] <;> omega))
theorem rwith_tri (n : Nat) (hn : n ≤ 64) (f : SupF) (i : Nat) (hi : i < n) (x : SupT) : Tri En 48 [.slice 0 0 n, .int .i64 i, rA x] [rlT n f] (.slice 1 0 n) [rlT n f, rlT n (updS f i x)] := by
  have hl := rL_len n f
  have hs := rL_set n f i x
  unfold rlT
  rw [← hs]
  obtain ⟨k, a, m⟩ := x
  unfold rsup
  simp only
  generalize rL n f = L at *
  subst hl
  refine Tri.of Tryd.func48 rfl Tryd.call48 rfl ?_
  refine Goods.fin 2000 [.s 10 none true true] mixed Tryd.func48 ?_
  show Yes _
  repeat' apply And.intro
  (all_goals first | rfl | assumption | trivial | omega | (simp [-List.getD_eq_getElem?_getD] <;> omega) | (simp (disch := omega) only [w64, wu64] <;> omega) | (simp (disch := omega) [-List.getD_eq_getElem?_getD, List.getD_cons_zero, List.getD_cons_succ, kCast_self, dfl_pair, dfl_int, w64, wu64] <;> omega) | (rw [Bool.eq_iff_iff]; simp (disch := omega) [-List.getD_eq_getElem?_getD, List.getD_cons_zero, List.getD_cons_succ, kCast_self, dfl_pair, dfl_int, w64, wu64] <;> omega) | (simp_all [-List.getD_eq_getElem?_getD] <;> omega))
end Go.Proofs.YtdnhnglhdabkgaaDoor.E
