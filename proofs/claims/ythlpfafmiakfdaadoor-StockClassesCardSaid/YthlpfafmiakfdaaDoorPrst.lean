/- Package chandleryref12: Has. -/
import Derived.Test.YthlpfafmiakfdaaDoorL12b
namespace Go.Proofs.YthlpfafmiakfdaaDoor.E
set_option linter.unusedSimpArgs false
set_option linter.unusedVariables false
open Go
set_option maxRecDepth 100000
noncomputable abbrev gHas (own : Bool) (xs : List Blk) (v : Bool) : Frm := ⟨En, 17, Tryd.f17.ntmps, [.tab own BlkK xs], .bl v, [.tab own BlkK xs]⟩
theorem mem_drop {xs : List Blk} {n i : Nat} (hi : i < n) (hn : n ≤ xs.length) (b : Blk) : b ∈ (xs.take n).drop i ↔ bAt xs i = b ∨ b ∈ (xs.take n).drop (i + 1) := by
  have hlt : i < (xs.take n).length := by simp; omega
  rw [List.drop_eq_getElem_cons hlt, List.mem_cons]
  have : (xs.take n)[i] = bAt xs i := by
    simp [bAt, List.getD, show i < xs.length by omega]
  rw [this]
  constructor
  · rintro (h | h)
    · exact .inl h.symm
    · exact .inr h
  · rintro (h | h)
    · exact .inl h.symm
    · exact .inr h
theorem rhas_0 (own : Bool) (xs : List Blk) (b : Blk) (n : Nat) (hn : n ≤ xs.length) (hs : n ≤ 1000000) : ∀ (j i : Nat), i + j = n →
    Goods (gHas own xs (decide (b ∈ (xs.take n).drop i))) ⟨.none, lp Tryd.f17 0, [(0, .slice 0 0 n), (3, .ptr 1 0 0), (5, .int .i64 i)], hp [.tab own BlkK xs, .cells [.int .i64 b.1, .int .i64 b.2]]⟩
  | 0, i, hi => by
    have e : decide (b ∈ (xs.take n).drop i) = false := decide_eq_false (by rw [List.drop_of_length_le (by simp; omega)]; simp)
    rw [e]
    refine Goods.fin 2000 [.b false] mixed Tryd.func17 ?_
    show Yes _
    repeat' apply And.intro
    (all_goals first | rfl | assumption | trivial | omega | (simp [-List.getD_eq_getElem?_getD] <;> omega) | (simp (disch := omega) only [w64, wu64] <;> omega) | (simp (disch := omega) [-List.getD_eq_getElem?_getD, List.getD_cons_zero, List.getD_cons_succ, kCast_self, dfl_pair, dfl_int, w64, wu64] <;> omega) | (rw [Bool.eq_iff_iff]; simp (disch := omega) [-List.getD_eq_getElem?_getD, List.getD_cons_zero, List.getD_cons_succ, kCast_self, dfl_pair, dfl_int, w64, wu64] <;> omega) | (simp_all [-List.getD_eq_getElem?_getD] <;> omega))
  | j + 1, i, hi => by
    have hm := mem_drop (xs := xs) (n := n) (i := i) (by omega) hn b
    by_cases hb : bAt xs i = b
    · rw [decide_eq_true (hm.2 (.inl hb))]
      have g2 : ((bAt xs i).1 == b.1 && ((bAt xs i).2 == b.2 && true)) = true := by rw [hb]; simp
      refine Goods.fin 2000 [.b true, .b true] mixed Tryd.func17 ?_
      show Yes _
      repeat' apply And.intro
      all_goals try exact g2
      (all_goals first | rfl | assumption | trivial | omega | (simp [-List.getD_eq_getElem?_getD] <;> omega) | (simp (disch := omega) only [w64, wu64] <;> omega) | (simp (disch := omega) [-List.getD_eq_getElem?_getD, List.getD_cons_zero, List.getD_cons_succ, kCast_self, dfl_pair, dfl_int, w64, wu64] <;> omega) | (rw [Bool.eq_iff_iff]; simp (disch := omega) [-List.getD_eq_getElem?_getD, List.getD_cons_zero, List.getD_cons_succ, kCast_self, dfl_pair, dfl_int, w64, wu64] <;> omega) | (simp_all [-List.getD_eq_getElem?_getD] <;> omega))
    · have e : decide (b ∈ (xs.take n).drop i) = decide (b ∈ (xs.take n).drop (i + 1)) := decide_eq_decide.2 (hm.trans ⟨fun h => h.resolve_left hb, .inr⟩)
      rw [e]
      have ih := rhas_0 own xs b n hn hs j (i + 1) (by omega)
      have g2 : ((bAt xs i).1 == b.1 && ((bAt xs i).2 == b.2 && true)) = false := by
        rw [Bool.eq_false_iff]
        intro h
        simp at h
        exact hb (Prod.ext h.1 h.2)
      refine Goods.to 2000 [.b true, .b false, .l, .stop] mixed (ih) (by kernel_rfl) ?_
      show Yes _
      repeat' apply And.intro
      all_goals try exact g2
      (all_goals first | rfl | assumption | trivial | omega | (simp [-List.getD_eq_getElem?_getD] <;> omega) | (simp (disch := omega) only [w64, wu64] <;> omega) | (simp (disch := omega) [-List.getD_eq_getElem?_getD, List.getD_cons_zero, List.getD_cons_succ, kCast_self, dfl_pair, dfl_int, w64, wu64] <;> omega) | (rw [Bool.eq_iff_iff]; simp (disch := omega) [-List.getD_eq_getElem?_getD, List.getD_cons_zero, List.getD_cons_succ, kCast_self, dfl_pair, dfl_int, w64, wu64] <;> omega) | (simp_all [-List.getD_eq_getElem?_getD] <;> omega))
theorem rsHas_tri (own : Bool) (xs : List Blk) (b : Blk) (n : Nat) (hn : n ≤ xs.length) (hs : n ≤ 1000000) : Tri En 17 [.slice 0 0 n, blkA b] [.tab own BlkK xs] (.bl (decide (b ∈ xs.take n))) [.tab own BlkK xs] := by
  have ih := rhas_0 own xs b n hn hs n 0 (by omega)
  rw [List.drop_zero] at ih
  refine Tri.of Tryd.func17 rfl Tryd.call17 rfl ?_
  refine Goods.to 2000 [.l, .stop] mixed (ih) (by kernel_rfl) ?_
  show Yes _
  repeat' apply And.intro
  (all_goals first | rfl | assumption | trivial | omega | (simp [-List.getD_eq_getElem?_getD] <;> omega) | (simp (disch := omega) only [w64, wu64] <;> omega) | (simp (disch := omega) [-List.getD_eq_getElem?_getD, List.getD_cons_zero, List.getD_cons_succ, kCast_self, dfl_pair, dfl_int, w64, wu64] <;> omega) | (rw [Bool.eq_iff_iff]; simp (disch := omega) [-List.getD_eq_getElem?_getD, List.getD_cons_zero, List.getD_cons_succ, kCast_self, dfl_pair, dfl_int, w64, wu64] <;> omega) | (simp_all [-List.getD_eq_getElem?_getD] <;> omega))
end Go.Proofs.YthlpfafmiakfdaaDoor.E
