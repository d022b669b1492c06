/- Layer 9: what its laws share, and ObjCounts. -/
import Derived.Test.YtcebgfmeabbdpaaPobj
namespace Go.Proofs.Ytcebgfmeabbdpaa.E
open Go
set_option maxRecDepth 100000

noncomputable abbrev gSame (o1 o2 : Bool) (xs : List (Int × Int)) : Frm := ⟨En, 11, Try.f11.ntmps, [.tab o1 OpK xs, .tab o2 OpK xs], .bl true, [.tab o1 OpK xs, .tab o2 OpK xs]⟩
theorem same_0 (o1 o2 : Bool) (xs : List (Int × Int)) (hl : xs.length ≤ 1000000) : ∀ (j k : Nat), k + j = xs.length → Goods (gSame o1 o2 xs) ⟨.none, lp Try.f11 0,
    [(0, .slice 0 0 xs.length), (1, .slice 1 0 xs.length), (12, .int .i64 xs.length), (13, .int .i64 k)], hp [.tab o1 OpK xs, .tab o2 OpK xs]⟩
  | 0, k, h => by
    refine Goods.fin 2000 [.b false] mixed Try.func11 ?_
    show Yes _
    repeat' apply And.intro
    (all_goals first | rfl | assumption | trivial | omega | (simp [-List.getD_eq_getElem?_getD] <;> omega) | (simp (disch := omega) only [w64, wu64] <;> omega) | (simp (disch := omega) [-List.getD_eq_getElem?_getD, List.getD_cons_zero, List.getD_cons_succ, kCast_self, dfl_pair, dfl_int, w64, wu64] <;> omega) | (rw [Bool.eq_iff_iff]; simp (disch := omega) [-List.getD_eq_getElem?_getD, List.getD_cons_zero, List.getD_cons_succ, kCast_self, dfl_pair, dfl_int, w64, wu64] <;> omega) | (simp_all [-List.getD_eq_getElem?_getD] <;> omega))
  | j + 1, k, h => by
    have ih := same_0 o1 o2 xs hl j (k + 1) (by omega)
    refine Goods.to 2000 [.b true, .b false, .l, .stop] mixed (ih) (by kernel_rfl) ?_
    show Yes _
    repeat' apply And.intro
    (all_goals first | rfl | assumption | trivial | omega | (simp [-List.getD_eq_getElem?_getD] <;> omega) | (simp (disch := omega) only [w64, wu64] <;> omega) | (simp (disch := omega) [-List.getD_eq_getElem?_getD, List.getD_cons_zero, List.getD_cons_succ, kCast_self, dfl_pair, dfl_int, w64, wu64] <;> omega) | (rw [Bool.eq_iff_iff]; simp (disch := omega) [-List.getD_eq_getElem?_getD, List.getD_cons_zero, List.getD_cons_succ, kCast_self, dfl_pair, dfl_int, w64, wu64] <;> omega) | (simp_all [-List.getD_eq_getElem?_getD] <;> omega))
theorem same_tri (o1 o2 : Bool) (xs : List (Int × Int)) (hl : xs.length ≤ 1000000) : Tri En 11 [.slice 0 0 xs.length, .slice 1 0 xs.length] [.tab o1 OpK xs, .tab o2 OpK xs] (.bl true) [.tab o1 OpK xs, .tab o2 OpK xs] := by
  have ih := same_0 o1 o2 xs hl xs.length 0 (by omega)
  refine Tri.of Try.func11 rfl Try.call11 rfl ?_
  refine Goods.to 2000 [.b false, .l, .stop] mixed (ih) (by kernel_rfl) ?_
  show Yes _
  repeat' apply And.intro
  (all_goals first | rfl | assumption | trivial | omega | (simp [-List.getD_eq_getElem?_getD] <;> omega) | (simp (disch := omega) only [w64, wu64] <;> omega) | (simp (disch := omega) [-List.getD_eq_getElem?_getD, List.getD_cons_zero, List.getD_cons_succ, kCast_self, dfl_pair, dfl_int, w64, wu64] <;> omega) | (rw [Bool.eq_iff_iff]; simp (disch := omega) [-List.getD_eq_getElem?_getD, List.getD_cons_zero, List.getD_cons_succ, kCast_self, dfl_pair, dfl_int, w64, wu64] <;> omega) | (simp_all [-List.getD_eq_getElem?_getD] <;> omega))
theorem speaks_tri : Tri En 8 [] [] (.bl true) [] := by
  have h1 := replay_st true 1 [(1, 7), (1, 8), (2, 0)] (by simp) (by simp [Op64])
  have h2 := replay_cnt true [(5, 0)] (by simp)
  refine Tri.of Try.func8 rfl Try.call8 rfl ?_
  refine Goods.fin 2000 [.c (.of h1), .c (.of h2), .s 25 (some true) true true, .s 31 (some true) true true, .s 38 (some true) true true, .s 45 (some true) true true, .s 50 (some true) true true, .s 55 (some true) true true, .s 62 (some true) true true] mixed Try.func8 ?_
  show Yes _
  repeat' apply And.intro
  (all_goals first | rfl | assumption | trivial | omega | (simp [-List.getD_eq_getElem?_getD] <;> omega) | (simp (disch := omega) only [w64, wu64] <;> omega) | (simp (disch := omega) [-List.getD_eq_getElem?_getD, List.getD_cons_zero, List.getD_cons_succ, kCast_self, dfl_pair, dfl_int, w64, wu64] <;> omega) | (rw [Bool.eq_iff_iff]; simp (disch := omega) [-List.getD_eq_getElem?_getD, List.getD_cons_zero, List.getD_cons_succ, kCast_self, dfl_pair, dfl_int, w64, wu64] <;> omega) | (simp_all [-List.getD_eq_getElem?_getD] <;> omega))

/-- What the document's counter answers. -/
noncomputable abbrev gCount (own : Bool) (l : List (Int × Int)) : Frm := ⟨En, 10, Try.f10.ntmps, [.tab own OpK l], .tuple [.slice 1 0 l.length, .int .u64 (runO cntF 0 l).1], [.tab own OpK l, .tab true OpK (runO cntF 0 l).2]⟩
theorem count_0 (own : Bool) (l : List (Int × Int)) (hl : l.length ≤ 1000000) : ∀ (j k : Nat), k + j = l.length → Goods (gCount own l) ⟨.none, lp Try.f10 0,
    [(0, .slice 0 0 l.length), (4, .slice 1 0 k), (5, .int .u64 (runO cntF 0 (l.take k)).1), (6, .int .i64 k)], hp [.tab own OpK l, .tab true OpK (runO cntF 0 (l.take k)).2]⟩
  | 0, k, h => by
    obtain rfl : k = l.length := by omega
    rw [List.take_length]
    refine Goods.fin 2000 [.b false] mixed Try.func10 ?_
    show Yes _
    repeat' apply And.intro
    (all_goals first | rfl | assumption | trivial | omega | (simp [-List.getD_eq_getElem?_getD] <;> omega) | (simp (disch := omega) only [w64, wu64] <;> omega) | (simp (disch := omega) [-List.getD_eq_getElem?_getD, List.getD_cons_zero, List.getD_cons_succ, kCast_self, dfl_pair, dfl_int, w64, wu64] <;> omega) | (rw [Bool.eq_iff_iff]; simp (disch := omega) [-List.getD_eq_getElem?_getD, List.getD_cons_zero, List.getD_cons_succ, kCast_self, dfl_pair, dfl_int, w64, wu64] <;> omega) | (simp_all [-List.getD_eq_getElem?_getD] <;> omega))
  | j + 1, k, h => by
    have ih := count_0 own l hl j (k + 1) (by omega)
    rw [runO_take cntF 0 l k (by omega)] at ih
    have hlen := runO_len cntF (l.take k) 0
    rw [List.length_take, Nat.min_eq_left (by omega)] at hlen
    refine Goods.to 2000 [.b true, .l, .stop] mixed (ih) (by kernel_rfl) ?_
    show Yes _
    repeat' apply And.intro
    (all_goals first | rfl | assumption | trivial | omega | (simp [-List.getD_eq_getElem?_getD, hlen] <;> omega) | (simp (disch := omega) only [w64, wu64] <;> omega) | (simp (disch := omega) [-List.getD_eq_getElem?_getD, List.getD_cons_zero, List.getD_cons_succ, kCast_self, dfl_pair, dfl_int, w64, wu64, hlen] <;> omega) | (rw [Bool.eq_iff_iff]; simp (disch := omega) [-List.getD_eq_getElem?_getD, List.getD_cons_zero, List.getD_cons_succ, kCast_self, dfl_pair, dfl_int, w64, wu64, hlen] <;> omega) | (simp_all [-List.getD_eq_getElem?_getD] <;> omega))
theorem count_tri (own : Bool) (l : List (Int × Int)) (hl : l.length ≤ 1000000) : Tri En 10 [.slice 0 0 l.length] [.tab own OpK l] (.tuple [.slice 1 0 l.length, .int .u64 (runO cntF 0 l).1]) [.tab own OpK l, .tab true OpK (runO cntF 0 l).2] := by
  have ih := count_0 own l hl l.length 0 (by omega)
  refine Tri.of Try.func10 rfl Try.call10 rfl ?_
  refine Goods.to 2000 [.l, .stop] mixed (ih) (by kernel_rfl) ?_
  show Yes _
  repeat' apply And.intro
  (all_goals first | rfl | assumption | trivial | omega | (simp [-List.getD_eq_getElem?_getD] <;> omega) | (simp (disch := omega) only [w64, wu64] <;> omega) | (simp (disch := omega) [-List.getD_eq_getElem?_getD, List.getD_cons_zero, List.getD_cons_succ, kCast_self, dfl_pair, dfl_int, w64, wu64] <;> omega) | (rw [Bool.eq_iff_iff]; simp (disch := omega) [-List.getD_eq_getElem?_getD, List.getD_cons_zero, List.getD_cons_succ, kCast_self, dfl_pair, dfl_int, w64, wu64] <;> omega) | (simp_all [-List.getD_eq_getElem?_getD] <;> omega))
theorem ObjCounts_tri (l : List (Int × Int)) : Tri En 3 [.slice 0 0 l.length] [.tab false OpK l] (.bl true) (gones 1) := by
  refine Tri.of Try.func3 rfl Try.call3 rfl ?_
  by_cases hl : 200 < l.length
  · refine Goods.fin 2000 [.c (.of speaks_tri), .b true] mixed Try.func3 ?_
    show Yes _
    repeat' apply And.intro
    (all_goals first | rfl | assumption | trivial | omega | (simp [-List.getD_eq_getElem?_getD] <;> omega) | (simp (disch := omega) only [w64, wu64] <;> omega) | (simp (disch := omega) [-List.getD_eq_getElem?_getD, List.getD_cons_zero, List.getD_cons_succ, kCast_self, dfl_pair, dfl_int, w64, wu64] <;> omega) | (rw [Bool.eq_iff_iff]; simp (disch := omega) [-List.getD_eq_getElem?_getD, List.getD_cons_zero, List.getD_cons_succ, kCast_self, dfl_pair, dfl_int, w64, wu64] <;> omega) | (simp_all [-List.getD_eq_getElem?_getD] <;> omega))
  · have h1 := replay_cnt false l (by omega)
    have h2 := count_tri false l (by omega)
    have hlen := runO_len cntF l 0
    have h3 := same_tri true true (runO cntF 0 l).2 (by omega)
    rw [hlen] at h3
    refine Goods.fin 2000 [.c (.of speaks_tri), .b false, .c (.of h1), .c (.of h2), .c (.of h3), .s 30 (some true) true true, .s 37 (some true) true true, .c (.of cnt_words)] mixed Try.func3 ?_
    show Yes _
    repeat' apply And.intro
    (all_goals first | rfl | assumption | trivial | omega | (simp [-List.getD_eq_getElem?_getD] <;> omega) | (simp (disch := omega) only [w64, wu64] <;> omega) | (simp (disch := omega) [-List.getD_eq_getElem?_getD, List.getD_cons_zero, List.getD_cons_succ, kCast_self, dfl_pair, dfl_int, w64, wu64] <;> omega) | (rw [Bool.eq_iff_iff]; simp (disch := omega) [-List.getD_eq_getElem?_getD, List.getD_cons_zero, List.getD_cons_succ, kCast_self, dfl_pair, dfl_int, w64, wu64] <;> omega) | (simp_all [-List.getD_eq_getElem?_getD] <;> omega))
theorem ObjCounts_law (d : dats ([(false, (.slice (.pair (.int .u64) (.pair (.int .u64) .unit))))] : List (Bool × Sh))) (hd : datsOk ([(false, (.slice (.pair (.int .u64) (.pair (.int .u64) .unit))))] : List (Bool × Sh)) d) : Tri En 3 (argsOf ([(false, (.slice (.pair (.int .u64) (.pair (.int .u64) .unit))))] : List (Bool × Sh)) d 0) (objsOf ([(false, (.slice (.pair (.int .u64) (.pair (.int .u64) .unit))))] : List (Bool × Sh)) d) (.bl true) (gones (cnts ([(false, (.slice (.pair (.int .u64) (.pair (.int .u64) .unit))))] : List (Bool × Sh)))) := by
  obtain ⟨l, _⟩ := d
  exact ObjCounts_tri l
end Go.Proofs.Ytcebgfmeabbdpaa.E
