/- Package tag: a look through words, by steps. -/
import Derived.Test.YtcicfbccdgkfhaaDoorPtag
import Derived.Test.YtcicfbccdgkfhaaDoorPrefb
namespace Go.Proofs.YtcicfbccdgkfhaaDoor.E
open Go
set_option maxRecDepth 100000

/-- A scan: over the memory i, its tags in object j. -/
def scanC (i j : Nat) (at_ n wk sl : Int) (used : List Int) : AObj := .cells [.ptr i 0 0, .int .i64 at_, .int .i64 n, .int .i64 wk, .int .i64 sl, .int .i64 0, .slice j 0 used.length]
def tagsT (used : List Int) : AObj := .tab true (.int .i64) used
theorem scan_new (m : MemS) (at_ n wk sl : Int) : Tri En 16 [.ptr 0 0 0, .int .i64 at_, .int .i64 n, .int .i64 wk, .int .i64 sl] [memC 1 m, memT m] (.ptr 2 0 0) [memC 1 m, memT m, scanC 0 3 at_ (max n 0) wk sl [], tagsT []] := by
  refine Tri.nilCell (pre := [memC 1 m, memT m]) (post := []) (cp := [.ptr 0 0 0, .int .i64 at_, .int .i64 (max n 0), .int .i64 wk, .int .i64 sl, .int .i64 0]) (cq := []) (.int .i64) ?_ (by simp)
  show Tri En 16 [.ptr 0 0 0, .int .i64 at_, .int .i64 n, .int .i64 wk, .int .i64 sl] [memC 1 m, memT m] (.ptr 2 0 0) [memC 1 m, memT m, .cells [.ptr 0 0 0, .int .i64 at_, .int .i64 (max n 0), .int .i64 wk, .int .i64 sl, .int .i64 0, .nilslice]]
  refine Tri.of Tryd.func16 rfl Tryd.call16 rfl ?_
  refine Goods.fin 2000 [] mixed Tryd.func16 ?_
  show Yes _
  repeat' apply And.intro
  (all_goals first | rfl | assumption | trivial | omega | (simp [-List.getD_eq_getElem?_getD] <;> omega) | (simp (disch := omega) only [w64, wu64] <;> omega) | (simp (disch := omega) [-List.getD_eq_getElem?_getD, List.getD_cons_zero, List.getD_cons_succ, kCast_self, dfl_pair, dfl_int, w64, wu64] <;> omega) | (rw [Bool.eq_iff_iff]; simp (disch := omega) [-List.getD_eq_getElem?_getD, List.getD_cons_zero, List.getD_cons_succ, kCast_self, dfl_pair, dfl_int, w64, wu64] <;> omega) | (simp_all [-List.getD_eq_getElem?_getD] <;> omega))
theorem step_end (m : MemS) (at_ wk sl : Int) (used : List Int) : Tri En 17 [.ptr 0 0 0] [scanC 1 3 at_ 0 wk sl used, memC 2 m, memT m, tagsT used] (.bl true) [scanC 1 3 at_ 0 wk sl used, memC 2 m, memT m, tagsT used] := by
  refine Tri.of Tryd.func17 rfl Tryd.call17 rfl ?_
  refine Goods.fin 2000 [.b false] mixed Tryd.func17 ?_
  show Yes _
  repeat' apply And.intro
  (all_goals first | rfl | assumption | trivial | omega | (simp [-List.getD_eq_getElem?_getD] <;> omega) | (simp (disch := omega) only [w64, wu64] <;> omega) | (simp (disch := omega) [-List.getD_eq_getElem?_getD, List.getD_cons_zero, List.getD_cons_succ, kCast_self, dfl_pair, dfl_int, w64, wu64] <;> omega) | (rw [Bool.eq_iff_iff]; simp (disch := omega) [-List.getD_eq_getElem?_getD, List.getD_cons_zero, List.getD_cons_succ, kCast_self, dfl_pair, dfl_int, w64, wu64] <;> omega) | (simp_all [-List.getD_eq_getElem?_getD] <;> omega))
theorem ref_tri (m : MemS) (at_ n wk sl : Int) (used : List Int) (hu : used.length < 1000000) : Tri En 18 [.ptr 0 0 0] [scanC 1 3 at_ n wk sl used, memC 2 m, memT m, tagsT used] (refI wk sl (leastT used)) [scanC 1 3 at_ n wk sl used, memC 2 m, memT m, tagsT used] := by
  refine Tri.of Tryd.func18 rfl Tryd.call18 rfl ?_
  refine Goods.fin 2000 [.c (.of (least_tri true used hu))] mixed Tryd.func18 ?_
  show Yes _
  repeat' apply And.intro
  (all_goals first | rfl | assumption | trivial | omega | (simp [-List.getD_eq_getElem?_getD] <;> omega) | (simp (disch := omega) only [w64, wu64] <;> omega) | (simp (disch := omega) [-List.getD_eq_getElem?_getD, List.getD_cons_zero, List.getD_cons_succ, kCast_self, dfl_pair, dfl_int, w64, wu64] <;> omega) | (rw [Bool.eq_iff_iff]; simp (disch := omega) [-List.getD_eq_getElem?_getD, List.getD_cons_zero, List.getD_cons_succ, kCast_self, dfl_pair, dfl_int, w64, wu64] <;> omega) | (simp_all [-List.getD_eq_getElem?_getD] <;> omega))
set_option maxHeartbeats 2000000 in
theorem step_tri (m : MemS) (a n : Nat) (wk sl : Int) (used : List Int) (hn : n < 1000000) (ha : a < 1000000) (x : Nat) (hx : m.get a = x) (hx2 : x < 18446744073709551616) (hu : used.length < 1000000) :
    Tri En 17 [.ptr 0 0 0] [scanC 1 3 a (n + 1 : Nat) wk sl used, memC 2 m, memT m, tagsT used] (.bool (decide ((n : Int) = 0))) [scanC 1 4 (a + 1 : Nat) n wk sl (hitsU wk sl used x), memC 2 (m.acc 1 a), memT m, .gone, tagsT (hitsU wk sl used x)] := by
  have hl := mem_load m a
  rw [hx] at hl
  unfold hitsU hitN
  rw [Int.toNat_natCast]
  by_cases h1 : refN (getN x 0 8) (getN x 8 8) (getN x 16 32) = x
  · have ht := to_yes x hx2 h1
    by_cases h2 : (getN x 0 8 : Int) = wk
    · by_cases h3 : (getN x 8 8 : Int) = sl
      · rw [if_pos (by simp [h1, h2, h3])]
        refine Tri.of Tryd.func17 rfl Tryd.call17 rfl ?_
        refine Goods.fin 2000 [.b true, .k 19 (.of hl), .k 20 (.of ht), .s 32 (some true) true true, .s 42 (some true) true true] mixed Tryd.func17 ?_
        show Yes _
        repeat' apply And.intro
        (all_goals first | rfl | assumption | trivial | omega | (simp [-List.getD_eq_getElem?_getD] <;> omega) | (simp (disch := omega) only [w64, wu64] <;> omega) | (simp (disch := omega) [-List.getD_eq_getElem?_getD, List.getD_cons_zero, List.getD_cons_succ, kCast_self, dfl_pair, dfl_int, w64, wu64] <;> omega) | (rw [Bool.eq_iff_iff]; simp (disch := omega) [-List.getD_eq_getElem?_getD, List.getD_cons_zero, List.getD_cons_succ, kCast_self, dfl_pair, dfl_int, w64, wu64] <;> omega) | (simp_all [-List.getD_eq_getElem?_getD] <;> omega))
      · rw [if_neg (by simp [h3])]
        refine Tri.of Tryd.func17 rfl Tryd.call17 rfl ?_
        refine Goods.fin 2000 [.b true, .k 19 (.of hl), .k 20 (.of ht), .s 32 (some true) true true, .s 42 (some false) true true] mixed Tryd.func17 ?_
        show Yes _
        repeat' apply And.intro
        (all_goals first | rfl | assumption | trivial | omega | (simp [-List.getD_eq_getElem?_getD] <;> omega) | (simp (disch := omega) only [w64, wu64] <;> omega) | (simp (disch := omega) [-List.getD_eq_getElem?_getD, List.getD_cons_zero, List.getD_cons_succ, kCast_self, dfl_pair, dfl_int, w64, wu64] <;> omega) | (rw [Bool.eq_iff_iff]; simp (disch := omega) [-List.getD_eq_getElem?_getD, List.getD_cons_zero, List.getD_cons_succ, kCast_self, dfl_pair, dfl_int, w64, wu64] <;> omega) | (simp_all [-List.getD_eq_getElem?_getD] <;> omega))
    · rw [if_neg (by simp [h2])]
      refine Tri.of Tryd.func17 rfl Tryd.call17 rfl ?_
      refine Goods.fin 2000 [.b true, .k 19 (.of hl), .k 20 (.of ht), .s 32 (some false) true true] mixed Tryd.func17 ?_
      show Yes _
      repeat' apply And.intro
      (all_goals first | rfl | assumption | trivial | omega | (simp [-List.getD_eq_getElem?_getD] <;> omega) | (simp (disch := omega) only [w64, wu64] <;> omega) | (simp (disch := omega) [-List.getD_eq_getElem?_getD, List.getD_cons_zero, List.getD_cons_succ, kCast_self, dfl_pair, dfl_int, w64, wu64] <;> omega) | (rw [Bool.eq_iff_iff]; simp (disch := omega) [-List.getD_eq_getElem?_getD, List.getD_cons_zero, List.getD_cons_succ, kCast_self, dfl_pair, dfl_int, w64, wu64] <;> omega) | (simp_all [-List.getD_eq_getElem?_getD] <;> omega))
  · rw [if_neg (by simp [h1])]
    have ht := to_no x hx2 h1
    refine Tri.of Tryd.func17 rfl Tryd.call17 rfl ?_
    refine Goods.fin 2000 [.b true, .k 19 (.of hl), .k 20 (.of ht)] mixed Tryd.func17 ?_
    show Yes _
    repeat' apply And.intro
    (all_goals first | rfl | assumption | trivial | omega | (simp [-List.getD_eq_getElem?_getD] <;> omega) | (simp (disch := omega) only [w64, wu64] <;> omega) | (simp (disch := omega) [-List.getD_eq_getElem?_getD, List.getD_cons_zero, List.getD_cons_succ, kCast_self, dfl_pair, dfl_int, w64, wu64] <;> omega) | (rw [Bool.eq_iff_iff]; simp (disch := omega) [-List.getD_eq_getElem?_getD, List.getD_cons_zero, List.getD_cons_succ, kCast_self, dfl_pair, dfl_int, w64, wu64] <;> omega) | (simp_all [-List.getD_eq_getElem?_getD] <;> omega))
end Go.Proofs.YtcicfbccdgkfhaaDoor.E
