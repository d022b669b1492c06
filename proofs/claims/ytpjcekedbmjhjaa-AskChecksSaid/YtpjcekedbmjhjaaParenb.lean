/- Package arena: Run, Place, and what the document says of them. -/
import Derived.Test.YtpjcekedbmjhjaaParena
namespace Go.Proofs.Ytpjcekedbmjhjaa.E
open Go
set_option maxRecDepth 100000

/-- How many superblocks a size takes. -/
def runN (n : Int) : Int := (n + 1023) / 1024
theorem most_tri (own : Bool) (c : Cnf) (h : c.Small) : Tri En 17 [cnfA 0 c] [.tab own (.int .i64) c.cl] (.int .i64 (c.s * 1024)) [.tab own (.int .i64) c.cl] := by
  obtain ⟨w0, w1, s0, s1, b0, b1, t0, t1⟩ := h
  refine Tri.of Try.func17 rfl Try.call17 rfl ?_
  refine Goods.fin 2000 [] mixed Try.func17 ?_
  show Yes _
  repeat' apply And.intro
  (all_goals first | rfl | assumption | trivial | omega | (simp [-List.getD_eq_getElem?_getD] <;> omega) | (simp (disch := omega) only [w64, wu64] <;> omega) | (simp (disch := omega) [-List.getD_eq_getElem?_getD, List.getD_cons_zero, List.getD_cons_succ, kCast_self, dfl_pair, dfl_int, w64, wu64] <;> omega) | (rw [Bool.eq_iff_iff]; simp (disch := omega) [-List.getD_eq_getElem?_getD, List.getD_cons_zero, List.getD_cons_succ, kCast_self, dfl_pair, dfl_int, w64, wu64] <;> omega) | (simp_all [-List.getD_eq_getElem?_getD] <;> omega))
theorem end_tri (own : Bool) (c : Cnf) (h : c.Small) : Tri En 18 [cnfA 0 c] [.tab own (.int .i64) c.cl] (.int .i64 (65536 + c.s * 1024)) [.tab own (.int .i64) c.cl] := by
  have hm := most_tri own c h
  obtain ⟨w0, w1, s0, s1, b0, b1, t0, t1⟩ := h
  refine Tri.of Try.func18 rfl Try.call18 rfl ?_
  refine Goods.fin 2000 [.c (.of hm)] mixed Try.func18 ?_
  show Yes _
  repeat' apply And.intro
  (all_goals first | rfl | assumption | trivial | omega | (simp [-List.getD_eq_getElem?_getD] <;> omega) | (simp (disch := omega) only [w64, wu64] <;> omega) | (simp (disch := omega) [-List.getD_eq_getElem?_getD, List.getD_cons_zero, List.getD_cons_succ, kCast_self, dfl_pair, dfl_int, w64, wu64] <;> omega) | (rw [Bool.eq_iff_iff]; simp (disch := omega) [-List.getD_eq_getElem?_getD, List.getD_cons_zero, List.getD_cons_succ, kCast_self, dfl_pair, dfl_int, w64, wu64] <;> omega) | (simp_all [-List.getD_eq_getElem?_getD] <;> omega))
theorem run_yes (own : Bool) (c : Cnf) (h : c.Ok) (n : Int) (h1 : ClsN c.cl n) (h2 : 1 ≤ n) (h3 : n ≤ 1024 * c.s) : Tri En 15 [cnfA 0 c, .int .i64 n] [.tab own (.int .i64) c.cl] (.int .i64 (runN n)) [.tab own (.int .i64) c.cl] := by
  have g1 := class_no own c h.l1 n h1
  have g2 := most_tri own c h.toSmall
  have s1 := h.s1
  have e : Int.tdiv (n + 1024 - 1) 1024 = runN n := by rw [Int.tdiv_eq_ediv_of_nonneg (by omega)]; unfold runN; omega
  have e0 : IntKind.i64.wrap (n + 1024) = n + 1024 := w64 (by omega) (by omega)
  have e1 : IntKind.i64.wrap (n + 1024 - 1) = n + 1024 - 1 := w64 (by omega) (by omega)
  have e3 : IntKind.i64.wrap (runN n) = runN n := w64 (by unfold runN; omega) (by unfold runN; omega)
  refine Tri.of Try.func15 rfl Try.call15 rfl ?_
  refine Goods.fin 2000 [.c (.of g1), .s 16 (some false) true true, .c (.of g2), .b false] mixed Try.func15 ?_
  show Yes _
  repeat' apply And.intro
  (all_goals first | rfl | assumption | trivial | omega | (simp [-List.getD_eq_getElem?_getD, e0, e1, e, e3] <;> omega) | (simp (disch := omega) only [w64, wu64] <;> omega) | (simp (disch := omega) [-List.getD_eq_getElem?_getD, List.getD_cons_zero, List.getD_cons_succ, kCast_self, dfl_pair, dfl_int, w64, wu64, e0, e1, e, e3] <;> omega) | (rw [Bool.eq_iff_iff]; simp (disch := omega) [-List.getD_eq_getElem?_getD, List.getD_cons_zero, List.getD_cons_succ, kCast_self, dfl_pair, dfl_int, w64, wu64, e0, e1, e, e3] <;> omega) | (simp_all [-List.getD_eq_getElem?_getD] <;> omega))
theorem run_no (own : Bool) (c : Cnf) (h : c.Ok) (n : Int) (h1 : ClsN c.cl n) (h2 : ¬ (1 ≤ n ∧ n ≤ 1024 * c.s)) : Tri En 15 [cnfA 0 c, .int .i64 n] [.tab own (.int .i64) c.cl] (.int .i64 0) [.tab own (.int .i64) c.cl] := by
  have g1 := class_no own c h.l1 n h1
  have g2 := most_tri own c h.toSmall
  have s1 := h.s1
  refine Tri.of Try.func15 rfl Try.call15 rfl ?_
  by_cases h3 : n < 1
  · refine Goods.fin 2000 [.c (.of g1), .s 16 (some true) true true] mixed Try.func15 ?_
    show Yes _
    repeat' apply And.intro
    (all_goals first | rfl | assumption | trivial | omega | (simp [-List.getD_eq_getElem?_getD] <;> omega) | (simp (disch := omega) only [w64, wu64] <;> omega) | (simp (disch := omega) [-List.getD_eq_getElem?_getD, List.getD_cons_zero, List.getD_cons_succ, kCast_self, dfl_pair, dfl_int, w64, wu64] <;> omega) | (rw [Bool.eq_iff_iff]; simp (disch := omega) [-List.getD_eq_getElem?_getD, List.getD_cons_zero, List.getD_cons_succ, kCast_self, dfl_pair, dfl_int, w64, wu64] <;> omega) | (simp_all [-List.getD_eq_getElem?_getD] <;> omega))
  · refine Goods.fin 2000 [.c (.of g1), .s 16 (some false) true true, .c (.of g2), .b true] mixed Try.func15 ?_
    show Yes _
    repeat' apply And.intro
    (all_goals first | rfl | assumption | trivial | omega | (simp [-List.getD_eq_getElem?_getD] <;> omega) | (simp (disch := omega) only [w64, wu64] <;> omega) | (simp (disch := omega) [-List.getD_eq_getElem?_getD, List.getD_cons_zero, List.getD_cons_succ, kCast_self, dfl_pair, dfl_int, w64, wu64] <;> omega) | (rw [Bool.eq_iff_iff]; simp (disch := omega) [-List.getD_eq_getElem?_getD, List.getD_cons_zero, List.getD_cons_succ, kCast_self, dfl_pair, dfl_int, w64, wu64] <;> omega) | (simp_all [-List.getD_eq_getElem?_getD] <;> omega))
noncomputable abbrev gRrn (own : Bool) (c : Cnf) (v : Int) : Frm := ⟨En, 11, Try.f11.ntmps, [.tab own (.int .i64) c.cl], .int .i64 v, [.tab own (.int .i64) c.cl]⟩
theorem rrn_y (own : Bool) (c : Cnf) (hs : c.s ≤ 64) (n R : Int) (h1 : 1024 * (R - 1) < n) (h2 : n ≤ 1024 * R) (hR : R ≤ c.s) : ∀ (j : Nat) (r : Int), 1 ≤ r → r + j = R → Goods (gRrn own c R) ⟨.none, lp Try.f11 0,
    [(1, .int .i64 n), (2, .ptr 1 0 0), (5, .int .i64 r)], hp [.tab own (.int .i64) c.cl, cnfC c]⟩
  | 0, r, h0, hj => by
    obtain rfl : r = R := by omega
    refine Goods.fin 2000 [.b true, .b true] mixed Try.func11 ?_
    show Yes _
    repeat' apply And.intro
    (all_goals first | rfl | assumption | trivial | omega | (simp [-List.getD_eq_getElem?_getD] <;> omega) | (simp (disch := omega) only [w64, wu64] <;> omega) | (simp (disch := omega) [-List.getD_eq_getElem?_getD, List.getD_cons_zero, List.getD_cons_succ, kCast_self, dfl_pair, dfl_int, w64, wu64] <;> omega) | (rw [Bool.eq_iff_iff]; simp (disch := omega) [-List.getD_eq_getElem?_getD, List.getD_cons_zero, List.getD_cons_succ, kCast_self, dfl_pair, dfl_int, w64, wu64] <;> omega) | (simp_all [-List.getD_eq_getElem?_getD] <;> omega))
  | j + 1, r, h0, hj => by
    have ih := rrn_y own c hs n R h1 h2 hR j (r + 1) (by omega) (by omega)
    refine Goods.to 2000 [.b true, .b false, .l, .stop] mixed (ih) (by kernel_rfl) ?_
    show Yes _
    repeat' apply And.intro
    (all_goals first | rfl | assumption | trivial | omega | (simp [-List.getD_eq_getElem?_getD] <;> omega) | (simp (disch := omega) only [w64, wu64] <;> omega) | (simp (disch := omega) [-List.getD_eq_getElem?_getD, List.getD_cons_zero, List.getD_cons_succ, kCast_self, dfl_pair, dfl_int, w64, wu64] <;> omega) | (rw [Bool.eq_iff_iff]; simp (disch := omega) [-List.getD_eq_getElem?_getD, List.getD_cons_zero, List.getD_cons_succ, kCast_self, dfl_pair, dfl_int, w64, wu64] <;> omega) | (simp_all [-List.getD_eq_getElem?_getD] <;> omega))
theorem rrn_n (own : Bool) (c : Cnf) (hs : c.s ≤ 64) (n : Int) (h1 : 1024 * c.s < n) : ∀ (j : Nat) (r : Int), 1 ≤ r → r + j = c.s + 1 → Goods (gRrn own c 0) ⟨.none, lp Try.f11 0,
    [(1, .int .i64 n), (2, .ptr 1 0 0), (5, .int .i64 r)], hp [.tab own (.int .i64) c.cl, cnfC c]⟩
  | 0, r, h0, hj => by
    refine Goods.fin 2000 [.b false] mixed Try.func11 ?_
    show Yes _
    repeat' apply And.intro
    (all_goals first | rfl | assumption | trivial | omega | (simp [-List.getD_eq_getElem?_getD] <;> omega) | (simp (disch := omega) only [w64, wu64] <;> omega) | (simp (disch := omega) [-List.getD_eq_getElem?_getD, List.getD_cons_zero, List.getD_cons_succ, kCast_self, dfl_pair, dfl_int, w64, wu64] <;> omega) | (rw [Bool.eq_iff_iff]; simp (disch := omega) [-List.getD_eq_getElem?_getD, List.getD_cons_zero, List.getD_cons_succ, kCast_self, dfl_pair, dfl_int, w64, wu64] <;> omega) | (simp_all [-List.getD_eq_getElem?_getD] <;> omega))
  | j + 1, r, h0, hj => by
    have ih := rrn_n own c hs n h1 j (r + 1) (by omega) (by omega)
    refine Goods.to 2000 [.b true, .b false, .l, .stop] mixed (ih) (by kernel_rfl) ?_
    show Yes _
    repeat' apply And.intro
    (all_goals first | rfl | assumption | trivial | omega | (simp [-List.getD_eq_getElem?_getD] <;> omega) | (simp (disch := omega) only [w64, wu64] <;> omega) | (simp (disch := omega) [-List.getD_eq_getElem?_getD, List.getD_cons_zero, List.getD_cons_succ, kCast_self, dfl_pair, dfl_int, w64, wu64] <;> omega) | (rw [Bool.eq_iff_iff]; simp (disch := omega) [-List.getD_eq_getElem?_getD, List.getD_cons_zero, List.getD_cons_succ, kCast_self, dfl_pair, dfl_int, w64, wu64] <;> omega) | (simp_all [-List.getD_eq_getElem?_getD] <;> omega))
theorem rrun_yes (own : Bool) (c : Cnf) (h : c.Ok) (n : Int) (h1 : ClsN c.cl n) (h2 : 1 ≤ n) (h3 : n ≤ 1024 * c.s) : Tri En 11 [cnfA 0 c, .int .i64 n] [.tab own (.int .i64) c.cl] (.int .i64 (runN n)) [.tab own (.int .i64) c.cl] := by
  have g1 := rclass_no own c h.l1 n h1
  have s1 := h.s1
  have ih := rrn_y own c s1 n (runN n) (by unfold runN; omega) (by unfold runN; omega) (by unfold runN; omega) (runN n - 1).toNat 1 (by omega) (by unfold runN; omega)
  refine Tri.of Try.func11 rfl Try.call11 rfl ?_
  refine Goods.to 2000 [.s 7 (some false) true true, .c (.of g1), .b false, .l, .stop] mixed (ih) (by kernel_rfl) ?_
  show Yes _
  repeat' apply And.intro
  (all_goals first | rfl | assumption | trivial | omega | (simp [-List.getD_eq_getElem?_getD] <;> omega) | (simp (disch := omega) only [w64, wu64] <;> omega) | (simp (disch := omega) [-List.getD_eq_getElem?_getD, List.getD_cons_zero, List.getD_cons_succ, kCast_self, dfl_pair, dfl_int, w64, wu64] <;> omega) | (rw [Bool.eq_iff_iff]; simp (disch := omega) [-List.getD_eq_getElem?_getD, List.getD_cons_zero, List.getD_cons_succ, kCast_self, dfl_pair, dfl_int, w64, wu64] <;> omega) | (simp_all [-List.getD_eq_getElem?_getD] <;> omega))
theorem rrun_no (own : Bool) (c : Cnf) (h : c.Ok) (n : Int) (h1 : ClsN c.cl n) (h2 : ¬ (1 ≤ n ∧ n ≤ 1024 * c.s)) : Tri En 11 [cnfA 0 c, .int .i64 n] [.tab own (.int .i64) c.cl] (.int .i64 0) [.tab own (.int .i64) c.cl] := by
  have g1 := rclass_no own c h.l1 n h1
  have s0 := h.s0
  have s1 := h.s1
  refine Tri.of Try.func11 rfl Try.call11 rfl ?_
  by_cases h3 : n < 1
  · refine Goods.fin 2000 [.s 7 (some true) true true] mixed Try.func11 ?_
    show Yes _
    repeat' apply And.intro
    (all_goals first | rfl | assumption | trivial | omega | (simp [-List.getD_eq_getElem?_getD] <;> omega) | (simp (disch := omega) only [w64, wu64] <;> omega) | (simp (disch := omega) [-List.getD_eq_getElem?_getD, List.getD_cons_zero, List.getD_cons_succ, kCast_self, dfl_pair, dfl_int, w64, wu64] <;> omega) | (rw [Bool.eq_iff_iff]; simp (disch := omega) [-List.getD_eq_getElem?_getD, List.getD_cons_zero, List.getD_cons_succ, kCast_self, dfl_pair, dfl_int, w64, wu64] <;> omega) | (simp_all [-List.getD_eq_getElem?_getD] <;> omega))
  · have ih := rrn_n own c s1 n (by omega) c.s.toNat 1 (by omega) (by omega)
    refine Goods.to 2000 [.s 7 (some false) true true, .c (.of g1), .b false, .l, .stop] mixed (ih) (by kernel_rfl) ?_
    show Yes _
    repeat' apply And.intro
    (all_goals first | rfl | assumption | trivial | omega | (simp [-List.getD_eq_getElem?_getD] <;> omega) | (simp (disch := omega) only [w64, wu64] <;> omega) | (simp (disch := omega) [-List.getD_eq_getElem?_getD, List.getD_cons_zero, List.getD_cons_succ, kCast_self, dfl_pair, dfl_int, w64, wu64] <;> omega) | (rw [Bool.eq_iff_iff]; simp (disch := omega) [-List.getD_eq_getElem?_getD, List.getD_cons_zero, List.getD_cons_succ, kCast_self, dfl_pair, dfl_int, w64, wu64] <;> omega) | (simp_all [-List.getD_eq_getElem?_getD] <;> omega))
/-- An address is one of the arena's grains. -/
def grainP (c : Cnf) (n : Int) : Prop := 65536 ≤ n ∧ n < 65536 + 1024 * c.s ∧ Int.tmod n 16 = 0
theorem place_yes (own : Bool) (c : Cnf) (h : c.Small) (n : Int) (h1 : grainP c n) : Tri En 16 [cnfA 0 c, .int .i64 n] [.tab own (.int .i64) c.cl] (.tuple [.int .i64 (Int.tdiv (Int.tdiv (n - 65536) 16) 64), .int .i64 (Int.tmod (Int.tdiv (n - 65536) 16) 64), .bl true]) [.tab own (.int .i64) c.cl] := by
  have g1 := end_tri own c h
  obtain ⟨a1, a2, a3⟩ := h1
  have s1 := h.s1
  have e : IntKind.i64.wrap (n - 65536) = n - 65536 := w64 (by omega) (by omega)
  have e2 : Int.tdiv (n - 65536) 16 = (n - 65536) / 16 := Int.tdiv_eq_ediv_of_nonneg (by omega)
  have e3 : IntKind.i64.wrap ((n - 65536) / 16) = (n - 65536) / 16 := w64 (by omega) (by omega)
  have e4 : Int.tdiv ((n - 65536) / 16) 64 = ((n - 65536) / 16) / 64 := Int.tdiv_eq_ediv_of_nonneg (by omega)
  have e5 : IntKind.i64.wrap (((n - 65536) / 16) / 64) = ((n - 65536) / 16) / 64 := w64 (by omega) (by omega)
  refine Tri.of Try.func16 rfl Try.call16 rfl ?_
  refine Goods.fin 2000 [.s 9 (some false) true true, .c (.of g1), .s 14 (some false) true true, .b false] mixed Try.func16 ?_
  show Yes _
  repeat' apply And.intro
  (all_goals first | rfl | assumption | trivial | omega | (simp [-List.getD_eq_getElem?_getD, e, e2, e3, a3, e4, e5] <;> omega) | (simp (disch := omega) only [w64, wu64] <;> omega) | (simp (disch := omega) [-List.getD_eq_getElem?_getD, List.getD_cons_zero, List.getD_cons_succ, kCast_self, dfl_pair, dfl_int, w64, wu64, e, e2, e3, a3, e4, e5] <;> omega) | (rw [Bool.eq_iff_iff]; simp (disch := omega) [-List.getD_eq_getElem?_getD, List.getD_cons_zero, List.getD_cons_succ, kCast_self, dfl_pair, dfl_int, w64, wu64, e, e2, e3, a3, e4, e5] <;> omega) | (simp_all [-List.getD_eq_getElem?_getD] <;> omega))
theorem place_no (own : Bool) (c : Cnf) (h : c.Small) (n : Int) (h1 : ¬ grainP c n) : Tri En 16 [cnfA 0 c, .int .i64 n] [.tab own (.int .i64) c.cl] (.tuple [.int .i64 0, .int .i64 0, .bl false]) [.tab own (.int .i64) c.cl] := by
  have g1 := end_tri own c h
  unfold grainP at h1
  refine Tri.of Try.func16 rfl Try.call16 rfl ?_
  by_cases a1 : n < 65536
  · refine Goods.fin 2000 [.s 9 (some true) true true] mixed Try.func16 ?_
    show Yes _
    repeat' apply And.intro
    (all_goals first | rfl | assumption | trivial | omega | (simp [-List.getD_eq_getElem?_getD] <;> omega) | (simp (disch := omega) only [w64, wu64] <;> omega) | (simp (disch := omega) [-List.getD_eq_getElem?_getD, List.getD_cons_zero, List.getD_cons_succ, kCast_self, dfl_pair, dfl_int, w64, wu64] <;> omega) | (rw [Bool.eq_iff_iff]; simp (disch := omega) [-List.getD_eq_getElem?_getD, List.getD_cons_zero, List.getD_cons_succ, kCast_self, dfl_pair, dfl_int, w64, wu64] <;> omega) | (simp_all [-List.getD_eq_getElem?_getD] <;> omega))
  · by_cases a2 : n < 65536 + 1024 * c.s
    · have a3 : Int.tmod n 16 ≠ 0 := fun x => h1 ⟨by omega, a2, x⟩
      refine Goods.fin 2000 [.s 9 (some false) true true, .c (.of g1), .s 14 (some false) true true, .b true] mixed Try.func16 ?_
      show Yes _
      repeat' apply And.intro
      (all_goals first | rfl | assumption | trivial | omega | (simp [-List.getD_eq_getElem?_getD, a3] <;> omega) | (simp (disch := omega) only [w64, wu64] <;> omega) | (simp (disch := omega) [-List.getD_eq_getElem?_getD, List.getD_cons_zero, List.getD_cons_succ, kCast_self, dfl_pair, dfl_int, w64, wu64, a3] <;> omega) | (rw [Bool.eq_iff_iff]; simp (disch := omega) [-List.getD_eq_getElem?_getD, List.getD_cons_zero, List.getD_cons_succ, kCast_self, dfl_pair, dfl_int, w64, wu64, a3] <;> omega) | (simp_all [-List.getD_eq_getElem?_getD] <;> omega))
    · refine Goods.fin 2000 [.s 9 (some false) true true, .c (.of g1), .s 14 (some true) true true] mixed Try.func16 ?_
      show Yes _
      repeat' apply And.intro
      (all_goals first | rfl | assumption | trivial | omega | (simp [-List.getD_eq_getElem?_getD] <;> omega) | (simp (disch := omega) only [w64, wu64] <;> omega) | (simp (disch := omega) [-List.getD_eq_getElem?_getD, List.getD_cons_zero, List.getD_cons_succ, kCast_self, dfl_pair, dfl_int, w64, wu64] <;> omega) | (rw [Bool.eq_iff_iff]; simp (disch := omega) [-List.getD_eq_getElem?_getD, List.getD_cons_zero, List.getD_cons_succ, kCast_self, dfl_pair, dfl_int, w64, wu64] <;> omega) | (simp_all [-List.getD_eq_getElem?_getD] <;> omega))
end Go.Proofs.Ytpjcekedbmjhjaa.E
