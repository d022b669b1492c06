/- SlotPlaces: the law's contract. -/
import Derived.Test.YtfclnofmhnapnaaL08a
namespace Go.Proofs.Ytfclnofmhnapnaa.E
open Go
set_option maxRecDepth 100000

noncomputable abbrev gPlaces : Frm := ⟨En, 3, Try.f3.ntmps, [], .bl true, gones 0⟩
/-- The last loop: the records. -/
theorem places_3 (b w n : Nat) (h : FrOk b w n) (hn : n ≤ 255) : ∀ (j k : Nat), k + j = n → Goods gPlaces ⟨.none, lp Try.f3 2,
    [(1, .int .u8 w), (7, .ptr 0 0 0), (8, .int .i64 (b + 1 + 4 * n + 2 * (k * fRec w n))), (69, .int .i64 n), (70, .int .i64 k)], hp [.cells [.int .i64 b, .int .i64 w, .int .i64 n]]⟩
  | 0, k, hk => by
    have hr := fRec_le h
    have hp := nrec_le h
    obtain rfl : k = n := by omega
    have e : 2 * (k : Int) * fRec w k = 2 * (k * fRec w k) := Int.mul_assoc ..
    have hs := fr_size h
    rw [e] at hs
    obtain ⟨b0, b1, w0, w1, n0, n1⟩ := h
    refine Goods.fin 2000 [.b false, .c (.of hs)] mixed Try.func3 ?_
    show Yes _
    repeat' apply And.intro
    (all_goals first | rfl | assumption | trivial | omega | (simp [-List.getD_eq_getElem?_getD] <;> omega) | (simp (disch := omega) only [w64, wu64] <;> omega) | (simp (disch := omega) [-List.getD_eq_getElem?_getD, List.getD_cons_zero, List.getD_cons_succ, kCast_self, dfl_pair, dfl_int, w64, wu64] <;> omega) | (rw [Bool.eq_iff_iff]; simp (disch := omega) [-List.getD_eq_getElem?_getD, List.getD_cons_zero, List.getD_cons_succ, kCast_self, dfl_pair, dfl_int, w64, wu64] <;> omega) | (simp_all [-List.getD_eq_getElem?_getD] <;> omega))
  | j + 1, k, hk => by
    have ih := places_3 b w n h hn j (k + 1) (by omega)
    have hr := fRec_le h
    have hw := wrec_le h (i := k) (s := 1) (by omega) (by omega) (by omega) (by omega)
    have a0 := fr_at h (i := k) (s := 0) (by omega) (by omega) (by omega) (by omega)
    have a1 := fr_at h (i := k) (s := 1) (by omega) (by omega) (by omega) (by omega)
    have e0 : (2 * (k : Int) + 0) * fRec w n = 2 * (k * fRec w n) := by rw [Int.add_zero, Int.mul_assoc]
    have e1 : (2 * (k : Int) + 1) * fRec w n = 2 * (k * fRec w n) + fRec w n := by rw [Int.add_mul, Int.mul_assoc, Int.one_mul]
    have e2 : ((k + 1 : Nat) : Int) * fRec w n = k * fRec w n + fRec w n := by rw [Int.natCast_add, Int.add_mul]; simp
    rw [e0] at a0
    rw [e1] at a1 hw
    rw [e2] at ih
    have d0 := fr_done h (i := k) (by omega) (by omega)
    have w0 := fr_answer h (i := k) (by omega) (by omega)
    have hrec := fr_record h
    obtain ⟨b0, b1, w0', w1, n0, n1⟩ := h
    refine Goods.to 2000 [.b true, .l, .b true, .c (.of a0), .b false, .c (.of hrec), .l, .b true, .c (.of a1), .b false, .c (.of hrec), .l, .b false, .c (.of d0), .s 95 (some false) true true, .c (.of w0), .c (.of d0), .b false, .l, .stop] mixed (ih) (by kernel_rfl) ?_
    show Yes _
    repeat' apply And.intro
    (all_goals first | rfl | assumption | trivial | omega | (simp [-List.getD_eq_getElem?_getD] <;> omega) | (simp (disch := omega) only [w64, wu64] <;> omega) | (simp (disch := omega) [-List.getD_eq_getElem?_getD, List.getD_cons_zero, List.getD_cons_succ, kCast_self, dfl_pair, dfl_int, w64, wu64] <;> omega) | (rw [Bool.eq_iff_iff]; simp (disch := omega) [-List.getD_eq_getElem?_getD, List.getD_cons_zero, List.getD_cons_succ, kCast_self, dfl_pair, dfl_int, w64, wu64] <;> omega) | (simp_all [-List.getD_eq_getElem?_getD] <;> omega))
noncomputable def nthF (b w n : Int) (i : Nat) : AV := .func (.func ([10, 11, 12, 13].getD i 0)) [frA b w n] []
noncomputable def plFuncs (b w n : Int) : AV := .agg [.func (.func 10) [frA b w n] [], .func (.func 11) [frA b w n] [], .func (.func 12) [frA b w n] [], .func (.func 13) [frA b w n] []]
/-- What follows the rows of one word a worker, in turned order: the last row first. -/
theorem places_in3 (b w n : Nat) (h : FrOk b w n) (hn : n ≤ 255) (next : Goods gPlaces ⟨.none, lp Try.f3 2, [(1, .int .u8 w), (7, .ptr 0 0 0), (8, .int .i64 (b + 1 + 4 * n)), (69, .int .i64 n), (70, .int .i64 0)], hp [.cells [.int .i64 b, .int .i64 w, .int .i64 n]]⟩) : ∀ (j k : Nat), k + j = n → Goods gPlaces ⟨.none, lp Try.f3 1,
    [(1, .int .u8 w), (7, .ptr 0 0 0), (8, .int .i64 (b + 1 + 3 * n + k)), (9, .int .i64 n), (11, nthF b w n 3), (52, plFuncs b w n), (53, .int .i64 3), (56, .int .i64 n), (57, .int .i64 k)], hp [.cells [.int .i64 b, .int .i64 w, .int .i64 n]]⟩
  | 0, k, hk => by
    obtain rfl : k = n := by omega
    obtain ⟨b0, b1, w0, w1, n0, n1⟩ := h
    refine Goods.to 2000 [.b false, .l, .b false, .l, .stop] mixed (next) (by kernel_rfl) ?_
    show Yes _
    repeat' apply And.intro
    (all_goals first | rfl | assumption | trivial | omega | (simp [-List.getD_eq_getElem?_getD] <;> omega) | (simp (disch := omega) only [w64, wu64] <;> omega) | (simp (disch := omega) [-List.getD_eq_getElem?_getD, List.getD_cons_zero, List.getD_cons_succ, kCast_self, dfl_pair, dfl_int, w64, wu64] <;> omega) | (rw [Bool.eq_iff_iff]; simp (disch := omega) [-List.getD_eq_getElem?_getD, List.getD_cons_zero, List.getD_cons_succ, kCast_self, dfl_pair, dfl_int, w64, wu64] <;> omega) | (simp_all [-List.getD_eq_getElem?_getD] <;> omega))
  | j + 1, k, hk => by
    have ih := places_in3 b w n h hn next j (k + 1) (by omega)
    have hc := fr_b h (i := k) (by omega) (by omega)
    obtain ⟨b0, b1, w0, w1, n0, n1⟩ := h
    refine Goods.to 2000 [.b true, .c (.of hc), .b false, .l, .stop] mixed (ih) (by kernel_rfl) ?_
    show Yes _
    repeat' apply And.intro
    (all_goals first | rfl | assumption | trivial | omega | (simp [-List.getD_eq_getElem?_getD] <;> omega) | (simp (disch := omega) only [w64, wu64] <;> omega) | (simp (disch := omega) [-List.getD_eq_getElem?_getD, List.getD_cons_zero, List.getD_cons_succ, kCast_self, dfl_pair, dfl_int, w64, wu64] <;> omega) | (rw [Bool.eq_iff_iff]; simp (disch := omega) [-List.getD_eq_getElem?_getD, List.getD_cons_zero, List.getD_cons_succ, kCast_self, dfl_pair, dfl_int, w64, wu64] <;> omega) | (simp_all [-List.getD_eq_getElem?_getD] <;> omega))
theorem places_in2 (b w n : Nat) (h : FrOk b w n) (hn : n ≤ 255) (next : Goods gPlaces ⟨.none, lp Try.f3 1, [(1, .int .u8 w), (7, .ptr 0 0 0), (8, .int .i64 (b + 1 + 3 * n)), (9, .int .i64 n), (11, nthF b w n 3), (52, plFuncs b w n), (53, .int .i64 3), (56, .int .i64 n), (57, .int .i64 0)], hp [.cells [.int .i64 b, .int .i64 w, .int .i64 n]]⟩) : ∀ (j k : Nat), k + j = n → Goods gPlaces ⟨.none, lp Try.f3 1,
    [(1, .int .u8 w), (7, .ptr 0 0 0), (8, .int .i64 (b + 1 + 2 * n + k)), (9, .int .i64 n), (11, nthF b w n 2), (52, plFuncs b w n), (53, .int .i64 2), (56, .int .i64 n), (57, .int .i64 k)], hp [.cells [.int .i64 b, .int .i64 w, .int .i64 n]]⟩
  | 0, k, hk => by
    obtain rfl : k = n := by omega
    obtain ⟨b0, b1, w0, w1, n0, n1⟩ := h
    refine Goods.to 2000 [.b false, .l, .b true, .l, .stop] mixed (next) (by kernel_rfl) ?_
    show Yes _
    repeat' apply And.intro
    (all_goals first | rfl | assumption | trivial | omega | (simp [-List.getD_eq_getElem?_getD] <;> omega) | (simp (disch := omega) only [w64, wu64] <;> omega) | (simp (disch := omega) [-List.getD_eq_getElem?_getD, List.getD_cons_zero, List.getD_cons_succ, kCast_self, dfl_pair, dfl_int, w64, wu64] <;> omega) | (rw [Bool.eq_iff_iff]; simp (disch := omega) [-List.getD_eq_getElem?_getD, List.getD_cons_zero, List.getD_cons_succ, kCast_self, dfl_pair, dfl_int, w64, wu64] <;> omega) | (simp_all [-List.getD_eq_getElem?_getD] <;> omega))
  | j + 1, k, hk => by
    have ih := places_in2 b w n h hn next j (k + 1) (by omega)
    have hc := fr_a h (i := k) (by omega) (by omega)
    obtain ⟨b0, b1, w0, w1, n0, n1⟩ := h
    refine Goods.to 2000 [.b true, .c (.of hc), .b false, .l, .stop] mixed (ih) (by kernel_rfl) ?_
    show Yes _
    repeat' apply And.intro
    (all_goals first | rfl | assumption | trivial | omega | (simp [-List.getD_eq_getElem?_getD] <;> omega) | (simp (disch := omega) only [w64, wu64] <;> omega) | (simp (disch := omega) [-List.getD_eq_getElem?_getD, List.getD_cons_zero, List.getD_cons_succ, kCast_self, dfl_pair, dfl_int, w64, wu64] <;> omega) | (rw [Bool.eq_iff_iff]; simp (disch := omega) [-List.getD_eq_getElem?_getD, List.getD_cons_zero, List.getD_cons_succ, kCast_self, dfl_pair, dfl_int, w64, wu64] <;> omega) | (simp_all [-List.getD_eq_getElem?_getD] <;> omega))
theorem places_in1 (b w n : Nat) (h : FrOk b w n) (hn : n ≤ 255) (next : Goods gPlaces ⟨.none, lp Try.f3 1, [(1, .int .u8 w), (7, .ptr 0 0 0), (8, .int .i64 (b + 1 + 2 * n)), (9, .int .i64 n), (11, nthF b w n 2), (52, plFuncs b w n), (53, .int .i64 2), (56, .int .i64 n), (57, .int .i64 0)], hp [.cells [.int .i64 b, .int .i64 w, .int .i64 n]]⟩) : ∀ (j k : Nat), k + j = n → Goods gPlaces ⟨.none, lp Try.f3 1,
    [(1, .int .u8 w), (7, .ptr 0 0 0), (8, .int .i64 (b + 1 + 1 * n + k)), (9, .int .i64 n), (11, nthF b w n 1), (52, plFuncs b w n), (53, .int .i64 1), (56, .int .i64 n), (57, .int .i64 k)], hp [.cells [.int .i64 b, .int .i64 w, .int .i64 n]]⟩
  | 0, k, hk => by
    obtain rfl : k = n := by omega
    obtain ⟨b0, b1, w0, w1, n0, n1⟩ := h
    refine Goods.to 2000 [.b false, .l, .b true, .l, .stop] mixed (next) (by kernel_rfl) ?_
    show Yes _
    repeat' apply And.intro
    (all_goals first | rfl | assumption | trivial | omega | (simp [-List.getD_eq_getElem?_getD] <;> omega) | (simp (disch := omega) only [w64, wu64] <;> omega) | (simp (disch := omega) [-List.getD_eq_getElem?_getD, List.getD_cons_zero, List.getD_cons_succ, kCast_self, dfl_pair, dfl_int, w64, wu64] <;> omega) | (rw [Bool.eq_iff_iff]; simp (disch := omega) [-List.getD_eq_getElem?_getD, List.getD_cons_zero, List.getD_cons_succ, kCast_self, dfl_pair, dfl_int, w64, wu64] <;> omega) | (simp_all [-List.getD_eq_getElem?_getD] <;> omega))
  | j + 1, k, hk => by
    have ih := places_in1 b w n h hn next j (k + 1) (by omega)
    have hc := fr_asked h (i := k) (by omega) (by omega)
    obtain ⟨b0, b1, w0, w1, n0, n1⟩ := h
    refine Goods.to 2000 [.b true, .c (.of hc), .b false, .l, .stop] mixed (ih) (by kernel_rfl) ?_
    show Yes _
    repeat' apply And.intro
    (all_goals first | rfl | assumption | trivial | omega | (simp [-List.getD_eq_getElem?_getD] <;> omega) | (simp (disch := omega) only [w64, wu64] <;> omega) | (simp (disch := omega) [-List.getD_eq_getElem?_getD, List.getD_cons_zero, List.getD_cons_succ, kCast_self, dfl_pair, dfl_int, w64, wu64] <;> omega) | (rw [Bool.eq_iff_iff]; simp (disch := omega) [-List.getD_eq_getElem?_getD, List.getD_cons_zero, List.getD_cons_succ, kCast_self, dfl_pair, dfl_int, w64, wu64] <;> omega) | (simp_all [-List.getD_eq_getElem?_getD] <;> omega))
theorem places_in0 (b w n : Nat) (h : FrOk b w n) (hn : n ≤ 255) (next : Goods gPlaces ⟨.none, lp Try.f3 1, [(1, .int .u8 w), (7, .ptr 0 0 0), (8, .int .i64 (b + 1 + 1 * n)), (9, .int .i64 n), (11, nthF b w n 1), (52, plFuncs b w n), (53, .int .i64 1), (56, .int .i64 n), (57, .int .i64 0)], hp [.cells [.int .i64 b, .int .i64 w, .int .i64 n]]⟩) : ∀ (j k : Nat), k + j = n → Goods gPlaces ⟨.none, lp Try.f3 1,
    [(1, .int .u8 w), (7, .ptr 0 0 0), (8, .int .i64 (b + 1 + 0 * n + k)), (9, .int .i64 n), (11, nthF b w n 0), (52, plFuncs b w n), (53, .int .i64 0), (56, .int .i64 n), (57, .int .i64 k)], hp [.cells [.int .i64 b, .int .i64 w, .int .i64 n]]⟩
  | 0, k, hk => by
    obtain rfl : k = n := by omega
    obtain ⟨b0, b1, w0, w1, n0, n1⟩ := h
    refine Goods.to 2000 [.b false, .l, .b true, .l, .stop] mixed (next) (by kernel_rfl) ?_
    show Yes _
    repeat' apply And.intro
    (all_goals first | rfl | assumption | trivial | omega | (simp [-List.getD_eq_getElem?_getD] <;> omega) | (simp (disch := omega) only [w64, wu64] <;> omega) | (simp (disch := omega) [-List.getD_eq_getElem?_getD, List.getD_cons_zero, List.getD_cons_succ, kCast_self, dfl_pair, dfl_int, w64, wu64] <;> omega) | (rw [Bool.eq_iff_iff]; simp (disch := omega) [-List.getD_eq_getElem?_getD, List.getD_cons_zero, List.getD_cons_succ, kCast_self, dfl_pair, dfl_int, w64, wu64] <;> omega) | (simp_all [-List.getD_eq_getElem?_getD] <;> omega))
  | j + 1, k, hk => by
    have ih := places_in0 b w n h hn next j (k + 1) (by omega)
    have hc := fr_held h (i := k) (by omega) (by omega)
    obtain ⟨b0, b1, w0, w1, n0, n1⟩ := h
    refine Goods.to 2000 [.b true, .c (.of hc), .b false, .l, .stop] mixed (ih) (by kernel_rfl) ?_
    show Yes _
    repeat' apply And.intro
    (all_goals first | rfl | assumption | trivial | omega | (simp [-List.getD_eq_getElem?_getD] <;> omega) | (simp (disch := omega) only [w64, wu64] <;> omega) | (simp (disch := omega) [-List.getD_eq_getElem?_getD, List.getD_cons_zero, List.getD_cons_succ, kCast_self, dfl_pair, dfl_int, w64, wu64] <;> omega) | (rw [Bool.eq_iff_iff]; simp (disch := omega) [-List.getD_eq_getElem?_getD, List.getD_cons_zero, List.getD_cons_succ, kCast_self, dfl_pair, dfl_int, w64, wu64] <;> omega) | (simp_all [-List.getD_eq_getElem?_getD] <;> omega))
theorem SlotPlaces_tri (b w n : Nat) (hb : b ≤ 65535) (hw : w ≤ 255) (hn : n ≤ 255) : Tri En 3 [.int .u16 b, .int .u8 w, .int .u8 n] [] (.bl true) (gones 0) := by
  have h : FrOk b w n := ⟨by omega, by omega, by omega, by omega, by omega, by omega⟩
  have g3 := places_3 b w n h hn n 0 (by omega)
  have g2 := places_in3 b w n h hn (by simpa using g3) n 0 (by omega)
  have g1 := places_in2 b w n h hn (by simpa using g2) n 0 (by omega)
  have g0 := places_in1 b w n h hn (by simpa using g1) n 0 (by omega)
  have g := places_in0 b w n h hn (by simpa using g0) n 0 (by omega)
  have hh := fr_head h
  have hr := fr_record h
  refine Tri.of Try.func3 rfl Try.call3 rfl ?_
  refine Goods.to 2000 [.c (.of speaks_tri), .c (.of hh), .s 31 (some false) true true, .c (.of hr), .b false, .l, .b true, .l, .stop] mixed (g) (by kernel_rfl) ?_
  show Yes _
  repeat' apply And.intro
  (all_goals first | rfl | assumption | trivial | omega | (simp [-List.getD_eq_getElem?_getD, fRec] <;> omega) | (simp (disch := omega) only [w64, wu64] <;> omega) | (simp (disch := omega) [-List.getD_eq_getElem?_getD, List.getD_cons_zero, List.getD_cons_succ, kCast_self, dfl_pair, dfl_int, w64, wu64, fRec] <;> omega) | (rw [Bool.eq_iff_iff]; simp (disch := omega) [-List.getD_eq_getElem?_getD, List.getD_cons_zero, List.getD_cons_succ, kCast_self, dfl_pair, dfl_int, w64, wu64, fRec] <;> omega) | (simp_all [-List.getD_eq_getElem?_getD] <;> omega))
theorem SlotPlaces_law (d : dats ([(false, (.int .u16)), (false, (.int .u8)), (false, (.int .u8))] : List (Bool × Sh))) (hd : datsOk ([(false, (.int .u16)), (false, (.int .u8)), (false, (.int .u8))] : List (Bool × Sh)) d) : Tri En 3 (argsOf ([(false, (.int .u16)), (false, (.int .u8)), (false, (.int .u8))] : List (Bool × Sh)) d 0) (objsOf ([(false, (.int .u16)), (false, (.int .u8)), (false, (.int .u8))] : List (Bool × Sh)) d) (.bl true) (gones (cnts ([(false, (.int .u16)), (false, (.int .u8)), (false, (.int .u8))] : List (Bool × Sh)))) := by
  obtain ⟨b, w, n, _⟩ := d
  obtain ⟨h0, h1, h2, _⟩ := hd
  obtain ⟨b, rfl, hb⟩ := wf_u16 h0
  obtain ⟨w, rfl, hw⟩ := wf_u8 h1
  obtain ⟨n, rfl, hn⟩ := wf_u8 h2
  exact SlotPlaces_tri b w n hb hw hn
end Go.Proofs.Ytfclnofmhnapnaa.E
