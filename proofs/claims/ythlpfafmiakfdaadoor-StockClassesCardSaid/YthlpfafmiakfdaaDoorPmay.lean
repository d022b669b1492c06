/- The document's answer which systems may be (May). -/
import Derived.Test.YthlpfafmiakfdaaDoorPconf
namespace Go.Proofs.YthlpfafmiakfdaaDoor.E
set_option linter.unusedSimpArgs false
set_option linter.unusedVariables false
open Go
set_option maxRecDepth 100000

noncomputable abbrev gMay (own : Bool) (c : Cnf) (v : Bool) : Frm := ⟨En, 9, Tryd.f9.ntmps, [.tab own (.int .i64) c.cl], .bl v, [.tab own (.int .i64) c.cl]⟩
theorem may_f (own : Bool) (c : Cnf) (hc : c.cl.length ≤ 9223372036854775807) : ∀ (j k : Nat), k + j = c.cl.length → Goods (gMay own c false) ⟨.none, lp Tryd.f9 0,
    [(1, .ptr 1 0 0), (3, .bl false), (4, .int .i64 k)], hp [.tab own (.int .i64) c.cl, .cells [.int .i64 c.w, .int .i64 c.s, .int .i64 c.b, .int .i64 c.t, .slice 0 0 c.cl.length]]⟩
  | 0, k, h => by
    refine Goods.fin 2000 [.b false] mixed Tryd.func9 ?_
    show Yes _
    repeat' apply And.intro
    (all_goals first | rfl | assumption | trivial | omega | (simp [-List.getD_eq_getElem?_getD] <;> omega) | (simp (disch := omega) only [w64, wu64] <;> omega) | (simp (disch := omega) [-List.getD_eq_getElem?_getD, List.getD_cons_zero, List.getD_cons_succ, kCast_self, dfl_pair, dfl_int, w64, wu64] <;> omega) | (rw [Bool.eq_iff_iff]; simp (disch := omega) [-List.getD_eq_getElem?_getD, List.getD_cons_zero, List.getD_cons_succ, kCast_self, dfl_pair, dfl_int, w64, wu64] <;> omega) | (simp_all [-List.getD_eq_getElem?_getD] <;> omega))
  | j + 1, k, h => by
    have ih := may_f own c hc j (k + 1) (by omega)
    refine Goods.to 2000 [.b true, .l, .stop] mixed (ih) (by kernel_rfl) ?_
    show Yes _
    repeat' apply And.intro
    (all_goals first | rfl | assumption | trivial | omega | (simp [-List.getD_eq_getElem?_getD] <;> omega) | (simp (disch := omega) only [w64, wu64] <;> omega) | (simp (disch := omega) [-List.getD_eq_getElem?_getD, List.getD_cons_zero, List.getD_cons_succ, kCast_self, dfl_pair, dfl_int, w64, wu64] <;> omega) | (rw [Bool.eq_iff_iff]; simp (disch := omega) [-List.getD_eq_getElem?_getD, List.getD_cons_zero, List.getD_cons_succ, kCast_self, dfl_pair, dfl_int, w64, wu64] <;> omega) | (simp_all [-List.getD_eq_getElem?_getD] <;> omega))
/-- The class ahead of one; nothing ahead of the first. -/
def lastN (l : List Int) (k : Nat) : Int := if k = 0 then 0 else l.getD (k - 1) 0
theorem lastN_succ (l : List Int) (k : Nat) : lastN l (k + 1) = l.getD k 0 := rfl
theorem may_t (own : Bool) (c : Cnf) (hc : c.cl.length ≤ 9223372036854775807) : ∀ (j k : Nat), k + j = c.cl.length → 0 ≤ lastN c.cl k → Goods (gMay own c (decide (okL (lastN c.cl k) (c.cl.drop k)))) ⟨.none, lp Tryd.f9 0,
    [(1, .ptr 1 0 0), (3, .bl true), (4, .int .i64 k)], hp [.tab own (.int .i64) c.cl, .cells [.int .i64 c.w, .int .i64 c.s, .int .i64 c.b, .int .i64 c.t, .slice 0 0 c.cl.length]]⟩
  | 0, k, h, h0 => by
    obtain rfl : k = c.cl.length := by omega
    rw [List.drop_length, show decide (okL (lastN c.cl c.cl.length) []) = true from decide_eq_true trivial]
    refine Goods.fin 2000 [.b false] mixed Tryd.func9 ?_
    show Yes _
    repeat' apply And.intro
    (all_goals first | rfl | assumption | trivial | omega | (simp [-List.getD_eq_getElem?_getD] <;> omega) | (simp (disch := omega) only [w64, wu64] <;> omega) | (simp (disch := omega) [-List.getD_eq_getElem?_getD, List.getD_cons_zero, List.getD_cons_succ, kCast_self, dfl_pair, dfl_int, w64, wu64] <;> omega) | (rw [Bool.eq_iff_iff]; simp (disch := omega) [-List.getD_eq_getElem?_getD, List.getD_cons_zero, List.getD_cons_succ, kCast_self, dfl_pair, dfl_int, w64, wu64] <;> omega) | (simp_all [-List.getD_eq_getElem?_getD] <;> omega))
  | j + 1, k, h, h0 => by
    have hk := okL_drop (last := lastN c.cl k) (show k < c.cl.length by omega)
    have ih := may_t own c hc j (k + 1) (by omega)
    have ihf := may_f own c hc j (k + 1) (by omega)
    rw [lastN_succ] at ih
    obtain ⟨n, hn⟩ : ∃ n, c.cl.getD k 0 = n := ⟨_, rfl⟩
    rw [hn] at ih hk
    by_cases c1 : 16 ≤ n
    · by_cases c2 : n ≤ 512
      · by_cases c3 : n % 16 = 0
        · have e2 : Int.tmod n 16 = 0 := Int.tmod_eq_zero_of_dvd (Int.dvd_of_emod_eq_zero c3)
          by_cases c4 : lastN c.cl k < n
          · have e : decide (okL (lastN c.cl k) (c.cl.drop k)) = decide (okL n (c.cl.drop (k + 1))) := decide_eq_decide.2 (hk.trans ⟨fun x => x.2, fun x => ⟨⟨c4, c2, c3⟩, x⟩⟩)
            rw [e]
            have ih := ih (by omega)
            by_cases c5 : k = 0
            · refine Goods.to 2000 [.b true, .s 72 (some true) true true, .s 76 (some true) true true, .s 81 (some true) true true, .s 85 (some true) true true, .l, .stop] mixed (ih) (by kernel_rfl) ?_
              show Yes _
              repeat' apply And.intro
              (all_goals first | rfl | assumption | trivial | omega | (simp [-List.getD_eq_getElem?_getD, hn, e2] <;> omega) | (simp (disch := omega) only [w64, wu64] <;> omega) | (simp (disch := omega) [-List.getD_eq_getElem?_getD, List.getD_cons_zero, List.getD_cons_succ, kCast_self, dfl_pair, dfl_int, w64, wu64, hn, e2] <;> omega) | (rw [Bool.eq_iff_iff]; simp (disch := omega) [-List.getD_eq_getElem?_getD, List.getD_cons_zero, List.getD_cons_succ, kCast_self, dfl_pair, dfl_int, w64, wu64, hn, e2] <;> omega) | (simp_all [-List.getD_eq_getElem?_getD] <;> omega))
            · have e3 : ((k : Int) - 1).toNat = k - 1 := by omega
              unfold lastN at c4
              rw [if_neg c5] at c4
              obtain ⟨p, hp'⟩ : ∃ p, c.cl.getD (k - 1) 0 = p := ⟨_, rfl⟩
              rw [hp'] at c4
              refine Goods.to 2000 [.b true, .s 72 (some true) true true, .s 76 (some true) true true, .s 81 (some true) true true, .s 85 (some false) true true, .s 94 (some true) true true, .l, .stop] mixed (ih) (by kernel_rfl) ?_
              show Yes _
              repeat' apply And.intro
              (all_goals first | rfl | assumption | trivial | omega | (simp [-List.getD_eq_getElem?_getD, hn, e2, e3, hp'] <;> omega) | (simp (disch := omega) only [w64, wu64] <;> omega) | (simp (disch := omega) [-List.getD_eq_getElem?_getD, List.getD_cons_zero, List.getD_cons_succ, kCast_self, dfl_pair, dfl_int, w64, wu64, hn, e2, e3, hp'] <;> omega) | (rw [Bool.eq_iff_iff]; simp (disch := omega) [-List.getD_eq_getElem?_getD, List.getD_cons_zero, List.getD_cons_succ, kCast_self, dfl_pair, dfl_int, w64, wu64, hn, e2, e3, hp'] <;> omega) | (simp_all [-List.getD_eq_getElem?_getD] <;> omega))
          · rw [show decide (okL (lastN c.cl k) (c.cl.drop k)) = false from decide_eq_false (fun x => c4 (hk.1 x).1.1)]
            by_cases c5 : k = 0
            · exact absurd (show lastN c.cl k < n by rw [c5]; unfold lastN; simp; omega) c4
            · have e3 : ((k : Int) - 1).toNat = k - 1 := by omega
              unfold lastN at c4
              rw [if_neg c5] at c4
              obtain ⟨p, hp'⟩ : ∃ p, c.cl.getD (k - 1) 0 = p := ⟨_, rfl⟩
              rw [hp'] at c4
              refine Goods.to 2000 [.b true, .s 72 (some true) true true, .s 76 (some true) true true, .s 81 (some true) true true, .s 85 (some false) true true, .s 94 (some false) true true, .l, .stop] mixed (ihf) (by kernel_rfl) ?_
              show Yes _
              repeat' apply And.intro
              (all_goals first | rfl | assumption | trivial | omega | (simp [-List.getD_eq_getElem?_getD, hn, e2, e3, hp'] <;> omega) | (simp (disch := omega) only [w64, wu64] <;> omega) | (simp (disch := omega) [-List.getD_eq_getElem?_getD, List.getD_cons_zero, List.getD_cons_succ, kCast_self, dfl_pair, dfl_int, w64, wu64, hn, e2, e3, hp'] <;> omega) | (rw [Bool.eq_iff_iff]; simp (disch := omega) [-List.getD_eq_getElem?_getD, List.getD_cons_zero, List.getD_cons_succ, kCast_self, dfl_pair, dfl_int, w64, wu64, hn, e2, e3, hp'] <;> omega) | (simp_all [-List.getD_eq_getElem?_getD] <;> omega))
        · rw [show decide (okL (lastN c.cl k) (c.cl.drop k)) = false from decide_eq_false (fun x => c3 (hk.1 x).1.2.2)]
          have e2 : Int.tmod n 16 ≠ 0 := fun x => c3 (Int.emod_eq_zero_of_dvd (Int.dvd_of_tmod_eq_zero x))
          refine Goods.to 2000 [.b true, .s 72 (some true) true true, .s 76 (some true) true true, .s 81 (some false) true true, .l, .stop] mixed (ihf) (by kernel_rfl) ?_
          show Yes _
          repeat' apply And.intro
          (all_goals first | rfl | assumption | trivial | omega | (simp [-List.getD_eq_getElem?_getD, hn, e2] <;> omega) | (simp (disch := omega) only [w64, wu64] <;> omega) | (simp (disch := omega) [-List.getD_eq_getElem?_getD, List.getD_cons_zero, List.getD_cons_succ, kCast_self, dfl_pair, dfl_int, w64, wu64, hn, e2] <;> omega) | (rw [Bool.eq_iff_iff]; simp (disch := omega) [-List.getD_eq_getElem?_getD, List.getD_cons_zero, List.getD_cons_succ, kCast_self, dfl_pair, dfl_int, w64, wu64, hn, e2] <;> omega) | (simp_all [-List.getD_eq_getElem?_getD] <;> omega))
      · rw [show decide (okL (lastN c.cl k) (c.cl.drop k)) = false from decide_eq_false (fun x => c2 (hk.1 x).1.2.1)]
        refine Goods.to 2000 [.b true, .s 72 (some true) true true, .s 76 (some false) true true, .l, .stop] mixed (ihf) (by kernel_rfl) ?_
        show Yes _
        repeat' apply And.intro
        (all_goals first | rfl | assumption | trivial | omega | (simp [-List.getD_eq_getElem?_getD, hn] <;> omega) | (simp (disch := omega) only [w64, wu64] <;> omega) | (simp (disch := omega) [-List.getD_eq_getElem?_getD, List.getD_cons_zero, List.getD_cons_succ, kCast_self, dfl_pair, dfl_int, w64, wu64, hn] <;> omega) | (rw [Bool.eq_iff_iff]; simp (disch := omega) [-List.getD_eq_getElem?_getD, List.getD_cons_zero, List.getD_cons_succ, kCast_self, dfl_pair, dfl_int, w64, wu64, hn] <;> omega) | (simp_all [-List.getD_eq_getElem?_getD] <;> omega))
    · rw [show decide (okL (lastN c.cl k) (c.cl.drop k)) = false from decide_eq_false (fun x => c1 (by have := (hk.1 x).1.1; have := (hk.1 x).1.2.2; omega))]
      refine Goods.to 2000 [.b true, .s 72 (some false) true true, .l, .stop] mixed (ihf) (by kernel_rfl) ?_
      show Yes _
      repeat' apply And.intro
      (all_goals first | rfl | assumption | trivial | omega | (simp [-List.getD_eq_getElem?_getD, hn] <;> omega) | (simp (disch := omega) only [w64, wu64] <;> omega) | (simp (disch := omega) [-List.getD_eq_getElem?_getD, List.getD_cons_zero, List.getD_cons_succ, kCast_self, dfl_pair, dfl_int, w64, wu64, hn] <;> omega) | (rw [Bool.eq_iff_iff]; simp (disch := omega) [-List.getD_eq_getElem?_getD, List.getD_cons_zero, List.getD_cons_succ, kCast_self, dfl_pair, dfl_int, w64, wu64, hn] <;> omega) | (simp_all [-List.getD_eq_getElem?_getD] <;> omega))
theorem may_yes (own : Bool) (c : Cnf) (h : c.Ok) : Tri En 9 [cnfA 0 c] [.tab own (.int .i64) c.cl] (.bl true) [.tab own (.int .i64) c.cl] := by
  have ih := may_t own c (by have := h.l1; omega) c.cl.length 0 (by omega) (Int.le_refl _)
  rw [List.drop_zero, show decide (okL (lastN c.cl 0) c.cl) = true from decide_eq_true h.ok] at ih
  obtain ⟨⟨w0, w1, s0, s1, b0, b1, t0, t1⟩, l0, l1, _⟩ := h
  refine Tri.of Tryd.func9 rfl Tryd.call9 rfl ?_
  refine Goods.to 2000 [.s 8 (some true) true true, .s 12 (some true) true true, .s 17 (some true) true true, .s 22 (some true) true true, .s 27 (some true) true true, .s 32 (some true) true true, .s 37 (some true) true true, .s 42 (some true) true true, .s 49 (some true) true true, .s 55 (some true) true true, .l, .stop] mixed (ih) (by kernel_rfl) ?_
  show Yes _
  repeat' apply And.intro
  (all_goals first | rfl | assumption | trivial | omega | (simp [-List.getD_eq_getElem?_getD] <;> omega) | (simp (disch := omega) only [w64, wu64] <;> omega) | (simp (disch := omega) [-List.getD_eq_getElem?_getD, List.getD_cons_zero, List.getD_cons_succ, kCast_self, dfl_pair, dfl_int, w64, wu64] <;> omega) | (rw [Bool.eq_iff_iff]; simp (disch := omega) [-List.getD_eq_getElem?_getD, List.getD_cons_zero, List.getD_cons_succ, kCast_self, dfl_pair, dfl_int, w64, wu64] <;> omega) | (simp_all [-List.getD_eq_getElem?_getD] <;> omega))
theorem may_no (own : Bool) (c : Cnf) (hc : c.cl.length ≤ 9223372036854775807) (h : ¬ c.Ok) : Tri En 9 [cnfA 0 c] [.tab own (.int .i64) c.cl] (.bl false) [.tab own (.int .i64) c.cl] := by
  have ih := may_f own c hc c.cl.length 0 (by omega)
  refine Tri.of Tryd.func9 rfl Tryd.call9 rfl ?_
  by_cases w0 : 1 ≤ c.w
  · by_cases w1 : c.w ≤ 64
    · by_cases s0 : 1 ≤ c.s
      · by_cases s1 : c.s ≤ 64
        · by_cases b0 : 1 ≤ c.b
          · by_cases b1 : c.b ≤ 64
            · by_cases t0 : 0 ≤ c.t
              · by_cases t1 : c.t ≤ 8
                · by_cases l0 : 1 ≤ c.cl.length
                  · by_cases l1 : c.cl.length ≤ 16
                    · have iht := may_t own c hc c.cl.length 0 (by omega) (Int.le_refl _)
                      rw [List.drop_zero, show decide (okL (lastN c.cl 0) c.cl) = false from decide_eq_false (fun x => h ⟨⟨w0, w1, s0, s1, b0, b1, t0, t1⟩, l0, l1, x⟩)] at iht
                      refine Goods.to 2000 [.s 8 (some true) true true, .s 12 (some true) true true, .s 17 (some true) true true, .s 22 (some true) true true, .s 27 (some true) true true, .s 32 (some true) true true, .s 37 (some true) true true, .s 42 (some true) true true, .s 49 (some true) true true, .s 55 (some true) true true, .l, .stop] mixed (iht) (by kernel_rfl) ?_
                      show Yes _
                      repeat' apply And.intro
                      (all_goals first | rfl | assumption | trivial | omega | (simp [-List.getD_eq_getElem?_getD] <;> omega) | (simp (disch := omega) only [w64, wu64] <;> omega) | (simp (disch := omega) [-List.getD_eq_getElem?_getD, List.getD_cons_zero, List.getD_cons_succ, kCast_self, dfl_pair, dfl_int, w64, wu64] <;> omega) | (rw [Bool.eq_iff_iff]; simp (disch := omega) [-List.getD_eq_getElem?_getD, List.getD_cons_zero, List.getD_cons_succ, kCast_self, dfl_pair, dfl_int, w64, wu64] <;> omega) | (simp_all [-List.getD_eq_getElem?_getD] <;> omega))
                    · refine Goods.to 2000 [.s 8 (some true) true true, .s 12 (some true) true true, .s 17 (some true) true true, .s 22 (some true) true true, .s 27 (some true) true true, .s 32 (some true) true true, .s 37 (some true) true true, .s 42 (some true) true true, .s 49 (some true) true true, .s 55 (some false) true true, .l, .stop] mixed (ih) (by kernel_rfl) ?_
                      show Yes _
                      repeat' apply And.intro
                      (all_goals first | rfl | assumption | trivial | omega | (simp [-List.getD_eq_getElem?_getD] <;> omega) | (simp (disch := omega) only [w64, wu64] <;> omega) | (simp (disch := omega) [-List.getD_eq_getElem?_getD, List.getD_cons_zero, List.getD_cons_succ, kCast_self, dfl_pair, dfl_int, w64, wu64] <;> omega) | (rw [Bool.eq_iff_iff]; simp (disch := omega) [-List.getD_eq_getElem?_getD, List.getD_cons_zero, List.getD_cons_succ, kCast_self, dfl_pair, dfl_int, w64, wu64] <;> omega) | (simp_all [-List.getD_eq_getElem?_getD] <;> omega))
                  · refine Goods.to 2000 [.s 8 (some true) true true, .s 12 (some true) true true, .s 17 (some true) true true, .s 22 (some true) true true, .s 27 (some true) true true, .s 32 (some true) true true, .s 37 (some true) true true, .s 42 (some true) true true, .s 49 (some false) true true, .l, .stop] mixed (ih) (by kernel_rfl) ?_
                    show Yes _
                    repeat' apply And.intro
                    (all_goals first | rfl | assumption | trivial | omega | (simp [-List.getD_eq_getElem?_getD] <;> omega) | (simp (disch := omega) only [w64, wu64] <;> omega) | (simp (disch := omega) [-List.getD_eq_getElem?_getD, List.getD_cons_zero, List.getD_cons_succ, kCast_self, dfl_pair, dfl_int, w64, wu64] <;> omega) | (rw [Bool.eq_iff_iff]; simp (disch := omega) [-List.getD_eq_getElem?_getD, List.getD_cons_zero, List.getD_cons_succ, kCast_self, dfl_pair, dfl_int, w64, wu64] <;> omega) | (simp_all [-List.getD_eq_getElem?_getD] <;> omega))
                · refine Goods.to 2000 [.s 8 (some true) true true, .s 12 (some true) true true, .s 17 (some true) true true, .s 22 (some true) true true, .s 27 (some true) true true, .s 32 (some true) true true, .s 37 (some true) true true, .s 42 (some false) true true, .l, .stop] mixed (ih) (by kernel_rfl) ?_
                  show Yes _
                  repeat' apply And.intro
                  (all_goals first | rfl | assumption | trivial | omega | (simp [-List.getD_eq_getElem?_getD] <;> omega) | (simp (disch := omega) only [w64, wu64] <;> omega) | (simp (disch := omega) [-List.getD_eq_getElem?_getD, List.getD_cons_zero, List.getD_cons_succ, kCast_self, dfl_pair, dfl_int, w64, wu64] <;> omega) | (rw [Bool.eq_iff_iff]; simp (disch := omega) [-List.getD_eq_getElem?_getD, List.getD_cons_zero, List.getD_cons_succ, kCast_self, dfl_pair, dfl_int, w64, wu64] <;> omega) | (simp_all [-List.getD_eq_getElem?_getD] <;> omega))
              · refine Goods.to 2000 [.s 8 (some true) true true, .s 12 (some true) true true, .s 17 (some true) true true, .s 22 (some true) true true, .s 27 (some true) true true, .s 32 (some true) true true, .s 37 (some false) true true, .l, .stop] mixed (ih) (by kernel_rfl) ?_
                show Yes _
                repeat' apply And.intro
                (all_goals first | rfl | assumption | trivial | omega | (simp [-List.getD_eq_getElem?_getD] <;> omega) | (simp (disch := omega) only [w64, wu64] <;> omega) | (simp (disch := omega) [-List.getD_eq_getElem?_getD, List.getD_cons_zero, List.getD_cons_succ, kCast_self, dfl_pair, dfl_int, w64, wu64] <;> omega) | (rw [Bool.eq_iff_iff]; simp (disch := omega) [-List.getD_eq_getElem?_getD, List.getD_cons_zero, List.getD_cons_succ, kCast_self, dfl_pair, dfl_int, w64, wu64] <;> omega) | (simp_all [-List.getD_eq_getElem?_getD] <;> omega))
            · refine Goods.to 2000 [.s 8 (some true) true true, .s 12 (some true) true true, .s 17 (some true) true true, .s 22 (some true) true true, .s 27 (some true) true true, .s 32 (some false) true true, .l, .stop] mixed (ih) (by kernel_rfl) ?_
              show Yes _
              repeat' apply And.intro
              (all_goals first | rfl | assumption | trivial | omega | (simp [-List.getD_eq_getElem?_getD] <;> omega) | (simp (disch := omega) only [w64, wu64] <;> omega) | (simp (disch := omega) [-List.getD_eq_getElem?_getD, List.getD_cons_zero, List.getD_cons_succ, kCast_self, dfl_pair, dfl_int, w64, wu64] <;> omega) | (rw [Bool.eq_iff_iff]; simp (disch := omega) [-List.getD_eq_getElem?_getD, List.getD_cons_zero, List.getD_cons_succ, kCast_self, dfl_pair, dfl_int, w64, wu64] <;> omega) | (simp_all [-List.getD_eq_getElem?_getD] <;> omega))
          · refine Goods.to 2000 [.s 8 (some true) true true, .s 12 (some true) true true, .s 17 (some true) true true, .s 22 (some true) true true, .s 27 (some false) true true, .l, .stop] mixed (ih) (by kernel_rfl) ?_
            show Yes _
            repeat' apply And.intro
            (all_goals first | rfl | assumption | trivial | omega | (simp [-List.getD_eq_getElem?_getD] <;> omega) | (simp (disch := omega) only [w64, wu64] <;> omega) | (simp (disch := omega) [-List.getD_eq_getElem?_getD, List.getD_cons_zero, List.getD_cons_succ, kCast_self, dfl_pair, dfl_int, w64, wu64] <;> omega) | (rw [Bool.eq_iff_iff]; simp (disch := omega) [-List.getD_eq_getElem?_getD, List.getD_cons_zero, List.getD_cons_succ, kCast_self, dfl_pair, dfl_int, w64, wu64] <;> omega) | (simp_all [-List.getD_eq_getElem?_getD] <;> omega))
        · refine Goods.to 2000 [.s 8 (some true) true true, .s 12 (some true) true true, .s 17 (some true) true true, .s 22 (some false) true true, .l, .stop] mixed (ih) (by kernel_rfl) ?_
          show Yes _
          repeat' apply And.intro
          (all_goals first | rfl | assumption | trivial | omega | (simp [-List.getD_eq_getElem?_getD] <;> omega) | (simp (disch := omega) only [w64, wu64] <;> omega) | (simp (disch := omega) [-List.getD_eq_getElem?_getD, List.getD_cons_zero, List.getD_cons_succ, kCast_self, dfl_pair, dfl_int, w64, wu64] <;> omega) | (rw [Bool.eq_iff_iff]; simp (disch := omega) [-List.getD_eq_getElem?_getD, List.getD_cons_zero, List.getD_cons_succ, kCast_self, dfl_pair, dfl_int, w64, wu64] <;> omega) | (simp_all [-List.getD_eq_getElem?_getD] <;> omega))
      · refine Goods.to 2000 [.s 8 (some true) true true, .s 12 (some true) true true, .s 17 (some false) true true, .l, .stop] mixed (ih) (by kernel_rfl) ?_
        show Yes _
        repeat' apply And.intro
        (all_goals first | rfl | assumption | trivial | omega | (simp [-List.getD_eq_getElem?_getD] <;> omega) | (simp (disch := omega) only [w64, wu64] <;> omega) | (simp (disch := omega) [-List.getD_eq_getElem?_getD, List.getD_cons_zero, List.getD_cons_succ, kCast_self, dfl_pair, dfl_int, w64, wu64] <;> omega) | (rw [Bool.eq_iff_iff]; simp (disch := omega) [-List.getD_eq_getElem?_getD, List.getD_cons_zero, List.getD_cons_succ, kCast_self, dfl_pair, dfl_int, w64, wu64] <;> omega) | (simp_all [-List.getD_eq_getElem?_getD] <;> omega))
    · refine Goods.to 2000 [.s 8 (some true) true true, .s 12 (some false) true true, .l, .stop] mixed (ih) (by kernel_rfl) ?_
      show Yes _
      repeat' apply And.intro
      (all_goals first | rfl | assumption | trivial | omega | (simp [-List.getD_eq_getElem?_getD] <;> omega) | (simp (disch := omega) only [w64, wu64] <;> omega) | (simp (disch := omega) [-List.getD_eq_getElem?_getD, List.getD_cons_zero, List.getD_cons_succ, kCast_self, dfl_pair, dfl_int, w64, wu64] <;> omega) | (rw [Bool.eq_iff_iff]; simp (disch := omega) [-List.getD_eq_getElem?_getD, List.getD_cons_zero, List.getD_cons_succ, kCast_self, dfl_pair, dfl_int, w64, wu64] <;> omega) | (simp_all [-List.getD_eq_getElem?_getD] <;> omega))
  · refine Goods.to 2000 [.s 8 (some false) true true, .l, .stop] mixed (ih) (by kernel_rfl) ?_
    show Yes _
    repeat' apply And.intro
    (all_goals first | rfl | assumption | trivial | omega | (simp [-List.getD_eq_getElem?_getD] <;> omega) | (simp (disch := omega) only [w64, wu64] <;> omega) | (simp (disch := omega) [-List.getD_eq_getElem?_getD, List.getD_cons_zero, List.getD_cons_succ, kCast_self, dfl_pair, dfl_int, w64, wu64] <;> omega) | (rw [Bool.eq_iff_iff]; simp (disch := omega) [-List.getD_eq_getElem?_getD, List.getD_cons_zero, List.getD_cons_succ, kCast_self, dfl_pair, dfl_int, w64, wu64] <;> omega) | (simp_all [-List.getD_eq_getElem?_getD] <;> omega))
end Go.Proofs.YthlpfafmiakfdaaDoor.E
