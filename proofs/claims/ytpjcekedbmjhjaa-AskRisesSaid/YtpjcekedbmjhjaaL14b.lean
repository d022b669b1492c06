/- AskFits, AskRises: the laws' contracts. -/
import Derived.Test.YtpjcekedbmjhjaaL14aF
namespace Go.Proofs.Ytpjcekedbmjhjaa.E
open Go
set_option maxRecDepth 100000

theorem okL_at : ∀ {l : List Int} {a : Int}, okL a l → ∀ k, k < l.length → a < l.getD k 0 ∧ l.getD k 0 ≤ 512
  | n :: l, a, h, 0, _ => ⟨h.1.1, h.1.2.1⟩
  | n :: l, a, h, k + 1, hk => by
    have := okL_at h.2 k (by simpa using hk)
    have h1 := h.1.1
    exact ⟨by show a < l.getD k 0; omega, this.2⟩
theorem okL_rise : ∀ {l : List Int} {a : Int}, okL a l → ∀ i j, i < j → j < l.length → l.getD i 0 < l.getD j 0
  | n :: l, a, h, 0, j + 1, _, hj => (okL_at h.2 j (by simpa using hj)).1
  | n :: l, a, h, i + 1, j + 1, hij, hj => okL_rise h.2 i j (by omega) (by simpa using hj)
noncomputable abbrev gFits (c : Cnf) : Frm := ⟨En, 4, Try.f4.ntmps, [.tab false (.int .i64) c.cl], .bl true, gones 1⟩
/-- No class is as great, and less. -/
theorem fits_0 (c : Cnf) (h : c.Ok) (n size a b : Int) (hs : ∀ k, k < c.cl.length → ¬ (n ≤ c.cl.getD k 0 ∧ c.cl.getD k 0 < size)) (he : b = 0 ∨ (b ≠ 0 ∧ size - n < 1024)) (hsz : 0 ≤ size ∧ size ≤ 1000000) (hn : 1 ≤ n ∧ n ≤ 1000000) : ∀ (j k : Nat), k + j = c.cl.length → Goods (gFits c) ⟨.none, lp Try.f4 0,
    [(1, .int .i64 n), (5, .ptr 1 0 0), (7, .int .i64 size), (44, .slice 0 0 c.cl.length), (45, .int .i64 c.cl.length), (46, .int .i64 k)], hp [.tab false (.int .i64) c.cl, .cells [.int .i64 a, .int .i64 b]]⟩
  | 0, k, hk => by
    rcases he with rfl | ⟨h0, h1⟩
    · refine Goods.fin 2000 [.b false, .s 61 (some true) true true] mixed Try.func4 ?_
      show Yes _
      repeat' apply And.intro
      (all_goals first | rfl | assumption | trivial | omega | (simp [-List.getD_eq_getElem?_getD] <;> omega) | (simp (disch := omega) only [w64, wu64] <;> omega) | (simp (disch := omega) [-List.getD_eq_getElem?_getD, List.getD_cons_zero, List.getD_cons_succ, kCast_self, dfl_pair, dfl_int, w64, wu64] <;> omega) | (rw [Bool.eq_iff_iff]; simp (disch := omega) [-List.getD_eq_getElem?_getD, List.getD_cons_zero, List.getD_cons_succ, kCast_self, dfl_pair, dfl_int, w64, wu64] <;> omega) | (simp_all [-List.getD_eq_getElem?_getD] <;> omega))
    · refine Goods.fin 2000 [.b false, .s 61 (some false) true true] mixed Try.func4 ?_
      show Yes _
      repeat' apply And.intro
      (all_goals first | rfl | assumption | trivial | omega | (simp [-List.getD_eq_getElem?_getD] <;> omega) | (simp (disch := omega) only [w64, wu64] <;> omega) | (simp (disch := omega) [-List.getD_eq_getElem?_getD, List.getD_cons_zero, List.getD_cons_succ, kCast_self, dfl_pair, dfl_int, w64, wu64] <;> omega) | (rw [Bool.eq_iff_iff]; simp (disch := omega) [-List.getD_eq_getElem?_getD, List.getD_cons_zero, List.getD_cons_succ, kCast_self, dfl_pair, dfl_int, w64, wu64] <;> omega) | (simp_all [-List.getD_eq_getElem?_getD] <;> omega))
  | j + 1, k, hk => by
    have hl1 := h.l1
    have ih := fits_0 c h n size a b hs he hsz hn j (k + 1) (by omega)
    have hx' := hs k (by omega)
    obtain ⟨x, hx⟩ : ∃ x, c.cl.getD k 0 = x := ⟨_, rfl⟩
    rw [hx] at hx'
    by_cases h1 : n ≤ x
    · refine Goods.to 2000 [.b true, .s 52 (some true) true true, .b false, .l, .stop] mixed (ih) (by kernel_rfl) ?_
      show Yes _
      repeat' apply And.intro
      (all_goals first | rfl | assumption | trivial | omega | (simp [-List.getD_eq_getElem?_getD, hx] <;> omega) | (simp (disch := omega) only [w64, wu64] <;> omega) | (simp (disch := omega) [-List.getD_eq_getElem?_getD, List.getD_cons_zero, List.getD_cons_succ, kCast_self, dfl_pair, dfl_int, w64, wu64, hx] <;> omega) | (rw [Bool.eq_iff_iff]; simp (disch := omega) [-List.getD_eq_getElem?_getD, List.getD_cons_zero, List.getD_cons_succ, kCast_self, dfl_pair, dfl_int, w64, wu64, hx] <;> omega) | (simp_all [-List.getD_eq_getElem?_getD] <;> omega))
    · refine Goods.to 2000 [.b true, .s 52 (some false) true true, .l, .stop] mixed (ih) (by kernel_rfl) ?_
      show Yes _
      repeat' apply And.intro
      (all_goals first | rfl | assumption | trivial | omega | (simp [-List.getD_eq_getElem?_getD, hx] <;> omega) | (simp (disch := omega) only [w64, wu64] <;> omega) | (simp (disch := omega) [-List.getD_eq_getElem?_getD, List.getD_cons_zero, List.getD_cons_succ, kCast_self, dfl_pair, dfl_int, w64, wu64, hx] <;> omega) | (rw [Bool.eq_iff_iff]; simp (disch := omega) [-List.getD_eq_getElem?_getD, List.getD_cons_zero, List.getD_cons_succ, kCast_self, dfl_pair, dfl_int, w64, wu64, hx] <;> omega) | (simp_all [-List.getD_eq_getElem?_getD] <;> omega))
theorem AskFits_tri (c : Cnf) (hc : c.cl.length ≤ 9223372036854775807) (n : Int) : Tri En 4 [cnfA 0 c, .int .i64 n] [.tab false (.int .i64) c.cl] (.bl true) (gones 1) := by
  refine Tri.of Try.func4 rfl Try.call4 rfl ?_
  by_cases h : c.Ok
  · have hm := may_yes false c h
    have s0 := h.s0
    have s1 := h.s1
    have hl1 := h.l1
    rcases cls_cases c.cl n with ⟨i, hi⟩ | hn
    · have h1 := ask_class false c h n i hi
      have h2 := size_of false c i hi.lt
      have hle := hi.le
      have hn1 := hi.n1
      have hx' := (okL_at h.ok i hi.lt).2
      obtain ⟨x, hx⟩ : ∃ x, c.cl.getD i 0 = x := ⟨_, rfl⟩
      rw [hx] at h2 hle hx'
      have ih := fits_0 c h n x i 0 (fun k hk hh => by
        by_cases hki : k < i
        · have := hi.less k hki; omega
        · by_cases e : k = i
          · subst e; omega
          · have := okL_rise h.ok i k (by omega) hk; omega) (.inl rfl) (by omega) (by omega) c.cl.length 0 (by omega)
      refine Goods.to 2000 [.c (.of speaks_tri), .c (.of hm), .c (.of h1), .b false, .c (.of h2), .s 38 (some false) true true, .b false, .l, .stop] mixed (ih) (by kernel_rfl) ?_
      show Yes _
      repeat' apply And.intro
      (all_goals first | rfl | assumption | trivial | omega | (simp [-List.getD_eq_getElem?_getD] <;> omega) | (simp (disch := omega) only [w64, wu64] <;> omega) | (simp (disch := omega) [-List.getD_eq_getElem?_getD, List.getD_cons_zero, List.getD_cons_succ, kCast_self, dfl_pair, dfl_int, w64, wu64] <;> omega) | (rw [Bool.eq_iff_iff]; simp (disch := omega) [-List.getD_eq_getElem?_getD, List.getD_cons_zero, List.getD_cons_succ, kCast_self, dfl_pair, dfl_int, w64, wu64] <;> omega) | (simp_all [-List.getD_eq_getElem?_getD] <;> omega))
    · by_cases hr : 1 ≤ n ∧ n ≤ 1024 * c.s
      · have h1 := ask_run false c h n hn hr.1 hr.2
        have hr1 : 1 ≤ runN n ∧ runN n ≤ c.s ∧ runN n * 1024 - n < 1024 ∧ n ≤ runN n * 1024 := by unfold runN; omega
        have h2 := size_run false c (runN n) hr1.1 hr1.2.1 s1
        have ih := fits_0 c h n (runN n * 1024) (-1) (runN n) (fun k hk hh => by
          have := (hn.resolve_left (by omega)) k hk; omega) (.inr ⟨by omega, by omega⟩) (by omega) (by omega) c.cl.length 0 (by omega)
        refine Goods.to 2000 [.c (.of speaks_tri), .c (.of hm), .c (.of h1), .b false, .c (.of h2), .s 38 (some false) true true, .b false, .l, .stop] mixed (ih) (by kernel_rfl) ?_
        show Yes _
        repeat' apply And.intro
        (all_goals first | rfl | assumption | trivial | omega | (simp [-List.getD_eq_getElem?_getD] <;> omega) | (simp (disch := omega) only [w64, wu64] <;> omega) | (simp (disch := omega) [-List.getD_eq_getElem?_getD, List.getD_cons_zero, List.getD_cons_succ, kCast_self, dfl_pair, dfl_int, w64, wu64] <;> omega) | (rw [Bool.eq_iff_iff]; simp (disch := omega) [-List.getD_eq_getElem?_getD, List.getD_cons_zero, List.getD_cons_succ, kCast_self, dfl_pair, dfl_int, w64, wu64] <;> omega) | (simp_all [-List.getD_eq_getElem?_getD] <;> omega))
      · have h1 := ask_none false c h n hn hr
        by_cases h3 : n < 1
        · refine Goods.fin 2000 [.c (.of speaks_tri), .c (.of hm), .c (.of h1), .b true, .s 25 (some true) true true] mixed Try.func4 ?_
          show Yes _
          repeat' apply And.intro
          (all_goals first | rfl | assumption | trivial | omega | (simp [-List.getD_eq_getElem?_getD] <;> omega) | (simp (disch := omega) only [w64, wu64] <;> omega) | (simp (disch := omega) [-List.getD_eq_getElem?_getD, List.getD_cons_zero, List.getD_cons_succ, kCast_self, dfl_pair, dfl_int, w64, wu64] <;> omega) | (rw [Bool.eq_iff_iff]; simp (disch := omega) [-List.getD_eq_getElem?_getD, List.getD_cons_zero, List.getD_cons_succ, kCast_self, dfl_pair, dfl_int, w64, wu64] <;> omega) | (simp_all [-List.getD_eq_getElem?_getD] <;> omega))
        · refine Goods.fin 2000 [.c (.of speaks_tri), .c (.of hm), .c (.of h1), .b true, .s 25 (some false) true true] mixed Try.func4 ?_
          show Yes _
          repeat' apply And.intro
          (all_goals first | rfl | assumption | trivial | omega | (simp [-List.getD_eq_getElem?_getD] <;> omega) | (simp (disch := omega) only [w64, wu64] <;> omega) | (simp (disch := omega) [-List.getD_eq_getElem?_getD, List.getD_cons_zero, List.getD_cons_succ, kCast_self, dfl_pair, dfl_int, w64, wu64] <;> omega) | (rw [Bool.eq_iff_iff]; simp (disch := omega) [-List.getD_eq_getElem?_getD, List.getD_cons_zero, List.getD_cons_succ, kCast_self, dfl_pair, dfl_int, w64, wu64] <;> omega) | (simp_all [-List.getD_eq_getElem?_getD] <;> omega))
  · have h0 := may_no false c hc h
    refine Goods.fin 2000 [.c (.of speaks_tri), .c (.of h0)] mixed Try.func4 ?_
    show Yes _
    repeat' apply And.intro
    (all_goals first | rfl | assumption | trivial | omega | (simp [-List.getD_eq_getElem?_getD] <;> omega) | (simp (disch := omega) only [w64, wu64] <;> omega) | (simp (disch := omega) [-List.getD_eq_getElem?_getD, List.getD_cons_zero, List.getD_cons_succ, kCast_self, dfl_pair, dfl_int, w64, wu64] <;> omega) | (rw [Bool.eq_iff_iff]; simp (disch := omega) [-List.getD_eq_getElem?_getD, List.getD_cons_zero, List.getD_cons_succ, kCast_self, dfl_pair, dfl_int, w64, wu64] <;> omega) | (simp_all [-List.getD_eq_getElem?_getD] <;> omega))
theorem AskFits_law (d : dats ([(true, (.pair (.int .i64) (.pair (.int .i64) (.pair (.int .i64) (.pair (.int .i64) (.pair (.slice (.int .i64)) .unit)))))), (false, (.int .i64))] : List (Bool × Sh))) (hd : datsOk ([(true, (.pair (.int .i64) (.pair (.int .i64) (.pair (.int .i64) (.pair (.int .i64) (.pair (.slice (.int .i64)) .unit)))))), (false, (.int .i64))] : List (Bool × Sh)) d) : Tri En 4 (argsOf ([(true, (.pair (.int .i64) (.pair (.int .i64) (.pair (.int .i64) (.pair (.int .i64) (.pair (.slice (.int .i64)) .unit)))))), (false, (.int .i64))] : List (Bool × Sh)) d 0) (objsOf ([(true, (.pair (.int .i64) (.pair (.int .i64) (.pair (.int .i64) (.pair (.int .i64) (.pair (.slice (.int .i64)) .unit)))))), (false, (.int .i64))] : List (Bool × Sh)) d) (.bl true) (gones (cnts ([(true, (.pair (.int .i64) (.pair (.int .i64) (.pair (.int .i64) (.pair (.int .i64) (.pair (.slice (.int .i64)) .unit)))))), (false, (.int .i64))] : List (Bool × Sh)))) := by
  obtain ⟨⟨w, s, b, t, cl, _⟩, n, _⟩ := d
  obtain ⟨⟨h0, h1, h2, h3, ⟨h4, _⟩, _⟩, _⟩ := hd
  exact AskFits_tri ⟨w, s, b, t, cl⟩ (maxLen_le h4) n

end Go.Proofs.Ytpjcekedbmjhjaa.E
