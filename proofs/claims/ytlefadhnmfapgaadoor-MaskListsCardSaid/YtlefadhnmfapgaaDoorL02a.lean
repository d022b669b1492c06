/- MaskTells, MaskParts: the laws' contracts. -/
import Derived.Test.YtlefadhnmfapgaaDoorPmaskr
namespace Go.Proofs.YtlefadhnmfapgaaDoor.E
open Go
set_option maxRecDepth 100000

theorem speaks_tri : Tri En 9 [] [] (.bl true) [] := by
  have h1 := low_tri 6
  have e1 : lowN 6 = 63 := by decide +kernel
  rw [e1] at h1
  have h2 := without_tri 63 (by omega) 1
  have e2 : withoutN 63 1 = 61 := by decide +kernel
  rw [e2] at h2
  have h3 := without_tri 61 (by omega) 4
  have e3 : withoutN 61 4 = 45 := by decide +kernel
  rw [e3] at h3
  have h4 := run_yes 45 2 2 (by omega) (by omega) (by omega) (by unfold runOk; decide +kernel) (by unfold runOk; decide +kernel)
  have h5 := count_tri 45 (by omega)
  have e5 : (bitsL 45).length = 4 := by decide +kernel
  rw [e5] at h5
  have h6 := least_tri 45 (by omega) 2 (by omega)
  have e6 : leastN 45 2 = 5 := by decide +kernel
  rw [e6] at h6
  have h7 := first_tri 45 (by omega)
  have e7 : firstN 45 = 0 := by decide +kernel
  rw [e7] at h7
  have h8 := (has_tri 45 (by omega) 5).bl (show hasN 45 5 = true by decide +kernel)
  have h9 := (has_tri 45 (by omega) 4).bl (show hasN 45 4 = false by decide +kernel)
  have h10 := list_tri 45 (by omega)
  have e10 : (intsL (bitsL 45)).length = 4 := by decide +kernel
  rw [e10] at h10
  refine Tri.of Tryd.func9 rfl Tryd.call9 rfl ?_
  refine Goods.fin 2000 [.c (.of h1), .c (.of h2), .c (.of h3), .c (.of h4), .c (.of h5), .s 14 (some true) true true, .s 17 (some true) true true, .c (.of h6), .s 25 (some true) true true, .c (.of h7), .s 30 (some true) true true, .c (.of h8), .c (.of h9), .c (.of h10)] mixed Tryd.func9 ?_
  show Yes _
  repeat' apply And.intro
  (all_goals first | rfl | assumption | trivial | omega | (simp [-List.getD_eq_getElem?_getD] <;> omega) | (simp (disch := omega) only [w64, wu64] <;> omega) | (simp (disch := omega) [-List.getD_eq_getElem?_getD, List.getD_cons_zero, List.getD_cons_succ, kCast_self, dfl_pair, dfl_int, w64, wu64] <;> omega) | (rw [Bool.eq_iff_iff]; simp (disch := omega) [-List.getD_eq_getElem?_getD, List.getD_cons_zero, List.getD_cons_succ, kCast_self, dfl_pair, dfl_int, w64, wu64] <;> omega) | (simp_all [-List.getD_eq_getElem?_getD] <;> omega))
theorem u64_nat {x : Int} (h : (Lit.int .u64 x).wf = true) : ∃ n : Nat, x = n ∧ n < 18446744073709551616 := by
  have := wf_u64 h
  exact ⟨x.toNat, by omega, by omega⟩
noncomputable abbrev gTells : Frm := ⟨En, 3, Tryd.f3.ntmps, [], .bl true, []⟩
theorem tells_0 (w : Nat) (n : Int) (hw : w < 18446744073709551616) : ∀ (j k : Nat), k + j = (intsL (bitsL w)).length → Goods gTells ⟨.none, lp Tryd.f3 0,
    [(0, .int .u64 w), (1, .int .i64 n), (5, .int .u64 w), (6, .slice 0 0 (intsL (bitsL w)).length), (7, .int .i64 (firstN w)), (8, .slice 1 0 (intsL (bitsL w)).length), (24, .slice 0 0 (intsL (bitsL w)).length), (25, .int .i64 (intsL (bitsL w)).length), (26, .int .i64 k)], hp [.tab true (.int .i64) (intsL (bitsL w)), .tab true (.int .i64) (intsL (bitsL w))]⟩
  | 0, k, h => by
    have h1 := has_tri w hw n
    have h2 := rhas_tri w hw n
    have h3 := count_tri w hw
    have h4 := first_tri w hw
    have hl := intsL_len (bitsL w)
    have hle := L_le w
    refine Goods.fin 2000 [.b false, .s 48 (some true) true true, .k 52 (.of h1), .k 55 (.of h2), .s 56 (some true) true true, .c (.of h3), .s 63 (some true) true true, .c (.of h4)] mixed Tryd.func3 ?_
    show Yes _
    repeat' apply And.intro
    (all_goals first | rfl | assumption | trivial | omega | (simp [-List.getD_eq_getElem?_getD] <;> omega) | (simp (disch := omega) only [w64, wu64] <;> omega) | (simp (disch := omega) [-List.getD_eq_getElem?_getD, List.getD_cons_zero, List.getD_cons_succ, kCast_self, dfl_pair, dfl_int, w64, wu64] <;> omega) | (rw [Bool.eq_iff_iff]; simp (disch := omega) [-List.getD_eq_getElem?_getD, List.getD_cons_zero, List.getD_cons_succ, kCast_self, dfl_pair, dfl_int, w64, wu64] <;> omega) | (simp_all [-List.getD_eq_getElem?_getD] <;> omega))
  | j + 1, k, h => by
    have ih := tells_0 w n hw j (k + 1) (by omega)
    have hl := intsL_len (bitsL w)
    have hle := L_le w
    refine Goods.to 2000 [.b true, .s 34 (some false) true true, .b false, .l, .stop] mixed (ih) (by kernel_rfl) ?_
    show Yes _
    repeat' apply And.intro
    (all_goals first | rfl | assumption | trivial | omega | (simp [-List.getD_eq_getElem?_getD] <;> omega) | (simp (disch := omega) only [w64, wu64] <;> omega) | (simp (disch := omega) [-List.getD_eq_getElem?_getD, List.getD_cons_zero, List.getD_cons_succ, kCast_self, dfl_pair, dfl_int, w64, wu64] <;> omega) | (rw [Bool.eq_iff_iff]; simp (disch := omega) [-List.getD_eq_getElem?_getD, List.getD_cons_zero, List.getD_cons_succ, kCast_self, dfl_pair, dfl_int, w64, wu64] <;> omega) | (simp_all [-List.getD_eq_getElem?_getD] <;> omega))
theorem first_get (w : Nat) (h : (intsL (bitsL w)).length ≠ 0) : (intsL (bitsL w)).getD 0 0 = (firstN w : Int) := by
  unfold firstN
  cases hb : bitsL w with
  | nil => rw [hb] at h; simp [intsL] at h
  | cons t l => rfl
theorem MaskTells_tri (w : Nat) (n : Int) (hw : w < 18446744073709551616) : Tri En 3 [.int .u64 w, .int .i64 n] [] (.bl true) (gones 0) := by
  have ih := tells_0 w n hw (intsL (bitsL w)).length 0 (by omega)
  have hr := rlist_tri w hw
  have hl := list_tri w hw
  refine Tri.of Tryd.func3 rfl Tryd.call3 rfl ?_
  by_cases h0 : (intsL (bitsL w)).length = 0
  · have e : firstN w = 64 := by
      unfold firstN
      have := List.eq_nil_of_length_eq_zero (show (bitsL w).length = 0 by rw [← intsL_len]; exact h0)
      rw [this]; rfl
    refine Goods.to 2000 [.c (.of speaks_tri), .c (.of hr), .b false, .c (.of hl), .l, .stop] mixed (ih) (by kernel_rfl) ?_
    show Yes _
    repeat' apply And.intro
    (all_goals first | rfl | assumption | trivial | omega | (simp [-List.getD_eq_getElem?_getD, e] <;> omega) | (simp (disch := omega) only [w64, wu64] <;> omega) | (simp (disch := omega) [-List.getD_eq_getElem?_getD, List.getD_cons_zero, List.getD_cons_succ, kCast_self, dfl_pair, dfl_int, w64, wu64, e] <;> omega) | (rw [Bool.eq_iff_iff]; simp (disch := omega) [-List.getD_eq_getElem?_getD, List.getD_cons_zero, List.getD_cons_succ, kCast_self, dfl_pair, dfl_int, w64, wu64, e] <;> omega) | (simp_all [-List.getD_eq_getElem?_getD] <;> omega))
  · have e := first_get w h0
    refine Goods.to 2000 [.c (.of speaks_tri), .c (.of hr), .b true, .c (.of hl), .l, .stop] mixed (ih) (by kernel_rfl) ?_
    show Yes _
    repeat' apply And.intro
    (all_goals first | rfl | assumption | trivial | omega | (simp [-List.getD_eq_getElem?_getD, e] <;> omega) | (simp (disch := omega) only [w64, wu64] <;> omega) | (simp (disch := omega) [-List.getD_eq_getElem?_getD, List.getD_cons_zero, List.getD_cons_succ, kCast_self, dfl_pair, dfl_int, w64, wu64, e] <;> omega) | (rw [Bool.eq_iff_iff]; simp (disch := omega) [-List.getD_eq_getElem?_getD, List.getD_cons_zero, List.getD_cons_succ, kCast_self, dfl_pair, dfl_int, w64, wu64, e] <;> omega) | (simp_all [-List.getD_eq_getElem?_getD] <;> omega))
theorem MaskTells_law (d : dats ([(false, (.int .u64)), (false, (.int .i64))] : List (Bool × Sh))) (hd : datsOk ([(false, (.int .u64)), (false, (.int .i64))] : List (Bool × Sh)) d) : Tri En 3 (argsOf ([(false, (.int .u64)), (false, (.int .i64))] : List (Bool × Sh)) d 0) (objsOf ([(false, (.int .u64)), (false, (.int .i64))] : List (Bool × Sh)) d) (.bl true) (gones (cnts ([(false, (.int .u64)), (false, (.int .i64))] : List (Bool × Sh)))) := by
  obtain ⟨w, n, _⟩ := d
  obtain ⟨h0, _⟩ := hd
  obtain ⟨w, rfl, hw⟩ := u64_nat h0
  exact MaskTells_tri w n hw
theorem MaskParts_tri (w : Nat) (n : Int) (hw : w < 18446744073709551616) (hn : n ≤ 9223372036854775807) : Tri En 4 [.int .u64 w, .int .i64 n] [] (.bl true) (gones 0) := by
  have h3 := least_tri w hw n hn
  have h4 := rleast_tri w hw n
  have h5 := low_tri n
  have h6 := rlow_tri n
  have key : (∃ x b : Nat, n = b ∧ 1 ≤ b ∧ x + b ≤ 64 ∧ runOk w b x ∧ ∀ j, j < x → ¬ runOk w b j) ∨ (1 ≤ n → ∀ j, j + n.toNat ≤ 64 → ¬ runOk w n.toNat j) := by
    by_cases h1 : 1 ≤ n
    · obtain ⟨b, rfl⟩ : ∃ b : Nat, n = b := ⟨n.toNat, by omega⟩
      rcases run_cases w b with ⟨x, h2, h3, h4⟩ | h2
      · exact .inl ⟨x, b, rfl, by omega, h2, h3, h4⟩
      · exact .inr fun _ j hj => by simpa using h2 j (by simpa using hj)
    · exact .inr fun h => absurd h h1
  rcases key with ⟨x, b, rfl, g1, g2, g3, g4⟩ | hno
  · have h1 := run_yes w b x hw g1 g2 g3 g4
    have h2 := rrun_yes w b x hw g1 g2 g3 g4
    refine Tri.of Tryd.func4 rfl Tryd.call4 rfl ?_
    refine Goods.fin 2000 [.c (.of speaks_tri), .c (.of h1), .c (.of h2), .s 24 (some false) true true, .s 30 (some false) true true, .k 43 (.of h3), .k 46 (.of h4), .s 47 (some true) true true, .k 50 (.of h5), .k 52 (.of h6)] mixed Tryd.func4 ?_
    show Yes _
    repeat' apply And.intro
    (all_goals first | rfl | assumption | trivial | omega | (simp [-List.getD_eq_getElem?_getD] <;> omega) | (simp (disch := omega) only [w64, wu64] <;> omega) | (simp (disch := omega) [-List.getD_eq_getElem?_getD, List.getD_cons_zero, List.getD_cons_succ, kCast_self, dfl_pair, dfl_int, w64, wu64] <;> omega) | (rw [Bool.eq_iff_iff]; simp (disch := omega) [-List.getD_eq_getElem?_getD, List.getD_cons_zero, List.getD_cons_succ, kCast_self, dfl_pair, dfl_int, w64, wu64] <;> omega) | (simp_all [-List.getD_eq_getElem?_getD] <;> omega))
  · have h1 := run_no w hw n fun h1 _ => hno h1
    have h2 := rrun_no w hw n hn hno
    refine Tri.of Tryd.func4 rfl Tryd.call4 rfl ?_
    refine Goods.fin 2000 [.c (.of speaks_tri), .c (.of h1), .c (.of h2), .s 24 (some false) true true, .b false, .k 43 (.of h3), .k 46 (.of h4), .s 47 (some true) true true, .k 50 (.of h5), .k 52 (.of h6)] mixed Tryd.func4 ?_
    show Yes _
    repeat' apply And.intro
    (all_goals first | rfl | assumption | trivial | omega | (simp [-List.getD_eq_getElem?_getD] <;> omega) | (simp (disch := omega) only [w64, wu64] <;> omega) | (simp (disch := omega) [-List.getD_eq_getElem?_getD, List.getD_cons_zero, List.getD_cons_succ, kCast_self, dfl_pair, dfl_int, w64, wu64] <;> omega) | (rw [Bool.eq_iff_iff]; simp (disch := omega) [-List.getD_eq_getElem?_getD, List.getD_cons_zero, List.getD_cons_succ, kCast_self, dfl_pair, dfl_int, w64, wu64] <;> omega) | (simp_all [-List.getD_eq_getElem?_getD] <;> omega))
theorem MaskParts_law (d : dats ([(false, (.int .u64)), (false, (.int .i64))] : List (Bool × Sh))) (hd : datsOk ([(false, (.int .u64)), (false, (.int .i64))] : List (Bool × Sh)) d) : Tri En 4 (argsOf ([(false, (.int .u64)), (false, (.int .i64))] : List (Bool × Sh)) d 0) (objsOf ([(false, (.int .u64)), (false, (.int .i64))] : List (Bool × Sh)) d) (.bl true) (gones (cnts ([(false, (.int .u64)), (false, (.int .i64))] : List (Bool × Sh)))) := by
  obtain ⟨w, n, _⟩ := d
  obtain ⟨h0, h1, _⟩ := hd
  obtain ⟨w, rfl, hw⟩ := u64_nat h0
  exact MaskParts_tri w n hw (wf_i64 h1).2
end Go.Proofs.YtlefadhnmfapgaaDoor.E
