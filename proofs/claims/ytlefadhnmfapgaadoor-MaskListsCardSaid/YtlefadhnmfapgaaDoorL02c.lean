/- MaskRuns, MaskLists: the laws' contracts. -/
import Derived.Test.YtlefadhnmfapgaaDoorL02b
namespace Go.Proofs.YtlefadhnmfapgaaDoor.E
open Go
set_option maxRecDepth 100000

def allB (w k : Nat) : Nat → Bool
  | 0 => true
  | j + 1 => allB w k j && w.testBit (k + j)
theorem allB_iff (w k : Nat) : ∀ n, allB w k n = true ↔ runOk w n k
  | 0 => by simp [allB, runOk]
  | n + 1 => by
    simp only [allB, Bool.and_eq_true, allB_iff w k n]
    constructor
    · rintro ⟨h1, h2⟩ j hj
      by_cases he : j = n
      · subst he; exact h2
      · exact h1 j (by omega)
    · intro h
      exact ⟨fun j hj => h j (by omega), h n (by omega)⟩
noncomputable abbrev gRuns : Frm := ⟨En, 6, Tryd.f6.ntmps, [], .bl true, []⟩
/-- The inner loop: are all of a row there? -/
theorem runs_2 (w n e k : Nat) (hw : w < 18446744073709551616) (hn : k + n ≤ 64) (hno : ¬ runOk w n k) (he : e ≤ 64) (hk : k < e) (next : Goods gRuns ⟨.none, lp Tryd.f6 1, [(1, .int .i64 n), (5, .int .u64 w), (49, .int .i64 e), (50, .int .i64 (k + 1 : Nat))], hp []⟩) : ∀ (j i : Nat), i + j = n → Goods gRuns ⟨.none, lp Tryd.f6 2,
    [(1, .int .i64 n), (5, .int .u64 w), (49, .int .i64 e), (50, .int .i64 k), (10, .int .i64 k), (11, .bool (allB w k i)), (53, .int .i64 n), (54, .int .i64 i)], hp []⟩
  | 0, i, h => by
    obtain rfl : i = n := by omega
    have e1 : allB w k i = false := by
      cases hb : allB w k i
      · rfl
      · exact absurd ((allB_iff w k i).1 hb) hno
    refine Goods.to 2000 [.b false, .b false, .l, .stop] mixed (next) (by kernel_rfl) ?_
    show Yes _
    repeat' apply And.intro
    (all_goals first | rfl | assumption | trivial | omega | (simp [-List.getD_eq_getElem?_getD, e1] <;> omega) | (simp (disch := omega) only [w64, wu64] <;> omega) | (simp (disch := omega) [-List.getD_eq_getElem?_getD, List.getD_cons_zero, List.getD_cons_succ, kCast_self, dfl_pair, dfl_int, w64, wu64, e1] <;> omega) | (rw [Bool.eq_iff_iff]; simp (disch := omega) [-List.getD_eq_getElem?_getD, List.getD_cons_zero, List.getD_cons_succ, kCast_self, dfl_pair, dfl_int, w64, wu64, e1] <;> omega) | (simp_all [-List.getD_eq_getElem?_getD] <;> omega))
  | j + 1, i, h => by
    have ih := runs_2 w n e k hw hn hno he hk next j (i + 1) (by omega)
    have hh := has_tri w hw (k + i : Nat)
    rw [hasN_nat (by omega)] at hh
    have e1 : IntKind.i64.wrap ((k : Int) + i) = (k + i : Nat) := by rw [w64 (by omega) (by omega)]; omega
    cases hb : allB w k i
    · have e2 : allB w k (i + 1) = false := by simp [allB, hb]
      rw [e2] at ih
      refine Goods.to 2000 [.b true, .s 57 (some false) true true, .l, .stop] mixed (ih) (by kernel_rfl) ?_
      show Yes _
      repeat' apply And.intro
      (all_goals first | rfl | assumption | trivial | omega | (simp [-List.getD_eq_getElem?_getD] <;> omega) | (simp (disch := omega) only [w64, wu64] <;> omega) | (simp (disch := omega) [-List.getD_eq_getElem?_getD, List.getD_cons_zero, List.getD_cons_succ, kCast_self, dfl_pair, dfl_int, w64, wu64] <;> omega) | (rw [Bool.eq_iff_iff]; simp (disch := omega) [-List.getD_eq_getElem?_getD, List.getD_cons_zero, List.getD_cons_succ, kCast_self, dfl_pair, dfl_int, w64, wu64] <;> omega) | (simp_all [-List.getD_eq_getElem?_getD] <;> omega))
    · have e2 : allB w k (i + 1) = w.testBit (k + i) := by simp [allB, hb]
      rw [e2] at ih
      refine Goods.to 2000 [.b true, .s 57 (some true) true true, .c (.of hh), .l, .stop] mixed (ih) (by kernel_rfl) ?_
      show Yes _
      repeat' apply And.intro
      (all_goals first | rfl | assumption | trivial | omega | (simp [-List.getD_eq_getElem?_getD] <;> omega) | (simp (disch := omega) only [w64, wu64] <;> omega) | (simp (disch := omega) [-List.getD_eq_getElem?_getD, List.getD_cons_zero, List.getD_cons_succ, kCast_self, dfl_pair, dfl_int, w64, wu64] <;> omega) | (rw [Bool.eq_iff_iff]; simp (disch := omega) [-List.getD_eq_getElem?_getD, List.getD_cons_zero, List.getD_cons_succ, kCast_self, dfl_pair, dfl_int, w64, wu64] <;> omega) | (simp_all [-List.getD_eq_getElem?_getD] <;> omega))
/-- The second loop: no row ahead of the end. -/
theorem runs_1 (w n e : Nat) (hw : w < 18446744073709551616) (he : e + n ≤ 65) (he2 : e ≤ 64) (hno : ∀ j, j < e → ¬ runOk w n j) : ∀ (j k : Nat), k + j = e → Goods gRuns ⟨.none, lp Tryd.f6 1, [(1, .int .i64 n), (5, .int .u64 w), (49, .int .i64 e), (50, .int .i64 k)], hp []⟩
  | 0, k, h => by
    refine Goods.fin 2000 [.b false] mixed Tryd.func6 ?_
    show Yes _
    repeat' apply And.intro
    (all_goals first | rfl | assumption | trivial | omega | (simp [-List.getD_eq_getElem?_getD] <;> omega) | (simp (disch := omega) only [w64, wu64] <;> omega) | (simp (disch := omega) [-List.getD_eq_getElem?_getD, List.getD_cons_zero, List.getD_cons_succ, kCast_self, dfl_pair, dfl_int, w64, wu64] <;> omega) | (rw [Bool.eq_iff_iff]; simp (disch := omega) [-List.getD_eq_getElem?_getD, List.getD_cons_zero, List.getD_cons_succ, kCast_self, dfl_pair, dfl_int, w64, wu64] <;> omega) | (simp_all [-List.getD_eq_getElem?_getD] <;> omega))
  | j + 1, k, h => by
    have next := runs_1 w n e hw he he2 hno j (k + 1) (by omega)
    have ih := runs_2 w n e k hw (by omega) (hno k (by omega)) he2 (by omega) next n 0 (by omega)
    rw [show allB w k 0 = true from rfl] at ih
    refine Goods.to 2000 [.b true, .l, .stop] mixed (ih) (by kernel_rfl) ?_
    show Yes _
    repeat' apply And.intro
    (all_goals first | rfl | assumption | trivial | omega | (simp [-List.getD_eq_getElem?_getD] <;> omega) | (simp (disch := omega) only [w64, wu64] <;> omega) | (simp (disch := omega) [-List.getD_eq_getElem?_getD, List.getD_cons_zero, List.getD_cons_succ, kCast_self, dfl_pair, dfl_int, w64, wu64] <;> omega) | (rw [Bool.eq_iff_iff]; simp (disch := omega) [-List.getD_eq_getElem?_getD, List.getD_cons_zero, List.getD_cons_succ, kCast_self, dfl_pair, dfl_int, w64, wu64] <;> omega) | (simp_all [-List.getD_eq_getElem?_getD] <;> omega))
/-- The first loop: all of the row are there. -/
theorem runs_0 (w n i : Nat) (hw : w < 18446744073709551616) (hn1 : 1 ≤ n) (hn : i + n ≤ 64) (hr : runOk w n i) (hf : ∀ j, j < i → ¬ runOk w n j) : ∀ (j k : Nat), k + j = n → Goods gRuns ⟨.none, lp Tryd.f6 0,
    [(1, .int .i64 n), (5, .int .u64 w), (6, .int .i64 i), (8, .int .i64 i), (38, .int .i64 n), (39, .int .i64 k)], hp []⟩
  | 0, k, h => by
    have ih := runs_1 w n i hw (by omega) (by omega) hf i 0 (by omega)
    refine Goods.to 2000 [.b false, .l, .stop] mixed (ih) (by kernel_rfl) ?_
    show Yes _
    repeat' apply And.intro
    (all_goals first | rfl | assumption | trivial | omega | (simp [-List.getD_eq_getElem?_getD] <;> omega) | (simp (disch := omega) only [w64, wu64] <;> omega) | (simp (disch := omega) [-List.getD_eq_getElem?_getD, List.getD_cons_zero, List.getD_cons_succ, kCast_self, dfl_pair, dfl_int, w64, wu64] <;> omega) | (rw [Bool.eq_iff_iff]; simp (disch := omega) [-List.getD_eq_getElem?_getD, List.getD_cons_zero, List.getD_cons_succ, kCast_self, dfl_pair, dfl_int, w64, wu64] <;> omega) | (simp_all [-List.getD_eq_getElem?_getD] <;> omega))
  | j + 1, k, h => by
    have ih := runs_0 w n i hw hn1 hn hr hf j (k + 1) (by omega)
    have hh := has_tri w hw (i + k : Nat)
    rw [hasN_nat (by omega)] at hh
    have hh := hh.bl (hr k (by omega))
    have e1 : IntKind.i64.wrap ((i : Int) + k) = (i + k : Nat) := by rw [w64 (by omega) (by omega)]; omega
    refine Goods.to 2000 [.b true, .c (.of hh), .l, .stop] mixed (ih) (by kernel_rfl) ?_
    show Yes _
    repeat' apply And.intro
    (all_goals first | rfl | assumption | trivial | omega | (simp [-List.getD_eq_getElem?_getD] <;> omega) | (simp (disch := omega) only [w64, wu64] <;> omega) | (simp (disch := omega) [-List.getD_eq_getElem?_getD, List.getD_cons_zero, List.getD_cons_succ, kCast_self, dfl_pair, dfl_int, w64, wu64] <;> omega) | (rw [Bool.eq_iff_iff]; simp (disch := omega) [-List.getD_eq_getElem?_getD, List.getD_cons_zero, List.getD_cons_succ, kCast_self, dfl_pair, dfl_int, w64, wu64] <;> omega) | (simp_all [-List.getD_eq_getElem?_getD] <;> omega))
theorem MaskRuns_tri (w : Nat) (n : Int) (hw : w < 18446744073709551616) : Tri En 6 [.int .u64 w, .int .i64 n] [] (.bl true) (gones 0) := by
  by_cases h0 : 1 ≤ n
  · by_cases h1 : n ≤ 64
    · obtain ⟨b, rfl⟩ : ∃ b : Nat, n = b := ⟨n.toNat, by omega⟩
      rcases run_cases w b with ⟨x, g1, g2, g3⟩ | hno
      · have h2 := run_yes w b x hw (by omega) g1 g2 g3
        have ih := runs_0 w b x hw (by omega) g1 g2 g3 b 0 (by omega)
        refine Tri.of Tryd.func6 rfl Tryd.call6 rfl ?_
        refine Goods.to 2000 [.c (.of speaks_tri), .c (.of h2), .s 23 (some false) true true, .s 26 (some false) true true, .l, .stop] mixed (ih) (by kernel_rfl) ?_
        show Yes _
        repeat' apply And.intro
        (all_goals first | rfl | assumption | trivial | omega | (simp [-List.getD_eq_getElem?_getD] <;> omega) | (simp (disch := omega) only [w64, wu64] <;> omega) | (simp (disch := omega) [-List.getD_eq_getElem?_getD, List.getD_cons_zero, List.getD_cons_succ, kCast_self, dfl_pair, dfl_int, w64, wu64] <;> omega) | (rw [Bool.eq_iff_iff]; simp (disch := omega) [-List.getD_eq_getElem?_getD, List.getD_cons_zero, List.getD_cons_succ, kCast_self, dfl_pair, dfl_int, w64, wu64] <;> omega) | (simp_all [-List.getD_eq_getElem?_getD] <;> omega))
      · have h2 := run_no w hw b fun _ _ j hj => by simpa using hno j (by simpa using hj)
        have ih := runs_1 w b (65 - b) hw (by omega) (by omega) (fun j hj => hno j (by omega)) (65 - b) 0 (by omega)
        refine Tri.of Tryd.func6 rfl Tryd.call6 rfl ?_
        refine Goods.to 2000 [.c (.of speaks_tri), .c (.of h2), .s 23 (some false) true true, .s 26 (some false) true true, .l, .stop] mixed (ih) (by kernel_rfl) ?_
        show Yes _
        repeat' apply And.intro
        (all_goals first | rfl | assumption | trivial | omega | (simp [-List.getD_eq_getElem?_getD] <;> omega) | (simp (disch := omega) only [w64, wu64] <;> omega) | (simp (disch := omega) [-List.getD_eq_getElem?_getD, List.getD_cons_zero, List.getD_cons_succ, kCast_self, dfl_pair, dfl_int, w64, wu64] <;> omega) | (rw [Bool.eq_iff_iff]; simp (disch := omega) [-List.getD_eq_getElem?_getD, List.getD_cons_zero, List.getD_cons_succ, kCast_self, dfl_pair, dfl_int, w64, wu64] <;> omega) | (simp_all [-List.getD_eq_getElem?_getD] <;> omega))
    · have h2 := run_no w hw n fun _ h3 => absurd h3 h1
      refine Tri.of Tryd.func6 rfl Tryd.call6 rfl ?_
      refine Goods.fin 2000 [.c (.of speaks_tri), .c (.of h2), .s 23 (some false) true true, .s 26 (some true) true true] mixed Tryd.func6 ?_
      show Yes _
      repeat' apply And.intro
      (all_goals first | rfl | assumption | trivial | omega | (simp [-List.getD_eq_getElem?_getD] <;> omega) | (simp (disch := omega) only [w64, wu64] <;> omega) | (simp (disch := omega) [-List.getD_eq_getElem?_getD, List.getD_cons_zero, List.getD_cons_succ, kCast_self, dfl_pair, dfl_int, w64, wu64] <;> omega) | (rw [Bool.eq_iff_iff]; simp (disch := omega) [-List.getD_eq_getElem?_getD, List.getD_cons_zero, List.getD_cons_succ, kCast_self, dfl_pair, dfl_int, w64, wu64] <;> omega) | (simp_all [-List.getD_eq_getElem?_getD] <;> omega))
  · have h2 := run_no w hw n fun h3 => absurd h3 h0
    refine Tri.of Tryd.func6 rfl Tryd.call6 rfl ?_
    refine Goods.fin 2000 [.c (.of speaks_tri), .c (.of h2), .s 23 (some true) true true] mixed Tryd.func6 ?_
    show Yes _
    repeat' apply And.intro
    (all_goals first | rfl | assumption | trivial | omega | (simp [-List.getD_eq_getElem?_getD] <;> omega) | (simp (disch := omega) only [w64, wu64] <;> omega) | (simp (disch := omega) [-List.getD_eq_getElem?_getD, List.getD_cons_zero, List.getD_cons_succ, kCast_self, dfl_pair, dfl_int, w64, wu64] <;> omega) | (rw [Bool.eq_iff_iff]; simp (disch := omega) [-List.getD_eq_getElem?_getD, List.getD_cons_zero, List.getD_cons_succ, kCast_self, dfl_pair, dfl_int, w64, wu64] <;> omega) | (simp_all [-List.getD_eq_getElem?_getD] <;> omega))
theorem MaskRuns_law (d : dats ([(false, (.int .u64)), (false, (.int .i64))] : List (Bool × Sh))) (hd : datsOk ([(false, (.int .u64)), (false, (.int .i64))] : List (Bool × Sh)) d) : Tri En 6 (argsOf ([(false, (.int .u64)), (false, (.int .i64))] : List (Bool × Sh)) d 0) (objsOf ([(false, (.int .u64)), (false, (.int .i64))] : List (Bool × Sh)) d) (.bl true) (gones (cnts ([(false, (.int .u64)), (false, (.int .i64))] : List (Bool × Sh)))) := by
  obtain ⟨w, n, _⟩ := d
  obtain ⟨h0, _⟩ := hd
  obtain ⟨w, rfl, hw⟩ := u64_nat h0
  exact MaskRuns_tri w n hw

theorem with_set {l : List Int} {x : Int} : withN (setI l) x = setI (l ++ [x]) := by
  unfold withN
  by_cases h : 0 ≤ x ∧ x ≤ 63
  · rw [if_pos h, setI_snoc_in h]
  · rw [if_neg h, setI_snoc_out h]
noncomputable abbrev gLists (l : List Int) : Frm := ⟨En, 8, Tryd.f8.ntmps, [.tab false (.int .i64) l], .bl true, gones 1⟩
/-- The second loop: the set of what was handed in. -/
theorem lists_1 (w : Nat) (l : List Int) (hw : w < 18446744073709551616) (hl : l.length ≤ 200) : ∀ (j k : Nat), k + j = l.length → Goods (gLists l) ⟨.none, lp Tryd.f8 1,
    [(1, .slice 0 0 l.length), (5, .int .u64 w), (6, .int .u64 w), (10, .int .u64 (setI (l.take k))), (34, .slice 0 0 l.length), (35, .int .i64 l.length), (36, .int .i64 k)], hp [.tab false (.int .i64) l]⟩
  | 0, k, h => by
    obtain rfl : k = l.length := by omega
    have h1 := list_tri w hw
    have h2 := count_tri w hw
    have h3 := rof_tri false l l.length (Nat.le_refl _) (by omega)
    have hil := intsL_len (bitsL w)
    refine Goods.fin 2000 [.b false, .s 46 (some true) true true, .k 49 (.of h1), .k 52 (.of h2), .s 53 (some true) true true, .c (.of h3)] mixed Tryd.func8 ?_
    show Yes _
    repeat' apply And.intro
    (all_goals first | rfl | assumption | trivial | omega | (simp [-List.getD_eq_getElem?_getD] <;> omega) | (simp (disch := omega) only [w64, wu64] <;> omega) | (simp (disch := omega) [-List.getD_eq_getElem?_getD, List.getD_cons_zero, List.getD_cons_succ, kCast_self, dfl_pair, dfl_int, w64, wu64] <;> omega) | (rw [Bool.eq_iff_iff]; simp (disch := omega) [-List.getD_eq_getElem?_getD, List.getD_cons_zero, List.getD_cons_succ, kCast_self, dfl_pair, dfl_int, w64, wu64] <;> omega) | (simp_all [-List.getD_eq_getElem?_getD] <;> omega))
  | j + 1, k, h => by
    have ih := lists_1 w l hw hl j (k + 1) (by omega)
    have ht := take_snoc (l := l) (k := k) (by omega)
    obtain ⟨x, hx⟩ : ∃ x, l.getD k 0 = x := ⟨_, rfl⟩
    rw [hx] at ht
    have h1 := with_tri (setI (l.take k)) (setI_lt _) x
    rw [with_set, ← ht] at h1
    refine Goods.to 2000 [.b true, .c (.of h1), .l, .stop] mixed (ih) (by kernel_rfl) ?_
    show Yes _
    repeat' apply And.intro
    (all_goals first | rfl | assumption | trivial | omega | (simp [-List.getD_eq_getElem?_getD, hx] <;> omega) | (simp (disch := omega) only [w64, wu64] <;> omega) | (simp (disch := omega) [-List.getD_eq_getElem?_getD, List.getD_cons_zero, List.getD_cons_succ, kCast_self, dfl_pair, dfl_int, w64, wu64, hx] <;> omega) | (rw [Bool.eq_iff_iff]; simp (disch := omega) [-List.getD_eq_getElem?_getD, List.getD_cons_zero, List.getD_cons_succ, kCast_self, dfl_pair, dfl_int, w64, wu64, hx] <;> omega) | (simp_all [-List.getD_eq_getElem?_getD] <;> omega))
theorem S_snoc (a : List Nat) (i : Nat) : setS (a ++ [i]) = setS a ||| 2 ^ i := by rw [S_append]; simp [setS]
theorem bits_last (w k : Nat) (h : k < (bitsL w).length) : (k = 0 ∧ (-1 : Int) < (intsL (bitsL w)).getD k 0) ∨ (0 < k ∧ (intsL (bitsL w)).getD (k - 1) 0 < (intsL (bitsL w)).getD k 0) := by
  have e : ∀ i, i < (bitsL w).length → (intsL (bitsL w)).getD i 0 = ((bitsL w).getD i 0 : Int) := by
    intro i hi
    simp [intsL, List.getD, hi]
  rw [e k h]
  by_cases hk : k = 0
  · left; exact ⟨hk, by omega⟩
  · right
    refine ⟨by omega, ?_⟩
    rw [e (k - 1) (by omega)]
    have := List.pairwise_iff_getElem.1 (L_sorted w) (k - 1) k (by omega) h (by omega)
    simp only [List.getD, List.getElem?_eq_getElem h, List.getElem?_eq_getElem (show k - 1 < (bitsL w).length by omega), Option.getD_some]
    omega
/-- What the last number was. -/
def lastOf (w k : Nat) : Int := if k = 0 then -1 else (intsL (bitsL w)).getD (k - 1) 0
theorem lists_0 (w : Nat) (l : List Int) (hw : w < 18446744073709551616) (hl : l.length ≤ 200) : ∀ (j k : Nat), k + j = (bitsL w).length → Goods (gLists l) ⟨.none, lp Tryd.f8 0,
    [(1, .slice 0 0 l.length), (5, .int .u64 w), (6, .int .u64 (setS ((bitsL w).take k))), (7, .int .i64 (lastOf w k)), (20, .slice 1 0 (intsL (bitsL w)).length), (21, .int .i64 (bitsL w).length), (22, .int .i64 k)], hp [.tab false (.int .i64) l, .tab true (.int .i64) (intsL (bitsL w))]⟩
  | 0, k, h => by
    obtain rfl : k = (bitsL w).length := by omega
    have e : setS ((bitsL w).take (bitsL w).length) = w := by rw [List.take_length]; exact S_L (by rw [pow64]; exact hw)
    rw [e]
    have ih := lists_1 w l hw hl l.length 0 (by omega)
    rw [show setI (l.take 0) = 0 from rfl] at ih
    refine Goods.to 2000 [.b false, .l, .stop] mixed (ih) (by kernel_rfl) ?_
    show Yes _
    repeat' apply And.intro
    (all_goals first | rfl | assumption | trivial | omega | (simp [-List.getD_eq_getElem?_getD] <;> omega) | (simp (disch := omega) only [w64, wu64] <;> omega) | (simp (disch := omega) [-List.getD_eq_getElem?_getD, List.getD_cons_zero, List.getD_cons_succ, kCast_self, dfl_pair, dfl_int, w64, wu64] <;> omega) | (rw [Bool.eq_iff_iff]; simp (disch := omega) [-List.getD_eq_getElem?_getD, List.getD_cons_zero, List.getD_cons_succ, kCast_self, dfl_pair, dfl_int, w64, wu64] <;> omega) | (simp_all [-List.getD_eq_getElem?_getD] <;> omega))
  | j + 1, k, h => by
    have ih := lists_0 w l hw hl j (k + 1) (by omega)
    have hk : k < (bitsL w).length := by omega
    have hil := intsL_len (bitsL w)
    have hle := L_le w
    have hlast := bits_last w k hk
    have e1 : lastOf w (k + 1) = (intsL (bitsL w)).getD k 0 := by unfold lastOf; rw [if_neg (by omega), Nat.add_sub_cancel]
    have e2 : lastOf w k < (intsL (bitsL w)).getD k 0 := by
      unfold lastOf
      rcases hlast with ⟨h1, h2⟩ | ⟨h1, h2⟩
      · rw [if_pos h1]; exact h2
      · rw [if_neg (by omega)]; exact h2
    rw [e1] at ih
    obtain ⟨t, ht⟩ : ∃ t, (bitsL w).getD k 0 = t := ⟨_, rfl⟩
    have e3 : (intsL (bitsL w)).getD k 0 = (t : Int) := by rw [← ht]; simp [intsL, List.getD, hk]
    have ht64 : t < 64 := by
      refine bits_lt (m := w) ?_
      rw [← ht]; simp [List.getD, hk]
    have h1 := with_tri (setS ((bitsL w).take k)) (by rw [← pow64]; exact S_lt fun i hi => bits_lt (List.mem_of_mem_take hi)) t
    rw [withN_nat (by omega), ← S_snoc] at h1
    have e4 : (bitsL w).take k ++ [t] = (bitsL w).take (k + 1) := by rw [List.take_add_one, ← ht]; simp [List.getD, hk]
    rw [e4] at h1
    rw [e3] at ih e2
    generalize lastOf w k = q at *
    refine Goods.to 2000 [.b true, .b false, .c (.of h1), .l, .stop] mixed (ih) (by kernel_rfl) ?_
    show Yes _
    repeat' apply And.intro
    (all_goals first | rfl | assumption | trivial | omega | (simp [-List.getD_eq_getElem?_getD, e3] <;> omega) | (simp (disch := omega) only [w64, wu64] <;> omega) | (simp (disch := omega) [-List.getD_eq_getElem?_getD, List.getD_cons_zero, List.getD_cons_succ, kCast_self, dfl_pair, dfl_int, w64, wu64, e3] <;> omega) | (rw [Bool.eq_iff_iff]; simp (disch := omega) [-List.getD_eq_getElem?_getD, List.getD_cons_zero, List.getD_cons_succ, kCast_self, dfl_pair, dfl_int, w64, wu64, e3] <;> omega) | (simp_all [-List.getD_eq_getElem?_getD] <;> omega))
theorem MaskLists_tri (w : Nat) (l : List Int) (hw : w < 18446744073709551616) (hl0 : l.length ≤ 9223372036854775807) : Tri En 8 [.int .u64 w, .slice 0 0 l.length] [.tab false (.int .i64) l] (.bl true) (gones 1) := by
  by_cases hl : l.length ≤ 200
  · have ih := lists_0 w l hw hl (bitsL w).length 0 (by omega)
    have h1 := list_tri w hw
    have hil := intsL_len (bitsL w)
    rw [show setS ((bitsL w).take 0) = 0 from rfl, show lastOf w 0 = -1 from rfl] at ih
    refine Tri.of Tryd.func8 rfl Tryd.call8 rfl ?_
    refine Goods.to 2000 [.c (.of speaks_tri), .b false, .c (.of h1), .l, .stop] mixed (ih) (by kernel_rfl) ?_
    show Yes _
    repeat' apply And.intro
    (all_goals first | rfl | assumption | trivial | omega | (simp [-List.getD_eq_getElem?_getD] <;> omega) | (simp (disch := omega) only [w64, wu64] <;> omega) | (simp (disch := omega) [-List.getD_eq_getElem?_getD, List.getD_cons_zero, List.getD_cons_succ, kCast_self, dfl_pair, dfl_int, w64, wu64] <;> omega) | (rw [Bool.eq_iff_iff]; simp (disch := omega) [-List.getD_eq_getElem?_getD, List.getD_cons_zero, List.getD_cons_succ, kCast_self, dfl_pair, dfl_int, w64, wu64] <;> omega) | (simp_all [-List.getD_eq_getElem?_getD] <;> omega))
  · refine Tri.of Tryd.func8 rfl Tryd.call8 rfl ?_
    refine Goods.fin 2000 [.c (.of speaks_tri), .b true] mixed Tryd.func8 ?_
    show Yes _
    repeat' apply And.intro
    (all_goals first | rfl | assumption | trivial | omega | (simp [-List.getD_eq_getElem?_getD] <;> omega) | (simp (disch := omega) only [w64, wu64] <;> omega) | (simp (disch := omega) [-List.getD_eq_getElem?_getD, List.getD_cons_zero, List.getD_cons_succ, kCast_self, dfl_pair, dfl_int, w64, wu64] <;> omega) | (rw [Bool.eq_iff_iff]; simp (disch := omega) [-List.getD_eq_getElem?_getD, List.getD_cons_zero, List.getD_cons_succ, kCast_self, dfl_pair, dfl_int, w64, wu64] <;> omega) | (simp_all [-List.getD_eq_getElem?_getD] <;> omega))
theorem MaskLists_law (d : dats ([(false, (.int .u64)), (false, (.slice (.int .i64)))] : List (Bool × Sh))) (hd : datsOk ([(false, (.int .u64)), (false, (.slice (.int .i64)))] : List (Bool × Sh)) d) : Tri En 8 (argsOf ([(false, (.int .u64)), (false, (.slice (.int .i64)))] : List (Bool × Sh)) d 0) (objsOf ([(false, (.int .u64)), (false, (.slice (.int .i64)))] : List (Bool × Sh)) d) (.bl true) (gones (cnts ([(false, (.int .u64)), (false, (.slice (.int .i64)))] : List (Bool × Sh)))) := by
  obtain ⟨w, l, _⟩ := d
  obtain ⟨h0, ⟨h1, _⟩, _⟩ := hd
  obtain ⟨w, rfl, hw⟩ := u64_nat h0
  exact MaskLists_tri w l hw (maxLen_le h1)
end Go.Proofs.YtlefadhnmfapgaaDoor.E
