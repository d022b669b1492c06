/- The document's superblocks: Give, Take. -/
import Derived.Test.YtdnhnglhdabkgaaDoorPrefld
namespace Go.Proofs.YtdnhnglhdabkgaaDoor.E
set_option linter.unusedSimpArgs false
set_option linter.unusedVariables false
open Go
set_option maxRecDepth 100000

abbrev TRg (n : Nat) (f : SupF) (i : Int) (v : AV) (os : List AObj) : Prop := Tri En 36 [.slice 0 0 n, .int .i64 i] [rlT n f] v os
abbrev oldG (n : Nat) : AV := .tuple [.slice 0 0 n, opA 0 0]
theorem rgive_out (n : Nat) (hn : n ≤ 64) (f : SupF) (i : Int) (hi : ¬ (0 ≤ i ∧ i < n)) : TRg n f i (oldG n) [rlT n f] := by
  have hl := rL_len n f
  refine Tri.of Tryd.func36 rfl Tryd.call36 rfl ?_
  by_cases h0 : i < 0
  · refine Goods.fin 2000 [.s 9 (some true) true true] mixed Tryd.func36 ?_
    show Yes _
    repeat' apply And.intro
    (all_goals first | rfl | assumption | trivial | omega | (simp [-List.getD_eq_getElem?_getD] <;> omega) | (simp (disch := omega) only [w64, wu64] <;> omega) | (simp (disch := omega) [-List.getD_eq_getElem?_getD, List.getD_cons_zero, List.getD_cons_succ, kCast_self, dfl_pair, dfl_int, w64, wu64] <;> omega) | (rw [Bool.eq_iff_iff]; simp (disch := omega) [-List.getD_eq_getElem?_getD, List.getD_cons_zero, List.getD_cons_succ, kCast_self, dfl_pair, dfl_int, w64, wu64] <;> omega) | (simp_all [-List.getD_eq_getElem?_getD] <;> omega))
  · refine Goods.fin 2000 [.s 9 (some false) true true, .s 14 (some true) true true] mixed Tryd.func36 ?_
    show Yes _
    repeat' apply And.intro
    (all_goals first | rfl | assumption | trivial | omega | (simp [-List.getD_eq_getElem?_getD] <;> omega) | (simp (disch := omega) only [w64, wu64] <;> omega) | (simp (disch := omega) [-List.getD_eq_getElem?_getD, List.getD_cons_zero, List.getD_cons_succ, kCast_self, dfl_pair, dfl_int, w64, wu64] <;> omega) | (rw [Bool.eq_iff_iff]; simp (disch := omega) [-List.getD_eq_getElem?_getD, List.getD_cons_zero, List.getD_cons_succ, kCast_self, dfl_pair, dfl_int, w64, wu64] <;> omega) | (simp_all [-List.getD_eq_getElem?_getD] <;> omega))
theorem rgive_kind (n : Nat) (hn : n ≤ 64) (f : SupF) (i kd a b : Nat) (hi : i < n) (hy : (rL n f).getD i (dfl SupK) = ((kd : Int), (a : Int), (b : Int))) (hk : kd ≠ 2) : TRg n f i (oldG n) [rlT n f] := by
  have hl := rL_len n f
  refine Tri.of Tryd.func36 rfl Tryd.call36 rfl ?_
  refine Goods.fin 2000 [.s 9 (some false) true true, .s 14 (some false) true true, .s 22 (some true) true true] mixed Tryd.func36 ?_
  show Yes _
  repeat' apply And.intro
  (all_goals first | rfl | assumption | trivial | omega | (simp [-List.getD_eq_getElem?_getD, hy] <;> omega) | (simp (disch := omega) only [w64, wu64] <;> omega) | (simp (disch := omega) [-List.getD_eq_getElem?_getD, List.getD_cons_zero, List.getD_cons_succ, kCast_self, dfl_pair, dfl_int, w64, wu64, hy] <;> omega) | (rw [Bool.eq_iff_iff]; simp (disch := omega) [-List.getD_eq_getElem?_getD, List.getD_cons_zero, List.getD_cons_succ, kCast_self, dfl_pair, dfl_int, w64, wu64, hy] <;> omega) | (simp_all [-List.getD_eq_getElem?_getD] <;> omega))
theorem rg_1 (n : Nat) (hn : n ≤ 64) (f : SupF) (i a : Nat) (hi : i + a ≤ n) (h1 : 1 ≤ a) (hy : (rL n f).getD i (dfl SupK) = (((2 : Nat) : Int), (a : Int), ((0 : Nat) : Int))) : ∀ (j k : Nat), k + j = a → 1 ≤ k → Goods ⟨En, 36, Tryd.f36.ntmps, [rlT n f], .tuple [.slice 1 0 n, opA 1 0], [.gone, rlT n (giveF f i a)]⟩ ⟨.none, lp Tryd.f36 0, [(0, .slice 0 0 n), (1, .int .i64 i), (5, .ptr 1 0 0), (6, .slice 2 0 n), (7, .int .i64 k)], hp [rlT n f, .cells [.int .u64 0, .int .u64 0], rlT n (giveF f i k)]⟩
  | 0, k, hk, h1 => by
    obtain rfl : k = a := by omega
    have hl := rL_len n f
    have hl2 := rL_len n (giveF f i k)
    refine Goods.fin 2000 [.b false] mixed Tryd.func36 ?_
    show Yes _
    repeat' apply And.intro
    (all_goals first | rfl | assumption | trivial | omega | (simp [-List.getD_eq_getElem?_getD, hy] <;> omega) | (simp (disch := omega) only [w64, wu64] <;> omega) | (simp (disch := omega) [-List.getD_eq_getElem?_getD, List.getD_cons_zero, List.getD_cons_succ, kCast_self, dfl_pair, dfl_int, w64, wu64, hy] <;> omega) | (rw [Bool.eq_iff_iff]; simp (disch := omega) [-List.getD_eq_getElem?_getD, List.getD_cons_zero, List.getD_cons_succ, kCast_self, dfl_pair, dfl_int, w64, wu64, hy] <;> omega) | (simp_all [-List.getD_eq_getElem?_getD] <;> omega))
  | j + 1, k, hk, h1 => by
    have ih := rg_1 n hn f i a hi (by omega) hy j (k + 1) (by omega) (by omega)
    have hl := rL_len n f
    have hw := rwith_tri n hn (giveF f i k) (i + k) (by omega) (0, 0, 0)
    rw [giveF_step] at hw
    refine Goods.to 2000 [.b true, .c (.of hw), .l, .stop] mixed (ih) (by kernel_rfl) ?_
    show Yes _
    repeat' apply And.intro
    (all_goals first | rfl | assumption | trivial | omega | (simp [-List.getD_eq_getElem?_getD, hy] <;> omega) | (simp (disch := omega) only [w64, wu64] <;> omega) | (simp (disch := omega) [-List.getD_eq_getElem?_getD, List.getD_cons_zero, List.getD_cons_succ, kCast_self, dfl_pair, dfl_int, w64, wu64, hy] <;> omega) | (rw [Bool.eq_iff_iff]; simp (disch := omega) [-List.getD_eq_getElem?_getD, List.getD_cons_zero, List.getD_cons_succ, kCast_self, dfl_pair, dfl_int, w64, wu64, hy] <;> omega) | (simp_all [-List.getD_eq_getElem?_getD] <;> omega))
theorem rgive_yes (n : Nat) (hn : n ≤ 64) (f : SupF) (i a : Nat) (hi : i + a ≤ n) (h1 : 1 ≤ a) (hy : (rL n f).getD i (dfl SupK) = (((2 : Nat) : Int), (a : Int), ((0 : Nat) : Int))) : TRg n f i (.tuple [.slice 1 0 n, opA 1 0]) [.gone, rlT n (giveF f i a)] := by
  have ih := rg_1 n hn f i a hi h1 hy (a - 1) 1 (by omega) (by omega)
  have hl := rL_len n f
  have hw := rwith_tri n hn f i (by omega) (0, 0, 0)
  have hw2 : updS f i (0, 0, 0) = giveF f i 1 := by
    have := giveF_step f i 0
    rwa [giveF_0] at this
  rw [hw2] at hw
  refine Tri.of Tryd.func36 rfl Tryd.call36 rfl ?_
  refine Goods.to 2000 [.s 9 (some false) true true, .s 14 (some false) true true, .s 22 (some false) true true, .l, .b true, .c (.of hw), .l, .stop] mixed (ih) (by kernel_rfl) ?_
  show Yes _
  repeat' apply And.intro
  (all_goals first | rfl | assumption | trivial | omega | (simp [-List.getD_eq_getElem?_getD, hy] <;> omega) | (simp (disch := omega) only [w64, wu64] <;> omega) | (simp (disch := omega) [-List.getD_eq_getElem?_getD, List.getD_cons_zero, List.getD_cons_succ, kCast_self, dfl_pair, dfl_int, w64, wu64, hy] <;> omega) | (rw [Bool.eq_iff_iff]; simp (disch := omega) [-List.getD_eq_getElem?_getD, List.getD_cons_zero, List.getD_cons_succ, kCast_self, dfl_pair, dfl_int, w64, wu64, hy] <;> omega) | (simp_all [-List.getD_eq_getElem?_getD] <;> omega))
/-! Take. -/
noncomputable abbrev gRT (n : Nat) (f : SupF) (v : AV) (os : List AObj) : Frm := ⟨En, 35, Tryd.f35.ntmps, [rlT n f], v, os⟩
noncomputable abbrev rt0 (n : Nat) (f : SupF) (q i : Nat) : Cfg := ⟨.none, lp Tryd.f35 0, [(0, .slice 0 0 n), (1, .int .i64 q), (5, .ptr 1 0 0), (6, .int .i64 i)], hp [rlT n f, .cells [.int .u64 0, .int .u64 0]]⟩
noncomputable abbrev rt1 (n : Nat) (f : SupF) (q i k : Nat) (b : Bool) : Cfg := ⟨.none, lp Tryd.f35 1, [(0, .slice 0 0 n), (1, .int .i64 q), (5, .ptr 1 0 0), (6, .int .i64 i), (7, .bl b), (8, .int .i64 k)], hp [rlT n f, .cells [.int .u64 0, .int .u64 0]]⟩
theorem rt_end (n : Nat) (hn : n ≤ 64) (f : SupF) (q i : Nat) (hq : q < 4294967296) (hi : i ≤ 65) (h : ¬ (i + q ≤ n ∧ 1 ≤ q)) : Goods (gRT n f (oldG n) [rlT n f]) (rt0 n f q i) := by
  have hl := rL_len n f
  by_cases h1 : i + q ≤ n
  · refine Goods.fin 2000 [.s 16 (some true) true true, .s 19 (some false) true true] mixed Tryd.func35 ?_
    show Yes _
    repeat' apply And.intro
    (all_goals first | rfl | assumption | trivial | omega | (simp [-List.getD_eq_getElem?_getD] <;> omega) | (simp (disch := omega) only [w64, wu64] <;> omega) | (simp (disch := omega) [-List.getD_eq_getElem?_getD, List.getD_cons_zero, List.getD_cons_succ, kCast_self, dfl_pair, dfl_int, w64, wu64] <;> omega) | (rw [Bool.eq_iff_iff]; simp (disch := omega) [-List.getD_eq_getElem?_getD, List.getD_cons_zero, List.getD_cons_succ, kCast_self, dfl_pair, dfl_int, w64, wu64] <;> omega) | (simp_all [-List.getD_eq_getElem?_getD] <;> omega))
  · refine Goods.fin 2000 [.s 16 (some false) true true] mixed Tryd.func35 ?_
    show Yes _
    repeat' apply And.intro
    (all_goals first | rfl | assumption | trivial | omega | (simp [-List.getD_eq_getElem?_getD] <;> omega) | (simp (disch := omega) only [w64, wu64] <;> omega) | (simp (disch := omega) [-List.getD_eq_getElem?_getD, List.getD_cons_zero, List.getD_cons_succ, kCast_self, dfl_pair, dfl_int, w64, wu64] <;> omega) | (rw [Bool.eq_iff_iff]; simp (disch := omega) [-List.getD_eq_getElem?_getD, List.getD_cons_zero, List.getD_cons_succ, kCast_self, dfl_pair, dfl_int, w64, wu64] <;> omega) | (simp_all [-List.getD_eq_getElem?_getD] <;> omega))
theorem rt_in (n : Nat) (hn : n ≤ 64) (f : SupF) (v : AV) (os : List AObj) (q i : Nat) (hq : 1 ≤ q) (hi : i + q ≤ n) (ih : Goods (gRT n f v os) (rt1 n f q i 0 true)) : Goods (gRT n f v os) (rt0 n f q i) := by
  have hl := rL_len n f
  refine Goods.to 2000 [.s 16 (some true) true true, .s 19 (some true) true true, .l, .stop] mixed (ih) (by kernel_rfl) ?_
  show Yes _
  repeat' apply And.intro
  (all_goals first | rfl | assumption | trivial | omega | (simp [-List.getD_eq_getElem?_getD] <;> omega) | (simp (disch := omega) only [w64, wu64] <;> omega) | (simp (disch := omega) [-List.getD_eq_getElem?_getD, List.getD_cons_zero, List.getD_cons_succ, kCast_self, dfl_pair, dfl_int, w64, wu64] <;> omega) | (rw [Bool.eq_iff_iff]; simp (disch := omega) [-List.getD_eq_getElem?_getD, List.getD_cons_zero, List.getD_cons_succ, kCast_self, dfl_pair, dfl_int, w64, wu64] <;> omega) | (simp_all [-List.getD_eq_getElem?_getD] <;> omega))
theorem rt_ff (n : Nat) (hn : n ≤ 64) (f : SupF) (v : AV) (os : List AObj) (q i : Nat) (hi : i + q ≤ n) (nx : Goods (gRT n f v os) (rt0 n f q (i + 1))) : ∀ (j k : Nat), k + j = q → Goods (gRT n f v os) (rt1 n f q i k false)
  | 0, k, hk => by
    obtain rfl : k = q := by omega
    have hl := rL_len n f
    refine Goods.to 2000 [.b false, .l, .stop] mixed (nx) (by kernel_rfl) ?_
    show Yes _
    repeat' apply And.intro
    (all_goals first | rfl | assumption | trivial | omega | (simp [-List.getD_eq_getElem?_getD] <;> omega) | (simp (disch := omega) only [w64, wu64] <;> omega) | (simp (disch := omega) [-List.getD_eq_getElem?_getD, List.getD_cons_zero, List.getD_cons_succ, kCast_self, dfl_pair, dfl_int, w64, wu64] <;> omega) | (rw [Bool.eq_iff_iff]; simp (disch := omega) [-List.getD_eq_getElem?_getD, List.getD_cons_zero, List.getD_cons_succ, kCast_self, dfl_pair, dfl_int, w64, wu64] <;> omega) | (simp_all [-List.getD_eq_getElem?_getD] <;> omega))
  | j + 1, k, hk => by
    have ih := rt_ff n hn f v os q i hi nx j (k + 1) (by omega)
    have hl := rL_len n f
    refine Goods.to 2000 [.b true, .l, .stop] mixed (ih) (by kernel_rfl) ?_
    show Yes _
    repeat' apply And.intro
    (all_goals first | rfl | assumption | trivial | omega | (simp [-List.getD_eq_getElem?_getD] <;> omega) | (simp (disch := omega) only [w64, wu64] <;> omega) | (simp (disch := omega) [-List.getD_eq_getElem?_getD, List.getD_cons_zero, List.getD_cons_succ, kCast_self, dfl_pair, dfl_int, w64, wu64] <;> omega) | (rw [Bool.eq_iff_iff]; simp (disch := omega) [-List.getD_eq_getElem?_getD, List.getD_cons_zero, List.getD_cons_succ, kCast_self, dfl_pair, dfl_int, w64, wu64] <;> omega) | (simp_all [-List.getD_eq_getElem?_getD] <;> omega))
theorem rt_step (n : Nat) (hn : n ≤ 64) (f : SupF) (v : AV) (os : List AObj) (q i k a b : Nat) (hi : i + q ≤ n) (hk : k < q) (hy : (rL n f).getD (i + k) (dfl SupK) = (((0 : Nat) : Int), (a : Int), (b : Int))) (ih : Goods (gRT n f v os) (rt1 n f q i (k + 1) true)) : Goods (gRT n f v os) (rt1 n f q i k true) := by
  have hl := rL_len n f
  refine Goods.to 2000 [.b true, .s 37 (some true) true true, .l, .stop] mixed (ih) (by kernel_rfl) ?_
  show Yes _
  repeat' apply And.intro
  all_goals try (have e : (IntKind.i64.wrap ((i : Int) + (k : Int))).toNat + 0 = i + k := by rw [w64 (by omega) (by omega)]; omega)
  all_goals try (rw [e, hy]; rfl)
  (all_goals first | rfl | assumption | trivial | omega | (simp [-List.getD_eq_getElem?_getD, hy] <;> omega) | (simp (disch := omega) only [w64, wu64] <;> omega) | (simp (disch := omega) [-List.getD_eq_getElem?_getD, List.getD_cons_zero, List.getD_cons_succ, kCast_self, dfl_pair, dfl_int, w64, wu64, hy] <;> omega) | (rw [Bool.eq_iff_iff]; simp (disch := omega) [-List.getD_eq_getElem?_getD, List.getD_cons_zero, List.getD_cons_succ, kCast_self, dfl_pair, dfl_int, w64, wu64, hy] <;> omega) | (simp_all [-List.getD_eq_getElem?_getD] <;> omega))
theorem rt_stepf (n : Nat) (hn : n ≤ 64) (f : SupF) (v : AV) (os : List AObj) (q i k kd a b : Nat) (hi : i + q ≤ n) (hk : k < q) (hkd : kd ≠ 0) (hy : (rL n f).getD (i + k) (dfl SupK) = ((kd : Int), (a : Int), (b : Int))) (ih : Goods (gRT n f v os) (rt1 n f q i (k + 1) false)) : Goods (gRT n f v os) (rt1 n f q i k true) := by
  have hl := rL_len n f
  refine Goods.to 2000 [.b true, .s 37 (some false) true true, .l, .stop] mixed (ih) (by kernel_rfl) ?_
  show Yes _
  repeat' apply And.intro
  all_goals try (have e : (IntKind.i64.wrap ((i : Int) + (k : Int))).toNat + 0 = i + k := by rw [w64 (by omega) (by omega)]; omega)
  all_goals try (rw [e, hy]; simp; omega)
  (all_goals first | rfl | assumption | trivial | omega | (simp [-List.getD_eq_getElem?_getD, hy] <;> omega) | (simp (disch := omega) only [w64, wu64] <;> omega) | (simp (disch := omega) [-List.getD_eq_getElem?_getD, List.getD_cons_zero, List.getD_cons_succ, kCast_self, dfl_pair, dfl_int, w64, wu64, hy] <;> omega) | (rw [Bool.eq_iff_iff]; simp (disch := omega) [-List.getD_eq_getElem?_getD, List.getD_cons_zero, List.getD_cons_succ, kCast_self, dfl_pair, dfl_int, w64, wu64, hy] <;> omega) | (simp_all [-List.getD_eq_getElem?_getD] <;> omega))
end Go.Proofs.YtdnhnglhdabkgaaDoor.E
