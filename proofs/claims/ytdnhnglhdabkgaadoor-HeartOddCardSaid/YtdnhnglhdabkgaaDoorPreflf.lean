/- The document's superblocks: Take concluded. -/
import Derived.Test.YtdnhnglhdabkgaaDoorPrefle
namespace Go.Proofs.YtdnhnglhdabkgaaDoor.E
set_option linter.unusedSimpArgs false
set_option linter.unusedVariables false
open Go
set_option maxRecDepth 100000

theorem rt_put (n : Nat) (hn : n ≤ 64) (f : SupF) (q i : Nat) (hi : i + q ≤ n) : ∀ (j k : Nat), k + j = q → 1 ≤ k → Goods (gRT n f (.tuple [.slice 1 0 n, opA (i + 1) 0]) [.gone, rlT n (runF f i q q)]) ⟨.none, lp Tryd.f35 2, [(1, .int .i64 q), (5, .ptr 1 0 0), (6, .int .i64 i), (9, .slice 2 0 n), (10, .int .i64 k)], hp [rlT n f, .cells [.int .u64 0, .int .u64 0], rlT n (runF f i q k)]⟩
  | 0, k, hk, h1 => by
    obtain rfl : k = q := by omega
    have hl := rL_len n (runF f i k k)
    refine Goods.fin 2000 [.b false] mixed Tryd.func35 ?_
    show Yes _
    repeat' apply And.intro
    (all_goals first | rfl | assumption | trivial | omega | (simp [-List.getD_eq_getElem?_getD] <;> omega) | (simp (disch := omega) only [w64, wu64] <;> omega) | (simp (disch := omega) [-List.getD_eq_getElem?_getD, List.getD_cons_zero, List.getD_cons_succ, kCast_self, dfl_pair, dfl_int, w64, wu64] <;> omega) | (rw [Bool.eq_iff_iff]; simp (disch := omega) [-List.getD_eq_getElem?_getD, List.getD_cons_zero, List.getD_cons_succ, kCast_self, dfl_pair, dfl_int, w64, wu64] <;> omega) | (simp_all [-List.getD_eq_getElem?_getD] <;> omega))
  | j + 1, k, hk, h1 => by
    have ih := rt_put n hn f q i hi j (k + 1) (by omega) (by omega)
    have hl := rL_len n (runF f i q k)
    have hw := rwith_tri n hn (runF f i q k) (i + k) (by omega) (3, 0, 0)
    rw [runF_step f i q k h1] at hw
    refine Goods.to 2000 [.b true, .c (.of hw), .l, .stop] mixed (ih) (by kernel_rfl) ?_
    show Yes _
    repeat' apply And.intro
    (all_goals first | rfl | assumption | trivial | omega | (simp [-List.getD_eq_getElem?_getD] <;> omega) | (simp (disch := omega) only [w64, wu64] <;> omega) | (simp (disch := omega) [-List.getD_eq_getElem?_getD, List.getD_cons_zero, List.getD_cons_succ, kCast_self, dfl_pair, dfl_int, w64, wu64] <;> omega) | (rw [Bool.eq_iff_iff]; simp (disch := omega) [-List.getD_eq_getElem?_getD, List.getD_cons_zero, List.getD_cons_succ, kCast_self, dfl_pair, dfl_int, w64, wu64] <;> omega) | (simp_all [-List.getD_eq_getElem?_getD] <;> omega))
theorem rt_yes (n : Nat) (hn : n ≤ 64) (f : SupF) (q i : Nat) (hq : 1 ≤ q) (hi : i + q ≤ n) : Goods (gRT n f (.tuple [.slice 1 0 n, opA (i + 1) 0]) [.gone, rlT n (runF f i q q)]) (rt1 n f q i q true) := by
  have ih := rt_put n hn f q i hi (q - 1) 1 (by omega) (by omega)
  have hl := rL_len n f
  have hw := rwith_tri n hn f i (by omega) (2, q, 0)
  rw [runF_1] at hw
  refine Goods.to 2000 [.b false, .c (.of hw), .l, .stop] mixed (ih) (by kernel_rfl) ?_
  show Yes _
  repeat' apply And.intro
  (all_goals first | rfl | assumption | trivial | omega | (simp [-List.getD_eq_getElem?_getD] <;> omega) | (simp (disch := omega) only [w64, wu64] <;> omega) | (simp (disch := omega) [-List.getD_eq_getElem?_getD, List.getD_cons_zero, List.getD_cons_succ, kCast_self, dfl_pair, dfl_int, w64, wu64] <;> omega) | (rw [Bool.eq_iff_iff]; simp (disch := omega) [-List.getD_eq_getElem?_getD, List.getD_cons_zero, List.getD_cons_succ, kCast_self, dfl_pair, dfl_int, w64, wu64] <;> omega) | (simp_all [-List.getD_eq_getElem?_getD] <;> omega))
theorem rt_row (n : Nat) (hn : n ≤ 64) (f : SupF) (v : AV) (os : List AObj) (q i : Nat) (hi : i + q ≤ n) (hr : ∀ k, k < q → (f (i + k)).1 = 0) (hf : Goods (gRT n f v os) (rt1 n f q i q true)) : ∀ (j k : Nat), k + j = q → Goods (gRT n f v os) (rt1 n f q i k true)
  | 0, k, hk => by
    obtain rfl : k = q := by omega
    exact hf
  | j + 1, k, hk => by
    have ih := rt_row n hn f v os q i hi hr hf j (k + 1) (by omega)
    obtain ⟨⟨kd, a, m⟩, e⟩ : ∃ x, f (i + k) = x := ⟨_, rfl⟩
    have h := hr k (by omega)
    rw [e] at h
    simp only at h
    subst h
    exact rt_step n hn f v os q i k a m hi (by omega) (rL_at (by omega) e) ih
theorem rt_norow (n : Nat) (hn : n ≤ 64) (f : SupF) (v : AV) (os : List AObj) (q i : Nat) (hi : i + q ≤ n) (nx : Goods (gRT n f v os) (rt0 n f q (i + 1))) : ∀ (j k : Nat), k + j = q → (∃ z, k ≤ z ∧ z < q ∧ (f (i + z)).1 ≠ 0) → Goods (gRT n f v os) (rt1 n f q i k true)
  | 0, k, hk, h => by
    obtain ⟨z, h1, h2, _⟩ := h
    omega
  | j + 1, k, hk, h => by
    obtain ⟨⟨kd, a, m⟩, e⟩ : ∃ x, f (i + k) = x := ⟨_, rfl⟩
    by_cases h0 : kd = 0
    · subst h0
      refine rt_step n hn f v os q i k a m hi (by omega) (rL_at (by omega) e) (rt_norow n hn f v os q i hi nx j (k + 1) (by omega) ?_)
      obtain ⟨z, h1, h2, h3⟩ := h
      refine ⟨z, ?_, h2, h3⟩
      by_cases e2 : z = k
      · subst e2; rw [e] at h3; exact absurd rfl h3
      · omega
    · exact rt_stepf n hn f v os q i k kd a m hi (by omega) h0 (rL_at (by omega) e) (rt_ff n hn f v os q i hi nx j (k + 1) (by omega))
theorem norow {n : Nat} {f : SupF} {q i : Nat} (hi : i + q ≤ n) (h : ¬ rowP n f q i) : ∃ z, 0 ≤ z ∧ z < q ∧ (f (i + z)).1 ≠ 0 := by
  refine Classical.byContradiction fun hn => h ⟨hi, fun k hk => ?_⟩
  exact Classical.byContradiction fun h2 => hn ⟨k, Nat.zero_le _, hk, h2⟩
theorem rt_find (n : Nat) (hn : n ≤ 64) (f : SupF) (q i : Nat) (hq : 1 ≤ q) (hr : rowP n f q i) (hf : ∀ j, j < i → ¬ rowP n f q j) : ∀ (j k : Nat), k + j = i → Goods (gRT n f (.tuple [.slice 1 0 n, opA (i + 1) 0]) [.gone, rlT n (runF f i q q)]) (rt0 n f q k)
  | 0, k, hk => by
    obtain rfl : k = i := by omega
    exact rt_in n hn f _ _ q k hq hr.1 (rt_row n hn f _ _ q k hr.1 hr.2 (rt_yes n hn f q k hq hr.1) q 0 (by omega))
  | j + 1, k, hk => by
    have ih := rt_find n hn f q i hq hr hf j (k + 1) (by omega)
    have h1 := hr.1
    have hk2 : k + q ≤ n := by omega
    exact rt_in n hn f _ _ q k hq hk2 (rt_norow n hn f _ _ q k hk2 ih q 0 (by omega) (norow hk2 (hf k (by omega))))
theorem rt_none (n : Nat) (hn : n ≤ 64) (f : SupF) (q : Nat) (hq : q < 4294967296) (hf : 1 ≤ q → ∀ j, ¬ rowP n f q j) : ∀ (j k : Nat), k + j = 65 → Goods (gRT n f (oldG n) [rlT n f]) (rt0 n f q k)
  | 0, k, hk => rt_end n hn f q k hq (by omega) (by omega)
  | j + 1, k, hk => by
    by_cases h : k + q ≤ n ∧ 1 ≤ q
    · have ih := rt_none n hn f q hq hf j (k + 1) (by omega)
      exact rt_in n hn f _ _ q k h.2 h.1 (rt_norow n hn f _ _ q k h.1 ih q 0 (by omega) (norow h.1 (hf h.2 k)))
    · exact rt_end n hn f q k hq (by omega) h
theorem rtake_start (n : Nat) (f : SupF) (q : Nat) (v : AV) (os : List AObj) (ih : Goods (gRT n f v os) (rt0 n f q 0)) : Tri En 35 [.slice 0 0 n, .int .i64 q] [rlT n f] v os := by
  refine Tri.of Tryd.func35 rfl Tryd.call35 rfl ?_
  refine Goods.to 2000 [.l, .stop] mixed (ih) (by kernel_rfl) ?_
  show Yes _
  repeat' apply And.intro
  (all_goals first | rfl | assumption | trivial | omega | (simp [-List.getD_eq_getElem?_getD] <;> omega) | (simp (disch := omega) only [w64, wu64] <;> omega) | (simp (disch := omega) [-List.getD_eq_getElem?_getD, List.getD_cons_zero, List.getD_cons_succ, kCast_self, dfl_pair, dfl_int, w64, wu64] <;> omega) | (rw [Bool.eq_iff_iff]; simp (disch := omega) [-List.getD_eq_getElem?_getD, List.getD_cons_zero, List.getD_cons_succ, kCast_self, dfl_pair, dfl_int, w64, wu64] <;> omega) | (simp_all [-List.getD_eq_getElem?_getD] <;> omega))
theorem rtake_yes (n : Nat) (hn : n ≤ 64) (f : SupF) (q i : Nat) (hq : 1 ≤ q) (hr : rowP n f q i) (hf : ∀ j, j < i → ¬ rowP n f q j) : Tri En 35 [.slice 0 0 n, .int .i64 q] [rlT n f] (.tuple [.slice 1 0 n, opA (i + 1) 0]) [.gone, rlT n (runF f i q q)] :=
  rtake_start n f q _ _ (rt_find n hn f q i hq hr hf i 0 (by omega))
theorem rtake_no (n : Nat) (hn : n ≤ 64) (f : SupF) (q : Nat) (hq : q < 4294967296) (hf : 1 ≤ q → ∀ j, ¬ rowP n f q j) : Tri En 35 [.slice 0 0 n, .int .i64 q] [rlT n f] (oldG n) [rlT n f] :=
  rtake_start n f q _ _ (rt_none n hn f q hq hf 65 0 (by omega))
theorem row_cases (n : Nat) (f : SupF) (q : Nat) : (∃ i, rowP n f q i ∧ ∀ j, j < i → ¬ rowP n f q j) ∨ ∀ j, ¬ rowP n f q j := by
  have : ∀ k, (∃ i, i < k ∧ rowP n f q i ∧ ∀ j, j < i → ¬ rowP n f q j) ∨ ∀ j, j < k → ¬ rowP n f q j := fun k => by
    induction k with
    | zero => exact .inr fun j h => by omega
    | succ k ih =>
      rcases ih with ⟨i, h1, h2⟩ | h
      · exact .inl ⟨i, by omega, h2⟩
      · by_cases hk : rowP n f q k
        · exact .inl ⟨k, by omega, hk, h⟩
        · refine .inr fun j hj => ?_
          by_cases e : j = k
          · subst e; exact hk
          · exact h j (by omega)
  rcases this (n + 1) with ⟨i, h1, h2⟩ | h
  · exact .inl ⟨i, h2⟩
  · refine .inr fun j hj => ?_
    have := hj.1
    exact h j (by omega) hj
end Go.Proofs.YtdnhnglhdabkgaaDoor.E
