/- Packages arena and chandleryref05: how many blocks a superblock of a class has, and all these. -/
import Derived.Test.YthlpfafmiakfdaaDoorPmay
import Derived.Test.YthlpfafmiakfdaaDoorPmaskb
namespace Go.Proofs.YthlpfafmiakfdaaDoor.E
set_option linter.unusedSimpArgs false
set_option linter.unusedVariables false
open Go
set_option maxRecDepth 100000

theorem okL_at : ∀ {l : List Int} {last : Int}, 0 ≤ last → okL last l → ∀ i, i < l.length → 16 ≤ l.getD i 0 ∧ l.getD i 0 ≤ 512 ∧ l.getD i 0 % 16 = 0
  | [], _, _, _, i, hi => by simp at hi
  | n :: l, last, h0, h, 0, _ => by
    have := h.1
    unfold okN at this
    simp only [List.getD_cons_zero]; omega
  | n :: l, last, h0, h, i + 1, hi => by
    have h1 := h.1.1
    have := okL_at (l := l) (last := n) (by omega) h.2 i (by simpa using hi)
    simpa [List.getD] using this
/-- Is there such a class? How many blocks a superblock of it has. -/
def clsP (c : Cnf) (k : Int) : Prop := 0 ≤ k ∧ k < c.cl.length
def capN (c : Cnf) (k : Int) : Nat := if 0 ≤ k ∧ k < c.cl.length then 1024 / (c.cl.getD k.toNat 0).toNat else 0
theorem cap_eq {c : Cnf} (h : c.Ok) {k : Nat} (hk : k < c.cl.length) : ∃ z : Nat, c.cl.getD k 0 = z ∧ 16 ≤ z ∧ z ≤ 512 ∧ z % 16 = 0 ∧ capN c k = 1024 / z ∧ 2 ≤ 1024 / z ∧ 1024 / z ≤ 64 := by
  obtain ⟨h1, h2, h3⟩ := okL_at (Int.le_refl 0) h.ok k hk
  obtain ⟨z, hz⟩ : ∃ z : Nat, c.cl.getD k 0 = z := ⟨(c.cl.getD k 0).toNat, by omega⟩
  rw [hz] at h1 h2 h3
  refine ⟨z, hz, by omega, by omega, by omega, ?_, ?_, ?_⟩
  · unfold capN; rw [if_pos (by omega), Int.toNat_natCast, hz, Int.toNat_natCast]
  · exact (Nat.le_div_iff_mul_le (by omega)).2 (by omega)
  · exact Nat.div_le_of_le_mul (by omega)
theorem cap_le {c : Cnf} (h : c.Ok) (k : Int) : capN c k ≤ 64 := by
  by_cases hk : 0 ≤ k ∧ k < c.cl.length
  · obtain ⟨k, rfl⟩ : ∃ i : Nat, k = i := ⟨k.toNat, by omega⟩
    obtain ⟨z, _, _, _, _, e, _, h2⟩ := cap_eq h (k := k) (by omega)
    omega
  · unfold capN; rw [if_neg hk]; omega
theorem ais_yes (own : Bool) (c : Cnf) (hl : c.cl.length ≤ 16) (k : Int) (hk : 0 ≤ k ∧ k < c.cl.length) : Tri En 47 [cnfA 0 c, .int .i64 k] [.tab own (.int .i64) c.cl] (.bl true) [.tab own (.int .i64) c.cl] := by
  refine Tri.of Tryd.func47 rfl Tryd.call47 rfl ?_
  refine Goods.fin 2000 [.s 6 (some true) true true, .s 12 (some true) true true] mixed Tryd.func47 ?_
  show Yes _
  repeat' apply And.intro
  (all_goals first | rfl | assumption | trivial | omega | (simp [-List.getD_eq_getElem?_getD] <;> omega) | (simp (disch := omega) only [w64, wu64] <;> omega) | (simp (disch := omega) [-List.getD_eq_getElem?_getD, List.getD_cons_zero, List.getD_cons_succ, kCast_self, dfl_pair, dfl_int, w64, wu64] <;> omega) | (rw [Bool.eq_iff_iff]; simp (disch := omega) [-List.getD_eq_getElem?_getD, List.getD_cons_zero, List.getD_cons_succ, kCast_self, dfl_pair, dfl_int, w64, wu64] <;> omega) | (simp_all [-List.getD_eq_getElem?_getD] <;> omega))
theorem ais_no (own : Bool) (c : Cnf) (hl : c.cl.length ≤ 16) (k : Int) (hk : ¬ (0 ≤ k ∧ k < c.cl.length)) : Tri En 47 [cnfA 0 c, .int .i64 k] [.tab own (.int .i64) c.cl] (.bl false) [.tab own (.int .i64) c.cl] := by
  refine Tri.of Tryd.func47 rfl Tryd.call47 rfl ?_
  by_cases h0 : 0 ≤ k
  · refine Goods.fin 2000 [.s 6 (some true) true true, .s 12 (some false) true true] mixed Tryd.func47 ?_
    show Yes _
    repeat' apply And.intro
    (all_goals first | rfl | assumption | trivial | omega | (simp [-List.getD_eq_getElem?_getD] <;> omega) | (simp (disch := omega) only [w64, wu64] <;> omega) | (simp (disch := omega) [-List.getD_eq_getElem?_getD, List.getD_cons_zero, List.getD_cons_succ, kCast_self, dfl_pair, dfl_int, w64, wu64] <;> omega) | (rw [Bool.eq_iff_iff]; simp (disch := omega) [-List.getD_eq_getElem?_getD, List.getD_cons_zero, List.getD_cons_succ, kCast_self, dfl_pair, dfl_int, w64, wu64] <;> omega) | (simp_all [-List.getD_eq_getElem?_getD] <;> omega))
  · refine Goods.fin 2000 [.s 6 (some false) true true] mixed Tryd.func47 ?_
    show Yes _
    repeat' apply And.intro
    (all_goals first | rfl | assumption | trivial | omega | (simp [-List.getD_eq_getElem?_getD] <;> omega) | (simp (disch := omega) only [w64, wu64] <;> omega) | (simp (disch := omega) [-List.getD_eq_getElem?_getD, List.getD_cons_zero, List.getD_cons_succ, kCast_self, dfl_pair, dfl_int, w64, wu64] <;> omega) | (rw [Bool.eq_iff_iff]; simp (disch := omega) [-List.getD_eq_getElem?_getD, List.getD_cons_zero, List.getD_cons_succ, kCast_self, dfl_pair, dfl_int, w64, wu64] <;> omega) | (simp_all [-List.getD_eq_getElem?_getD] <;> omega))
theorem cap_tri (own : Bool) (c : Cnf) (h : c.Ok) (k : Int) : Tri En 41 [cnfA 0 c, .int .i64 k] [.tab own (.int .i64) c.cl] (.int .i64 (capN c k)) [.tab own (.int .i64) c.cl] := by
  have l1 := h.l1
  refine Tri.of Tryd.func41 rfl Tryd.call41 rfl ?_
  by_cases hk : 0 ≤ k ∧ k < c.cl.length
  · have h1 := ais_yes own c l1 k hk
    obtain ⟨k, rfl⟩ : ∃ i : Nat, k = i := ⟨k.toNat, by omega⟩
    obtain ⟨z, z1, z2, z3, z4, z5, z6, z7⟩ := cap_eq h (k := k) (by omega)
    rw [z5]
    have e : IntKind.i64.wrap (Int.tdiv 1024 (z : Int)) = ((1024 / z : Nat) : Int) := by
      rw [show Int.tdiv 1024 (z : Int) = ((1024 / z : Nat) : Int) by rw [Int.tdiv_eq_ediv_of_nonneg (by omega)]; rfl]
      exact w64 (by omega) (by omega)
    refine Goods.fin 2000 [.c (.of h1)] mixed Tryd.func41 ?_
    show Yes _
    repeat' apply And.intro
    (all_goals first | rfl | assumption | trivial | omega | (simp [-List.getD_eq_getElem?_getD, z1, e] <;> omega) | (simp (disch := omega) only [w64, wu64] <;> omega) | (simp (disch := omega) [-List.getD_eq_getElem?_getD, List.getD_cons_zero, List.getD_cons_succ, kCast_self, dfl_pair, dfl_int, w64, wu64, z1, e] <;> omega) | (rw [Bool.eq_iff_iff]; simp (disch := omega) [-List.getD_eq_getElem?_getD, List.getD_cons_zero, List.getD_cons_succ, kCast_self, dfl_pair, dfl_int, w64, wu64, z1, e] <;> omega) | (simp_all [-List.getD_eq_getElem?_getD] <;> omega))
  · have h1 := ais_no own c l1 k hk
    unfold capN; rw [if_neg hk]
    refine Goods.fin 2000 [.c (.of h1)] mixed Tryd.func41 ?_
    show Yes _
    repeat' apply And.intro
    (all_goals first | rfl | assumption | trivial | omega | (simp [-List.getD_eq_getElem?_getD] <;> omega) | (simp (disch := omega) only [w64, wu64] <;> omega) | (simp (disch := omega) [-List.getD_eq_getElem?_getD, List.getD_cons_zero, List.getD_cons_succ, kCast_self, dfl_pair, dfl_int, w64, wu64] <;> omega) | (rw [Bool.eq_iff_iff]; simp (disch := omega) [-List.getD_eq_getElem?_getD, List.getD_cons_zero, List.getD_cons_succ, kCast_self, dfl_pair, dfl_int, w64, wu64] <;> omega) | (simp_all [-List.getD_eq_getElem?_getD] <;> omega))
noncomputable abbrev gRcap (own : Bool) (c : Cnf) (n : Nat) : Frm := ⟨En, 44, Tryd.f44.ntmps, [.tab own (.int .i64) c.cl], .int .i64 n, [.tab own (.int .i64) c.cl]⟩
def cnfD (c : Cnf) : AObj := .cells [.int .i64 c.w, .int .i64 c.s, .int .i64 c.b, .int .i64 c.t, .slice 0 0 c.cl.length]
theorem rcap_0 (own : Bool) (c : Cnf) (hl : c.cl.length ≤ 16) (k : Nat) (hk : k < c.cl.length) (z : Nat) (hz : c.cl.getD k 0 = z) (z2 : 16 ≤ z) (z3 : z ≤ 512) : ∀ (j n : Nat), n + j = 1024 / z → Goods (gRcap own c (1024 / z)) ⟨.none, lp Tryd.f44 0, [(1, .int .i64 k), (2, .ptr 1 0 0), (5, .int .i64 n), (6, .int .i64 ((n + 1) * z : Nat))], hp [.tab own (.int .i64) c.cl, cnfD c]⟩
  | 0, n, hn => by
    have e : ¬ (n + 1) * z ≤ 1024 := fun h => by
      have := (Nat.le_div_iff_mul_le (by omega)).2 h
      omega
    obtain rfl : n = 1024 / z := by omega
    generalize (1024 / z + 1) * z = y at *
    refine Goods.fin 2000 [.b false] mixed Tryd.func44 ?_
    show Yes _
    repeat' apply And.intro
    (all_goals first | rfl | assumption | trivial | omega | (simp [-List.getD_eq_getElem?_getD] <;> omega) | (simp (disch := omega) only [w64, wu64] <;> omega) | (simp (disch := omega) [-List.getD_eq_getElem?_getD, List.getD_cons_zero, List.getD_cons_succ, kCast_self, dfl_pair, dfl_int, w64, wu64] <;> omega) | (rw [Bool.eq_iff_iff]; simp (disch := omega) [-List.getD_eq_getElem?_getD, List.getD_cons_zero, List.getD_cons_succ, kCast_self, dfl_pair, dfl_int, w64, wu64] <;> omega) | (simp_all [-List.getD_eq_getElem?_getD] <;> omega))
  | j + 1, n, hn => by
    have ih := rcap_0 own c hl k hk z hz z2 z3 j (n + 1) (by omega)
    have e : (n + 1) * z ≤ 1024 := (Nat.le_div_iff_mul_le (by omega)).1 (by omega)
    have e2 : (n + 1 + 1) * z = (n + 1) * z + z := Nat.succ_mul ..
    have e3 : n ≤ 64 := by
      have : 1024 / z ≤ 64 := Nat.div_le_of_le_mul (by omega)
      omega
    rw [e2] at ih
    generalize (n + 1) * z = y at *
    refine Goods.to 2000 [.b true, .l, .stop] mixed (ih) (by kernel_rfl) ?_
    show Yes _
    repeat' apply And.intro
    (all_goals first | rfl | assumption | trivial | omega | (simp [-List.getD_eq_getElem?_getD, hz] <;> omega) | (simp (disch := omega) only [w64, wu64] <;> omega) | (simp (disch := omega) [-List.getD_eq_getElem?_getD, List.getD_cons_zero, List.getD_cons_succ, kCast_self, dfl_pair, dfl_int, w64, wu64, hz] <;> omega) | (rw [Bool.eq_iff_iff]; simp (disch := omega) [-List.getD_eq_getElem?_getD, List.getD_cons_zero, List.getD_cons_succ, kCast_self, dfl_pair, dfl_int, w64, wu64, hz] <;> omega) | (simp_all [-List.getD_eq_getElem?_getD] <;> omega))
theorem rcap_tri (own : Bool) (c : Cnf) (h : c.Ok) (k : Int) : Tri En 44 [cnfA 0 c, .int .i64 k] [.tab own (.int .i64) c.cl] (.int .i64 (capN c k)) [.tab own (.int .i64) c.cl] := by
  have l1 := h.l1
  refine Tri.of Tryd.func44 rfl Tryd.call44 rfl ?_
  by_cases hk : 0 ≤ k ∧ k < c.cl.length
  · obtain ⟨k, rfl⟩ : ∃ i : Nat, k = i := ⟨k.toNat, by omega⟩
    obtain ⟨z, z1, z2, z3, z4, z5, z6, z7⟩ := cap_eq h (k := k) (by omega)
    rw [z5]
    have ih := rcap_0 own c l1 k (by omega) z z1 z2 z3 (1024 / z) 0 (by omega)
    rw [Nat.zero_add, Nat.one_mul] at ih
    refine Goods.to 2000 [.s 8 (some false) true true, .s 14 (some false) true true, .l, .stop] mixed (ih) (by kernel_rfl) ?_
    show Yes _
    repeat' apply And.intro
    (all_goals first | rfl | assumption | trivial | omega | (simp [-List.getD_eq_getElem?_getD, z1] <;> omega) | (simp (disch := omega) only [w64, wu64] <;> omega) | (simp (disch := omega) [-List.getD_eq_getElem?_getD, List.getD_cons_zero, List.getD_cons_succ, kCast_self, dfl_pair, dfl_int, w64, wu64, z1] <;> omega) | (rw [Bool.eq_iff_iff]; simp (disch := omega) [-List.getD_eq_getElem?_getD, List.getD_cons_zero, List.getD_cons_succ, kCast_self, dfl_pair, dfl_int, w64, wu64, z1] <;> omega) | (simp_all [-List.getD_eq_getElem?_getD] <;> omega))
  · unfold capN; rw [if_neg hk]
    by_cases h0 : k < 0
    · refine Goods.fin 2000 [.s 8 (some true) true true] mixed Tryd.func44 ?_
      show Yes _
      repeat' apply And.intro
      (all_goals first | rfl | assumption | trivial | omega | (simp [-List.getD_eq_getElem?_getD] <;> omega) | (simp (disch := omega) only [w64, wu64] <;> omega) | (simp (disch := omega) [-List.getD_eq_getElem?_getD, List.getD_cons_zero, List.getD_cons_succ, kCast_self, dfl_pair, dfl_int, w64, wu64] <;> omega) | (rw [Bool.eq_iff_iff]; simp (disch := omega) [-List.getD_eq_getElem?_getD, List.getD_cons_zero, List.getD_cons_succ, kCast_self, dfl_pair, dfl_int, w64, wu64] <;> omega) | (simp_all [-List.getD_eq_getElem?_getD] <;> omega))
    · refine Goods.fin 2000 [.s 8 (some false) true true, .s 14 (some true) true true] mixed Tryd.func44 ?_
      show Yes _
      repeat' apply And.intro
      (all_goals first | rfl | assumption | trivial | omega | (simp [-List.getD_eq_getElem?_getD] <;> omega) | (simp (disch := omega) only [w64, wu64] <;> omega) | (simp (disch := omega) [-List.getD_eq_getElem?_getD, List.getD_cons_zero, List.getD_cons_succ, kCast_self, dfl_pair, dfl_int, w64, wu64] <;> omega) | (rw [Bool.eq_iff_iff]; simp (disch := omega) [-List.getD_eq_getElem?_getD, List.getD_cons_zero, List.getD_cons_succ, kCast_self, dfl_pair, dfl_int, w64, wu64] <;> omega) | (simp_all [-List.getD_eq_getElem?_getD] <;> omega))
end Go.Proofs.YthlpfafmiakfdaaDoor.E
