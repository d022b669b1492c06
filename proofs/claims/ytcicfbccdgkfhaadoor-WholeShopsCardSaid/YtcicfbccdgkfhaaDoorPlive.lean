/- Package live: a thing's word, and what a word says. -/
import Derived.Test.YtcicfbccdgkfhaaDoorParenc
import Derived.Test.YtcicfbccdgkfhaaDoorPword
import Derived.Test.YtcicfbccdgkfhaaDoorPmem
namespace Go.Proofs.YtcicfbccdgkfhaaDoor.E
set_option linter.unusedSimpArgs false
set_option linter.unusedVariables false
open Go
set_option maxRecDepth 100000

abbrev ThT := Int × Int
def thA (x : ThT) : AV := .agg [.int .i64 x.1, .int .i64 x.2]
/-- A thing that there can be. -/
def thOk (c : Cnf) (x : ThT) : Prop := (0 ≤ x.1 ∧ x.1 < c.cl.length ∧ x.2 = 0) ∨ (x.1 = -1 ∧ 1 ≤ x.2 ∧ x.2 ≤ c.s)
instance (c : Cnf) (x : ThT) : Decidable (thOk c x) := by unfold thOk; infer_instance
def sizeN (c : Cnf) (x : ThT) : Int := if 0 ≤ x.1 ∧ x.1 < c.cl.length ∧ x.2 = 0 then c.cl.getD x.1.toNat 0 else if x.1 = -1 ∧ 1 ≤ x.2 ∧ x.2 ≤ c.s then 1024 * x.2 else 0
theorem okL_pos : ∀ {l : List Int} {last : Int}, 0 ≤ last → okL last l → ∀ i, i < l.length → 0 < l.getD i 0
  | [], _, _, _, i, hi => by simp at hi
  | n :: l, last, h0, h, 0, _ => by have := h.1.1; simp; omega
  | n :: l, last, h0, h, i + 1, hi => by
    have h1 := h.1.1
    have := okL_pos (l := l) (last := n) (by omega) h.2 i (by simpa using hi)
    simpa [List.getD] using this
theorem size_ne (c : Cnf) (h : c.Ok) (x : ThT) : sizeN c x ≠ 0 ↔ thOk c x := by
  unfold sizeN thOk
  by_cases h1 : 0 ≤ x.1 ∧ x.1 < c.cl.length ∧ x.2 = 0
  · rw [if_pos h1]
    have := okL_pos (Int.le_refl 0) h.ok x.1.toNat (by omega)
    exact ⟨fun _ => .inl h1, fun _ => by omega⟩
  · rw [if_neg h1]
    by_cases h2 : x.1 = -1 ∧ 1 ≤ x.2 ∧ x.2 ≤ c.s
    · rw [if_pos h2]; exact ⟨fun _ => .inr h2, fun _ => by omega⟩
    · rw [if_neg h2]; exact ⟨fun h => absurd rfl h, fun h => by rcases h with h | h <;> contradiction⟩
theorem th_size (own : Bool) (c : Cnf) (h : c.Ok) (p q : Int) (hq : -9223372036854775808 ≤ q ∧ q ≤ 9223372036854775807) : Tri En 66 [thA (p, q), cnfA 0 c] [.tab own (.int .i64) c.cl] (.int .i64 (sizeN c (p, q))) [.tab own (.int .i64) c.cl] := by
  have l1 := h.l1
  have s1 := h.s1
  unfold sizeN
  refine Tri.of Tryd.func66 rfl Tryd.call66 rfl ?_
  by_cases h0 : 0 ≤ p
  · by_cases h1 : p < c.cl.length
    · by_cases h2 : q = 0
      · rw [if_pos ⟨h0, h1, h2⟩]
        refine Goods.fin 2000 [.s 8 (some true) true true, .s 15 (some true) true true, .b true] mixed Tryd.func66 ?_
        show Yes _
        repeat' apply And.intro
        (all_goals first | rfl | assumption | trivial | omega | (simp [-List.getD_eq_getElem?_getD] <;> omega) | (simp (disch := omega) only [w64, wu64] <;> omega) | (simp (disch := omega) [-List.getD_eq_getElem?_getD, List.getD_cons_zero, List.getD_cons_succ, kCast_self, dfl_pair, dfl_int, w64, wu64] <;> omega) | (rw [Bool.eq_iff_iff]; simp (disch := omega) [-List.getD_eq_getElem?_getD, List.getD_cons_zero, List.getD_cons_succ, kCast_self, dfl_pair, dfl_int, w64, wu64] <;> omega) | (simp_all [-List.getD_eq_getElem?_getD] <;> omega))
      · rw [if_neg (fun hh => h2 hh.2.2), if_neg (by simp only; omega)]
        refine Goods.fin 2000 [.s 8 (some true) true true, .s 15 (some true) true true, .b false, .s 31 (some false) true true] mixed Tryd.func66 ?_
        show Yes _
        repeat' apply And.intro
        (all_goals first | rfl | assumption | trivial | omega | (simp [-List.getD_eq_getElem?_getD] <;> omega) | (simp (disch := omega) only [w64, wu64] <;> omega) | (simp (disch := omega) [-List.getD_eq_getElem?_getD, List.getD_cons_zero, List.getD_cons_succ, kCast_self, dfl_pair, dfl_int, w64, wu64] <;> omega) | (rw [Bool.eq_iff_iff]; simp (disch := omega) [-List.getD_eq_getElem?_getD, List.getD_cons_zero, List.getD_cons_succ, kCast_self, dfl_pair, dfl_int, w64, wu64] <;> omega) | (simp_all [-List.getD_eq_getElem?_getD] <;> omega))
    · rw [if_neg (fun hh => h1 hh.2.1), if_neg (by simp only; omega)]
      refine Goods.fin 2000 [.s 8 (some true) true true, .s 15 (some false) true true, .s 31 (some false) true true] mixed Tryd.func66 ?_
      show Yes _
      repeat' apply And.intro
      (all_goals first | rfl | assumption | trivial | omega | (simp [-List.getD_eq_getElem?_getD] <;> omega) | (simp (disch := omega) only [w64, wu64] <;> omega) | (simp (disch := omega) [-List.getD_eq_getElem?_getD, List.getD_cons_zero, List.getD_cons_succ, kCast_self, dfl_pair, dfl_int, w64, wu64] <;> omega) | (rw [Bool.eq_iff_iff]; simp (disch := omega) [-List.getD_eq_getElem?_getD, List.getD_cons_zero, List.getD_cons_succ, kCast_self, dfl_pair, dfl_int, w64, wu64] <;> omega) | (simp_all [-List.getD_eq_getElem?_getD] <;> omega))
  · rw [if_neg (fun hh => h0 hh.1)]
    by_cases h1 : p = -1
    · by_cases h2 : 1 ≤ q
      · by_cases h3 : q ≤ c.s
        · rw [if_pos ⟨h1, h2, h3⟩]
          refine Goods.fin 2000 [.s 8 (some false) true true, .s 31 (some true) true true, .s 35 (some true) true true, .b true] mixed Tryd.func66 ?_
          show Yes _
          repeat' apply And.intro
          (all_goals first | rfl | assumption | trivial | omega | (simp [-List.getD_eq_getElem?_getD] <;> omega) | (simp (disch := omega) only [w64, wu64] <;> omega) | (simp (disch := omega) [-List.getD_eq_getElem?_getD, List.getD_cons_zero, List.getD_cons_succ, kCast_self, dfl_pair, dfl_int, w64, wu64] <;> omega) | (rw [Bool.eq_iff_iff]; simp (disch := omega) [-List.getD_eq_getElem?_getD, List.getD_cons_zero, List.getD_cons_succ, kCast_self, dfl_pair, dfl_int, w64, wu64] <;> omega) | (simp_all [-List.getD_eq_getElem?_getD] <;> omega))
        · rw [if_neg (fun hh => h3 hh.2.2)]
          refine Goods.fin 2000 [.s 8 (some false) true true, .s 31 (some true) true true, .s 35 (some true) true true, .b false] mixed Tryd.func66 ?_
          show Yes _
          repeat' apply And.intro
          (all_goals first | rfl | assumption | trivial | omega | (simp [-List.getD_eq_getElem?_getD] <;> omega) | (simp (disch := omega) only [w64, wu64] <;> omega) | (simp (disch := omega) [-List.getD_eq_getElem?_getD, List.getD_cons_zero, List.getD_cons_succ, kCast_self, dfl_pair, dfl_int, w64, wu64] <;> omega) | (rw [Bool.eq_iff_iff]; simp (disch := omega) [-List.getD_eq_getElem?_getD, List.getD_cons_zero, List.getD_cons_succ, kCast_self, dfl_pair, dfl_int, w64, wu64] <;> omega) | (simp_all [-List.getD_eq_getElem?_getD] <;> omega))
      · rw [if_neg (fun hh => h2 hh.2.1)]
        refine Goods.fin 2000 [.s 8 (some false) true true, .s 31 (some true) true true, .s 35 (some false) true true] mixed Tryd.func66 ?_
        show Yes _
        repeat' apply And.intro
        (all_goals first | rfl | assumption | trivial | omega | (simp [-List.getD_eq_getElem?_getD] <;> omega) | (simp (disch := omega) only [w64, wu64] <;> omega) | (simp (disch := omega) [-List.getD_eq_getElem?_getD, List.getD_cons_zero, List.getD_cons_succ, kCast_self, dfl_pair, dfl_int, w64, wu64] <;> omega) | (rw [Bool.eq_iff_iff]; simp (disch := omega) [-List.getD_eq_getElem?_getD, List.getD_cons_zero, List.getD_cons_succ, kCast_self, dfl_pair, dfl_int, w64, wu64] <;> omega) | (simp_all [-List.getD_eq_getElem?_getD] <;> omega))
    · rw [if_neg (fun hh => h1 hh.1)]
      refine Goods.fin 2000 [.s 8 (some false) true true, .s 31 (some false) true true] mixed Tryd.func66 ?_
      show Yes _
      repeat' apply And.intro
      (all_goals first | rfl | assumption | trivial | omega | (simp [-List.getD_eq_getElem?_getD] <;> omega) | (simp (disch := omega) only [w64, wu64] <;> omega) | (simp (disch := omega) [-List.getD_eq_getElem?_getD, List.getD_cons_zero, List.getD_cons_succ, kCast_self, dfl_pair, dfl_int, w64, wu64] <;> omega) | (rw [Bool.eq_iff_iff]; simp (disch := omega) [-List.getD_eq_getElem?_getD, List.getD_cons_zero, List.getD_cons_succ, kCast_self, dfl_pair, dfl_int, w64, wu64] <;> omega) | (simp_all [-List.getD_eq_getElem?_getD] <;> omega))
theorem live_size (own : Bool) (c : Cnf) (h : c.Small) : Tri En 56 [cnfA 0 c] [.tab own (.int .i64) c.cl] (.int .i64 (64 * c.s)) [.tab own (.int .i64) c.cl] := by
  have s0 := h.s0
  have s1 := h.s1
  refine Tri.of Tryd.func56 rfl Tryd.call56 rfl ?_
  refine Goods.fin 2000 [] mixed Tryd.func56 ?_
  show Yes _
  repeat' apply And.intro
  (all_goals first | rfl | assumption | trivial | omega | (simp [-List.getD_eq_getElem?_getD] <;> omega) | (simp (disch := omega) only [w64, wu64] <;> omega) | (simp (disch := omega) [-List.getD_eq_getElem?_getD, List.getD_cons_zero, List.getD_cons_succ, kCast_self, dfl_pair, dfl_int, w64, wu64] <;> omega) | (rw [Bool.eq_iff_iff]; simp (disch := omega) [-List.getD_eq_getElem?_getD, List.getD_cons_zero, List.getD_cons_succ, kCast_self, dfl_pair, dfl_int, w64, wu64] <;> omega) | (simp_all [-List.getD_eq_getElem?_getD] <;> omega))
end Go.Proofs.YtcicfbccdgkfhaaDoor.E
