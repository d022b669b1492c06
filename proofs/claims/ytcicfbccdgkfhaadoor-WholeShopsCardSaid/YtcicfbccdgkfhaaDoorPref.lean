/- References: a word's three numbers. -/
import Derived.Test.YtcicfbccdgkfhaaDoorPword
namespace Go.Proofs.YtcicfbccdgkfhaaDoor.E
set_option linter.unusedSimpArgs false
set_option linter.unusedVariables false
open Go
set_option maxRecDepth 100000

/-- A number as 64 bits hold it. -/
def u64N (n : Int) : Nat := (n % 18446744073709551616).toNat
theorem u64N_eq (n : Int) : IntKind.u64.wrap n = (u64N n : Int) := by
  show n % 18446744073709551616 = _
  unfold u64N; omega
theorem u64N_nat {n : Nat} (h : n < 18446744073709551616) : u64N n = n := by unfold u64N; omega
theorem u64N_lt (n : Int) : u64N n < 18446744073709551616 := by unfold u64N; omega
/-- A reference's word. -/
def refN (wk sl tg : Nat) : Nat := putN (putN (putN 9223372036854775808 wk 0 8) sl 8 8) tg 16 32
def refI (wk sl tg : Int) : AV := .agg [.int .i64 wk, .int .i64 sl, .int .i64 tg]
theorem f0 : FldOk ((0 : Nat) : Int) ((8 : Nat) : Int) := ⟨by omega, by omega, by omega, by omega⟩
theorem f1 : FldOk ((8 : Nat) : Int) ((8 : Nat) : Int) := ⟨by omega, by omega, by omega, by omega⟩
theorem f2 : FldOk ((16 : Nat) : Int) ((32 : Nat) : Int) := ⟨by omega, by omega, by omega, by omega⟩
theorem of_yes (wk sl tg : Nat) (h0 : wk < 256) (h1 : sl < 256) (h2 : tg < 4294967296) : Tri En 12 [refI wk sl tg] [] (.int .u64 (refN wk sl tg)) [] := by
  have p0 := put_yes 9223372036854775808 wk 0 8 (by omega) f0 h0
  have p1 := put_yes _ sl 8 8 (putN_lt 9223372036854775808 wk 0 8) f1 h1
  have p2 := put_yes (putN (putN 9223372036854775808 wk 0 8) sl 8 8) tg 16 32 (putN_lt _ _ _ _) f2 h2
  refine Tri.of Tryd.func12 rfl Tryd.call12 rfl ?_
  refine Goods.fin 2000 [.l, .b true, .c (.of p0), .l, .b true, .c (.of p1), .l, .b true, .c (.of p2), .l, .b false] mixed Tryd.func12 ?_
  show Yes _
  repeat' apply And.intro
  (all_goals first | rfl | assumption | trivial | omega | (simp [-List.getD_eq_getElem?_getD] <;> omega) | (simp (disch := omega) only [w64, wu64] <;> omega) | (simp (disch := omega) [-List.getD_eq_getElem?_getD, List.getD_cons_zero, List.getD_cons_succ, kCast_self, dfl_pair, dfl_int, w64, wu64] <;> omega) | (rw [Bool.eq_iff_iff]; simp (disch := omega) [-List.getD_eq_getElem?_getD, List.getD_cons_zero, List.getD_cons_succ, kCast_self, dfl_pair, dfl_int, w64, wu64] <;> omega) | (simp_all [-List.getD_eq_getElem?_getD] <;> omega))
/-- A reference that may not be. -/
theorem of_no (wk sl tg : Int) (h0 : -9223372036854775808 ≤ wk ∧ wk ≤ 9223372036854775807) (h1 : -9223372036854775808 ≤ sl ∧ sl ≤ 9223372036854775807) (h2 : -9223372036854775808 ≤ tg ∧ tg ≤ 9223372036854775807)
    (h : ¬ ((0 ≤ wk ∧ wk < 256) ∧ (0 ≤ sl ∧ sl < 256) ∧ 0 ≤ tg ∧ tg < 4294967296)) : Tri En 12 [refI wk sl tg] [] (.int .u64 0) [] := by
  have e0 := u64N_eq wk
  have e1 := u64N_eq sl
  have e2 := u64N_eq tg
  refine Tri.of Tryd.func12 rfl Tryd.call12 rfl ?_
  by_cases c0 : 0 ≤ wk ∧ wk < 256
  · have p0 := put_yes 9223372036854775808 (u64N wk) 0 8 (by omega) f0 (by unfold u64N; show _ < 256; omega)
    by_cases c1 : 0 ≤ sl ∧ sl < 256
    · have p1 := put_yes _ (u64N sl) 8 8 (putN_lt 9223372036854775808 (u64N wk) 0 8) f1 (by unfold u64N; show _ < 256; omega)
      have p2 := put_great (putN (putN 9223372036854775808 (u64N wk) 0 8) (u64N sl) 8 8) (u64N tg) 16 32 f2 (by unfold u64N; show ¬ _ < 4294967296; omega)
      refine Goods.fin 2000 [.l, .b true, .c (.of p0), .l, .b true, .c (.of p1), .l, .b true, .c (.of p2)] mixed Tryd.func12 ?_
      show Yes _
      repeat' apply And.intro
      (all_goals first | rfl | assumption | trivial | omega | (simp [-List.getD_eq_getElem?_getD] <;> omega) | (simp (disch := omega) only [w64, wu64] <;> omega) | (simp (disch := omega) [-List.getD_eq_getElem?_getD, List.getD_cons_zero, List.getD_cons_succ, kCast_self, dfl_pair, dfl_int, w64, wu64] <;> omega) | (rw [Bool.eq_iff_iff]; simp (disch := omega) [-List.getD_eq_getElem?_getD, List.getD_cons_zero, List.getD_cons_succ, kCast_self, dfl_pair, dfl_int, w64, wu64] <;> omega) | (simp_all [-List.getD_eq_getElem?_getD] <;> omega))
    · have p1 := put_great (putN 9223372036854775808 (u64N wk) 0 8) (u64N sl) 8 8 f1 (by unfold u64N; show ¬ _ < 256; omega)
      refine Goods.fin 2000 [.l, .b true, .c (.of p0), .l, .b true, .c (.of p1)] mixed Tryd.func12 ?_
      show Yes _
      repeat' apply And.intro
      (all_goals first | rfl | assumption | trivial | omega | (simp [-List.getD_eq_getElem?_getD] <;> omega) | (simp (disch := omega) only [w64, wu64] <;> omega) | (simp (disch := omega) [-List.getD_eq_getElem?_getD, List.getD_cons_zero, List.getD_cons_succ, kCast_self, dfl_pair, dfl_int, w64, wu64] <;> omega) | (rw [Bool.eq_iff_iff]; simp (disch := omega) [-List.getD_eq_getElem?_getD, List.getD_cons_zero, List.getD_cons_succ, kCast_self, dfl_pair, dfl_int, w64, wu64] <;> omega) | (simp_all [-List.getD_eq_getElem?_getD] <;> omega))
  · have p0 := put_great 9223372036854775808 (u64N wk) 0 8 f0 (by unfold u64N; show ¬ _ < 256; omega)
    refine Goods.fin 2000 [.l, .b true, .c (.of p0)] mixed Tryd.func12 ?_
    show Yes _
    repeat' apply And.intro
    (all_goals first | rfl | assumption | trivial | omega | (simp [-List.getD_eq_getElem?_getD] <;> omega) | (simp (disch := omega) only [w64, wu64] <;> omega) | (simp (disch := omega) [-List.getD_eq_getElem?_getD, List.getD_cons_zero, List.getD_cons_succ, kCast_self, dfl_pair, dfl_int, w64, wu64] <;> omega) | (rw [Bool.eq_iff_iff]; simp (disch := omega) [-List.getD_eq_getElem?_getD, List.getD_cons_zero, List.getD_cons_succ, kCast_self, dfl_pair, dfl_int, w64, wu64] <;> omega) | (simp_all [-List.getD_eq_getElem?_getD] <;> omega))
/-- What a word says, if it is a reference's. -/
theorem to_yes (w : Nat) (hw : w < 18446744073709551616) (h : refN (getN w 0 8) (getN w 8 8) (getN w 16 32) = w) : Tri En 15 [.int .u64 w] [] (.tuple [refI (getN w 0 8) (getN w 8 8) (getN w 16 32), .bl true]) [] := by
  have g0 := get_yes w 0 8 hw f0
  have g1 := get_yes w 8 8 hw f1
  have g2 := get_yes w 16 32 hw f2
  have l0 : getN w 0 8 < 256 := getN_lt w 0 (b := 8)
  have l1 : getN w 8 8 < 256 := getN_lt w 8 (b := 8)
  have l2 : getN w 16 32 < 4294967296 := getN_lt w 16 (b := 32)
  have ho := of_yes _ _ _ l0 l1 l2
  rw [h] at ho
  refine Tri.of Tryd.func15 rfl Tryd.call15 rfl ?_
  refine Goods.fin 2000 [.k 8 (.of g0), .k 13 (.of g1), .k 18 (.of g2), .k 22 (.of ho), .b false] mixed Tryd.func15 ?_
  show Yes _
  repeat' apply And.intro
  (all_goals first | rfl | assumption | trivial | omega | (simp [-List.getD_eq_getElem?_getD] <;> omega) | (simp (disch := omega) only [w64, wu64] <;> omega) | (simp (disch := omega) [-List.getD_eq_getElem?_getD, List.getD_cons_zero, List.getD_cons_succ, kCast_self, dfl_pair, dfl_int, w64, wu64] <;> omega) | (rw [Bool.eq_iff_iff]; simp (disch := omega) [-List.getD_eq_getElem?_getD, List.getD_cons_zero, List.getD_cons_succ, kCast_self, dfl_pair, dfl_int, w64, wu64] <;> omega) | (simp_all [-List.getD_eq_getElem?_getD] <;> omega))
theorem to_no (w : Nat) (hw : w < 18446744073709551616) (h : refN (getN w 0 8) (getN w 8 8) (getN w 16 32) ≠ w) : Tri En 15 [.int .u64 w] [] (.tuple [refI 0 0 0, .bl false]) [] := by
  have g0 := get_yes w 0 8 hw f0
  have g1 := get_yes w 8 8 hw f1
  have g2 := get_yes w 16 32 hw f2
  have l0 : getN w 0 8 < 256 := getN_lt w 0 (b := 8)
  have l1 : getN w 8 8 < 256 := getN_lt w 8 (b := 8)
  have l2 : getN w 16 32 < 4294967296 := getN_lt w 16 (b := 32)
  have ho := of_yes _ _ _ l0 l1 l2
  refine Tri.of Tryd.func15 rfl Tryd.call15 rfl ?_
  refine Goods.fin 2000 [.k 8 (.of g0), .k 13 (.of g1), .k 18 (.of g2), .k 22 (.of ho), .b true] mixed Tryd.func15 ?_
  show Yes _
  repeat' apply And.intro
  (all_goals first | rfl | assumption | trivial | omega | (simp [-List.getD_eq_getElem?_getD] <;> omega) | (simp (disch := omega) only [w64, wu64] <;> omega) | (simp (disch := omega) [-List.getD_eq_getElem?_getD, List.getD_cons_zero, List.getD_cons_succ, kCast_self, dfl_pair, dfl_int, w64, wu64] <;> omega) | (rw [Bool.eq_iff_iff]; simp (disch := omega) [-List.getD_eq_getElem?_getD, List.getD_cons_zero, List.getD_cons_succ, kCast_self, dfl_pair, dfl_int, w64, wu64] <;> omega) | (simp_all [-List.getD_eq_getElem?_getD] <;> omega))
end Go.Proofs.YtcicfbccdgkfhaaDoor.E
