/- WordSigns: the law's contract. -/
import Derived.Test.YtlabfkllndmjhaaDoorL01a
namespace Go.Proofs.YtlabfkllndmjhaaDoor.E
open Go
set_option maxRecDepth 100000

theorem WordSigns_tri (w : Nat) (hw : w < 18446744073709551616) (a b : Int) : Tri En 8 [.int .u64 w, fldA a b] [] (.bl true) (gones 0) := by
  refine Tri.of Tryd.func8 rfl Tryd.call8 rfl ?_
  by_cases h : FldOk a b
  · obtain ⟨a, b, rfl, rfl, hb, hab⟩ := fld_nat h
    have r2 := rright_yes a b h
    have g1 := get_yes w a b hw h
    have s1 := signed_yes w a b hw h
    have hl := getN_lt w a (b := b)
    by_cases h64 : b = 64
    · subst h64
      have e : IntKind.u64.wrap (sgnN w a 64) = (getN w a 64 : Int) := by
        rw [pow64] at hl
        unfold sgnN
        generalize getN w a 64 = g at *
        split
        · exact wu64 (by omega) (by omega)
        · show ((g : Int) - 2 ^ 64) % 18446744073709551616 = _
          omega
      refine Goods.fin 2000 [.c (.of speaks_tri), .c (.of r2), .k 18 (.of g1), .k 21 (.of s1), .b true] mixed Tryd.func8 ?_
      show Yes _
      repeat' apply And.intro
      (all_goals first | rfl | assumption | trivial | omega | (simp [-List.getD_eq_getElem?_getD] <;> omega) | (simp (disch := omega) only [w64, wu64] <;> omega) | (simp (disch := omega) [-List.getD_eq_getElem?_getD, List.getD_cons_zero, List.getD_cons_succ, kCast_self, dfl_pair, dfl_int, w64, wu64] <;> omega) | (rw [Bool.eq_iff_iff]; simp (disch := omega) [-List.getD_eq_getElem?_getD, List.getD_cons_zero, List.getD_cons_succ, kCast_self, dfl_pair, dfl_int, w64, wu64] <;> omega) | (simp_all [-List.getD_eq_getElem?_getD] <;> omega))
    · have hlt : b < 64 := by omega
      have hp1 : 2 ^ (b - 1) ≤ 2 ^ 62 := Nat.pow_le_pow_right (by omega) (by omega)
      have hp2 : 2 ^ b = 2 * 2 ^ (b - 1) := by rw [← Nat.pow_succ']; congr 1; omega
      have e0 : IntKind.i64.wrap ((b : Int) - 1) = ((b - 1 : Nat) : Int) := by rw [w64 (by omega) (by omega)]; omega
      have e1 : IntKind.u64.wrap (1 * 2 ^ min (IntKind.i64.wrap ((b : Int) - 1)).toNat IntKind.u64.bits) = ((2 ^ (b - 1) : Nat) : Int) := by
        rw [e0, Int.toNat_natCast, show min (b - 1) IntKind.u64.bits = b - 1 from Nat.min_eq_left (by show b - 1 ≤ 64; omega), Int.one_mul, show (2 : Int) ^ (b - 1) = ((2 ^ (b - 1) : Nat) : Int) by simp]
        exact wu64 (by omega) (by omega)
      have e2 : IntKind.i64.wrap (IntKind.i64.wrap (getN w a b : Int) - IntKind.i64.wrap (1 * 2 ^ min (b : Int).toNat IntKind.i64.bits)) = (getN w a b : Int) - 2 ^ b := by
        rw [Int.toNat_natCast, show min b IntKind.i64.bits = b from Nat.min_eq_left (by show b ≤ 64; omega), Int.one_mul, show (2 : Int) ^ b = ((2 ^ b : Nat) : Int) by simp]
        generalize getN w a b = g at *
        generalize 2 ^ b = B at *
        generalize 2 ^ (b - 1) = B1 at *
        unfold IntKind.wrap
        simp [IntKind.bits, IntKind.signed]
        omega
      by_cases hs : getN w a b < 2 ^ (b - 1)
      · rw [show sgnN w a b = getN w a b by unfold sgnN; rw [if_pos hs]] at s1
        have e4 : decide ((getN w a b : Int) ≥ IntKind.u64.wrap (1 * 2 ^ min (IntKind.i64.wrap ((b : Int) - 1)).toNat IntKind.u64.bits)) = false := by rw [e1]; exact decide_eq_false (by omega)
        refine Goods.fin 2000 [.c (.of speaks_tri), .c (.of r2), .k 18 (.of g1), .k 21 (.of s1), .b false, .b false, .s 49 (some true) true true] mixed Tryd.func8 ?_
        show Yes _
        repeat' apply And.intro
        (all_goals first | rfl | assumption | trivial | omega | (simp [-List.getD_eq_getElem?_getD, e0, e1] <;> omega) | (simp (disch := omega) only [w64, wu64] <;> omega) | (simp (disch := omega) [-List.getD_eq_getElem?_getD, List.getD_cons_zero, List.getD_cons_succ, kCast_self, dfl_pair, dfl_int, w64, wu64, e0, e1] <;> omega) | (rw [Bool.eq_iff_iff]; simp (disch := omega) [-List.getD_eq_getElem?_getD, List.getD_cons_zero, List.getD_cons_succ, kCast_self, dfl_pair, dfl_int, w64, wu64, e0, e1] <;> omega) | (simp_all [-List.getD_eq_getElem?_getD] <;> omega))
      · rw [show sgnN w a b = (getN w a b : Int) - 2 ^ b by unfold sgnN; rw [if_neg hs]] at s1
        have e3 : (getN w a b : Int) - 2 ^ b < 0 := by rw [show (2 : Int) ^ b = ((2 ^ b : Nat) : Int) by simp]; omega
        have e4 : decide ((getN w a b : Int) ≥ IntKind.u64.wrap (1 * 2 ^ min (IntKind.i64.wrap ((b : Int) - 1)).toNat IntKind.u64.bits)) = true := by rw [e1]; exact decide_eq_true (by omega)
        refine Goods.fin 2000 [.c (.of speaks_tri), .c (.of r2), .k 18 (.of g1), .k 21 (.of s1), .b false, .b true, .s 37 (some true) true true] mixed Tryd.func8 ?_
        show Yes _
        repeat' apply And.intro
        (all_goals first | rfl | assumption | trivial | omega | (simp [-List.getD_eq_getElem?_getD, e0, e1, e2, e3] <;> omega) | (simp (disch := omega) only [w64, wu64] <;> omega) | (simp (disch := omega) [-List.getD_eq_getElem?_getD, List.getD_cons_zero, List.getD_cons_succ, kCast_self, dfl_pair, dfl_int, w64, wu64, e0, e1, e2, e3] <;> omega) | (rw [Bool.eq_iff_iff]; simp (disch := omega) [-List.getD_eq_getElem?_getD, List.getD_cons_zero, List.getD_cons_succ, kCast_self, dfl_pair, dfl_int, w64, wu64, e0, e1, e2, e3] <;> omega) | (simp_all [-List.getD_eq_getElem?_getD] <;> omega))
  · have r2 := rright_no a b h
    refine Goods.fin 2000 [.c (.of speaks_tri), .c (.of r2)] mixed Tryd.func8 ?_
    show Yes _
    repeat' apply And.intro
    (all_goals first | rfl | assumption | trivial | omega | (simp [-List.getD_eq_getElem?_getD] <;> omega) | (simp (disch := omega) only [w64, wu64] <;> omega) | (simp (disch := omega) [-List.getD_eq_getElem?_getD, List.getD_cons_zero, List.getD_cons_succ, kCast_self, dfl_pair, dfl_int, w64, wu64] <;> omega) | (rw [Bool.eq_iff_iff]; simp (disch := omega) [-List.getD_eq_getElem?_getD, List.getD_cons_zero, List.getD_cons_succ, kCast_self, dfl_pair, dfl_int, w64, wu64] <;> omega) | (simp_all [-List.getD_eq_getElem?_getD] <;> omega))
theorem WordSigns_law (d : dats ([(false, (.int .u64)), (true, (.pair (.int .i64) (.pair (.int .i64) .unit)))] : List (Bool × Sh))) (hd : datsOk ([(false, (.int .u64)), (true, (.pair (.int .i64) (.pair (.int .i64) .unit)))] : List (Bool × Sh)) d) : Tri En 8 (argsOf ([(false, (.int .u64)), (true, (.pair (.int .i64) (.pair (.int .i64) .unit)))] : List (Bool × Sh)) d 0) (objsOf ([(false, (.int .u64)), (true, (.pair (.int .i64) (.pair (.int .i64) .unit)))] : List (Bool × Sh)) d) (.bl true) (gones (cnts ([(false, (.int .u64)), (true, (.pair (.int .i64) (.pair (.int .i64) .unit)))] : List (Bool × Sh)))) := by
  obtain ⟨w, ⟨a, b, _⟩, _⟩ := d
  obtain ⟨h0, _⟩ := hd
  obtain ⟨w, rfl, hw⟩ := u64_nat h0
  exact WordSigns_tri w hw a b
end Go.Proofs.YtlabfkllndmjhaaDoor.E
