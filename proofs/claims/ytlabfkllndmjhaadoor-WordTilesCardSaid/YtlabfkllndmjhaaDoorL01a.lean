/- WordFields, WordPuts, WordSigns: the laws' contracts. -/
import Derived.Test.YtlabfkllndmjhaaDoorPref
import Derived.Test.YtlabfkllndmjhaaDoorPbitv
namespace Go.Proofs.YtlabfkllndmjhaaDoor.E
open Go
set_option maxRecDepth 100000

theorem speaks_tri : Tri En 9 [] [] (.bl true) [] := by
  have f : FldOk ((8 : Nat) : Int) ((4 : Nat) : Int) := ⟨by omega, by omega, by omega, by omega⟩
  have h1 := put_yes 6708 5 8 4 (by omega) f (by decide)
  have h2 := of_yes 3 1 7 (by omega) (by omega) (by omega)
  have hr : refN 3 1 7 = 9223372036854776067 + 458752 := by decide +kernel
  rw [hr] at h2
  have h3 := to_yes (9223372036854776067 + 458752) (by omega) (by decide +kernel)
  have h4 := right_yes _ _ f
  have h5 := get_yes 6708 8 4 (by omega) f
  have h6 := signed_yes 6708 8 4 (by omega) f
  have e1 : putN 6708 5 8 4 = 5428 := by decide +kernel
  have e2 : getN 6708 8 4 = 10 := by decide +kernel
  have e3 : sgnN 6708 8 4 = -6 := by decide +kernel
  have e4 : getN (9223372036854776067 + 458752) 0 8 = 3 := by decide +kernel
  have e5 : getN (9223372036854776067 + 458752) 8 8 = 1 := by decide +kernel
  have e6 : getN (9223372036854776067 + 458752) 16 32 = 7 := by decide +kernel
  rw [e1] at h1
  rw [e2] at h5
  rw [e3] at h6
  rw [e4, e5, e6] at h3
  refine Tri.of Tryd.func9 rfl Tryd.call9 rfl ?_
  refine Goods.fin 2000 [.c (.of h1), .c (.of h2), .c (.of h3), .c (.of h4), .c (.of h5), .s 23 (some true) true true, .c (.of h6), .s 28 (some true) true true, .s 35 (some true) true true] mixed Tryd.func9 ?_
  show Yes _
  repeat' apply And.intro
  (all_goals first | rfl | assumption | trivial | omega | (simp [-List.getD_eq_getElem?_getD] <;> omega) | (simp (disch := omega) only [w64, wu64] <;> omega) | (simp (disch := omega) [-List.getD_eq_getElem?_getD, List.getD_cons_zero, List.getD_cons_succ, kCast_self, dfl_pair, dfl_int, w64, wu64] <;> omega) | (rw [Bool.eq_iff_iff]; simp (disch := omega) [-List.getD_eq_getElem?_getD, List.getD_cons_zero, List.getD_cons_succ, kCast_self, dfl_pair, dfl_int, w64, wu64] <;> omega) | (simp_all [-List.getD_eq_getElem?_getD] <;> omega))
theorem fld_nat {a b : Int} (h : FldOk a b) : ∃ x y : Nat, a = x ∧ b = y ∧ 1 ≤ y ∧ x + y ≤ 64 := by
  obtain ⟨h0, h1, h2, h3⟩ := h
  exact ⟨a.toNat, b.toNat, by omega, by omega, by omega, by omega⟩
theorem WordFields_tri (w : Nat) (hw : w < 18446744073709551616) (a b : Int) : Tri En 3 [.int .u64 w, fldA a b] [] (.bl true) (gones 0) := by
  refine Tri.of Tryd.func3 rfl Tryd.call3 rfl ?_
  by_cases h : FldOk a b
  · obtain ⟨a, b, rfl, rfl, hb, hab⟩ := fld_nat h
    have r1 := right_yes a b h
    have r2 := rright_yes a b h
    have g1 := get_yes w a b hw h
    have g2 := rget_tri w a b hw hab
    have s1 := signed_yes w a b hw h
    have s2 := rsgn_tri w a b hw hb hab
    refine Goods.fin 2000 [.c (.of speaks_tri), .k 10 (.of r1), .k 15 (.of r2), .c (.of r1), .k 47 (.of g1), .k 53 (.of g2), .s 54 (some true) true true, .k 58 (.of s1), .k 64 (.of s2)] mixed Tryd.func3 ?_
    show Yes _
    repeat' apply And.intro
    (all_goals first | rfl | assumption | trivial | omega | (simp [-List.getD_eq_getElem?_getD] <;> omega) | (simp (disch := omega) only [w64, wu64] <;> omega) | (simp (disch := omega) [-List.getD_eq_getElem?_getD, List.getD_cons_zero, List.getD_cons_succ, kCast_self, dfl_pair, dfl_int, w64, wu64] <;> omega) | (rw [Bool.eq_iff_iff]; simp (disch := omega) [-List.getD_eq_getElem?_getD, List.getD_cons_zero, List.getD_cons_succ, kCast_self, dfl_pair, dfl_int, w64, wu64] <;> omega) | (simp_all [-List.getD_eq_getElem?_getD] <;> omega))
  · have r1 := right_no a b h
    have r2 := rright_no a b h
    have p1 := put_no w 0 a b h
    have g1 := get_no w a b h
    have s1 := signed_no w a b h
    refine Goods.fin 2000 [.c (.of speaks_tri), .k 10 (.of r1), .k 15 (.of r2), .c (.of r1), .c (.of p1), .c (.of g1), .s 29 (some true) true true, .c (.of s1), .s 34 (some true) true true] mixed Tryd.func3 ?_
    show Yes _
    repeat' apply And.intro
    (all_goals first | rfl | assumption | trivial | omega | (simp [-List.getD_eq_getElem?_getD] <;> omega) | (simp (disch := omega) only [w64, wu64] <;> omega) | (simp (disch := omega) [-List.getD_eq_getElem?_getD, List.getD_cons_zero, List.getD_cons_succ, kCast_self, dfl_pair, dfl_int, w64, wu64] <;> omega) | (rw [Bool.eq_iff_iff]; simp (disch := omega) [-List.getD_eq_getElem?_getD, List.getD_cons_zero, List.getD_cons_succ, kCast_self, dfl_pair, dfl_int, w64, wu64] <;> omega) | (simp_all [-List.getD_eq_getElem?_getD] <;> omega))
theorem u64_nat {x : Int} (h : (Lit.int .u64 x).wf = true) : ∃ n : Nat, x = n ∧ n < 18446744073709551616 := by
  have := wf_u64 h
  exact ⟨x.toNat, by omega, by omega⟩
theorem WordFields_law (d : dats ([(false, (.int .u64)), (true, (.pair (.int .i64) (.pair (.int .i64) .unit)))] : List (Bool × Sh))) (hd : datsOk ([(false, (.int .u64)), (true, (.pair (.int .i64) (.pair (.int .i64) .unit)))] : List (Bool × Sh)) d) : Tri En 3 (argsOf ([(false, (.int .u64)), (true, (.pair (.int .i64) (.pair (.int .i64) .unit)))] : List (Bool × Sh)) d 0) (objsOf ([(false, (.int .u64)), (true, (.pair (.int .i64) (.pair (.int .i64) .unit)))] : List (Bool × Sh)) d) (.bl true) (gones (cnts ([(false, (.int .u64)), (true, (.pair (.int .i64) (.pair (.int .i64) .unit)))] : List (Bool × Sh)))) := by
  obtain ⟨w, ⟨a, b, _⟩, _⟩ := d
  obtain ⟨h0, _⟩ := hd
  obtain ⟨w, rfl, hw⟩ := u64_nat h0
  exact WordFields_tri w hw a b
theorem WordPuts_tri (w n : Nat) (hw : w < 18446744073709551616) (hn : n < 18446744073709551616) (a b : Int) : Tri En 4 [.int .u64 w, .int .u64 n, fldA a b] [] (.bl true) (gones 0) := by
  refine Tri.of Tryd.func4 rfl Tryd.call4 rfl ?_
  by_cases h : FldOk a b
  · obtain ⟨a, b, rfl, rfl, hb, hab⟩ := fld_nat h
    have r2 := rright_yes a b h
    by_cases hf : n < 2 ^ b
    · have p1 := put_yes w n a b hw h hf
      have p2 := rput_yes w n a b hw hf hn hab
      refine Goods.fin 2000 [.c (.of speaks_tri), .c (.of p1), .c (.of r2), .c (.of p2)] mixed Tryd.func4 ?_
      show Yes _
      repeat' apply And.intro
      (all_goals first | rfl | assumption | trivial | omega | (simp [-List.getD_eq_getElem?_getD] <;> omega) | (simp (disch := omega) only [w64, wu64] <;> omega) | (simp (disch := omega) [-List.getD_eq_getElem?_getD, List.getD_cons_zero, List.getD_cons_succ, kCast_self, dfl_pair, dfl_int, w64, wu64] <;> omega) | (rw [Bool.eq_iff_iff]; simp (disch := omega) [-List.getD_eq_getElem?_getD, List.getD_cons_zero, List.getD_cons_succ, kCast_self, dfl_pair, dfl_int, w64, wu64] <;> omega) | (simp_all [-List.getD_eq_getElem?_getD] <;> omega))
    · have p1 := put_great w n a b h hf
      have p2 := rput_no w n a b hw hn hab hf
      refine Goods.fin 2000 [.c (.of speaks_tri), .c (.of p1), .c (.of r2), .c (.of p2)] mixed Tryd.func4 ?_
      show Yes _
      repeat' apply And.intro
      (all_goals first | rfl | assumption | trivial | omega | (simp [-List.getD_eq_getElem?_getD] <;> omega) | (simp (disch := omega) only [w64, wu64] <;> omega) | (simp (disch := omega) [-List.getD_eq_getElem?_getD, List.getD_cons_zero, List.getD_cons_succ, kCast_self, dfl_pair, dfl_int, w64, wu64] <;> omega) | (rw [Bool.eq_iff_iff]; simp (disch := omega) [-List.getD_eq_getElem?_getD, List.getD_cons_zero, List.getD_cons_succ, kCast_self, dfl_pair, dfl_int, w64, wu64] <;> omega) | (simp_all [-List.getD_eq_getElem?_getD] <;> omega))
  · have r2 := rright_no a b h
    have p1 := put_no w n a b h
    refine Goods.fin 2000 [.c (.of speaks_tri), .c (.of p1), .c (.of r2)] mixed Tryd.func4 ?_
    show Yes _
    repeat' apply And.intro
    (all_goals first | rfl | assumption | trivial | omega | (simp [-List.getD_eq_getElem?_getD] <;> omega) | (simp (disch := omega) only [w64, wu64] <;> omega) | (simp (disch := omega) [-List.getD_eq_getElem?_getD, List.getD_cons_zero, List.getD_cons_succ, kCast_self, dfl_pair, dfl_int, w64, wu64] <;> omega) | (rw [Bool.eq_iff_iff]; simp (disch := omega) [-List.getD_eq_getElem?_getD, List.getD_cons_zero, List.getD_cons_succ, kCast_self, dfl_pair, dfl_int, w64, wu64] <;> omega) | (simp_all [-List.getD_eq_getElem?_getD] <;> omega))
theorem WordPuts_law (d : dats ([(false, (.int .u64)), (false, (.int .u64)), (true, (.pair (.int .i64) (.pair (.int .i64) .unit)))] : List (Bool × Sh))) (hd : datsOk ([(false, (.int .u64)), (false, (.int .u64)), (true, (.pair (.int .i64) (.pair (.int .i64) .unit)))] : List (Bool × Sh)) d) : Tri En 4 (argsOf ([(false, (.int .u64)), (false, (.int .u64)), (true, (.pair (.int .i64) (.pair (.int .i64) .unit)))] : List (Bool × Sh)) d 0) (objsOf ([(false, (.int .u64)), (false, (.int .u64)), (true, (.pair (.int .i64) (.pair (.int .i64) .unit)))] : List (Bool × Sh)) d) (.bl true) (gones (cnts ([(false, (.int .u64)), (false, (.int .u64)), (true, (.pair (.int .i64) (.pair (.int .i64) .unit)))] : List (Bool × Sh)))) := by
  obtain ⟨w, n, ⟨a, b, _⟩, _⟩ := d
  obtain ⟨h0, h1, _⟩ := hd
  obtain ⟨w, rfl, hw⟩ := u64_nat h0
  obtain ⟨n, rfl, hn⟩ := u64_nat h1
  exact WordPuts_tri w n hw hn a b
end Go.Proofs.YtlabfkllndmjhaaDoor.E
